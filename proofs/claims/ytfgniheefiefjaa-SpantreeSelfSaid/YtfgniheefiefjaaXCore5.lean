/- Rows of spans: too great ones, and those that are the same: contracts. Conditions: none beyond the context's. -/
import Derived.Test.YtfgniheefiefjaaXCore4
import Derived.Test.YtfgniheefiefjaaRows
import Derived.ProofKit
import Derived.Lib.SmallJoins
/- Small contracts of the span tree seat: numbers, texts, orders. Conditions: none beyond the context's. -/
namespace Go.Proofs.Ytfgniheefiefjaa
open Go.Evl Go.RowKit

theorem wrapI {x : Int} (h0 : -9223372036854775808 ≤ x) (h1 : x < 9223372036854775808) : IntKind.i64.wrap x = x := by rw [IntKind.wrap_i64]; omega
theorem chk_run {α : Type} {b : Bool} {t : Tr α} {r : α} (h : (Tr.chk b t).run = some r) : b = true ∧ t.run = some r := by
  cases b with
  | true => exact ⟨rfl, h⟩
  | false => simp [Tr.run] at h
def isRet : Res → Bool
  | .ret v => bnd 0 v
  | .pan => true
theorem tr_ok {q r : Res} (hq : okRes q = true) (h : (Tr.leaf q).run = some r) : okRes r = true := by
  simp only [Tr.run, Option.some.injEq] at h
  rw [← h]; exact hq
abbrev RB (b : Bool) : Option Res := some (.ret (.bool b))
abbrev RI (x : Int) : Option Res := some (.ret (.int .i64 x))
theorem bif_rb (b x y : Bool) : (bif b then RB x else RB y) = RB (bif b then x else y) := by cases b <;> rfl
def inI (a : Int) : Bool := decide (-9223372036854775808 ≤ a ∧ a < 9223372036854775808)
theorem inI_iff {a : Int} : inI a = true ↔ -9223372036854775808 ≤ a ∧ a < 9223372036854775808 := by simp only [inI, decide_eq_true_eq]
/-- the begin of a trace -/
def bgI (a : Int) : Int := a / 1024
def trB (a : Int) : Bool := decide (1024 ≤ a) && decide (a ≤ 1125899906843647)
def idB (a : Int) : Bool := decide (1 ≤ a) && decide (a ≤ 1152921504606846976)
def txB (s : ByteArray) : Bool := decide ((1 : Int) ≤ (s.size : Int)) && decide ((s.size : Int) ≤ 60)
def cmI (a b : Int) : Int := if a < b then -1 else if b < a then 1 else 0
def orI (a b : Int) : Int := if a = 0 then b else a
def cpI (a b c d : Int) : Int := orI (cmI a c) (cmI b d)
def ltB (a : Int) : Bool := (decide (97 ≤ a) && decide (a ≤ 122)) || (decide (65 ≤ a) && decide (a ≤ 90)) || (decide (48 ≤ a) && decide (a ≤ 57)) || (a == 95)
def t43 : Ent := ⟨43, fun
  | [.int .i64 a] => .leaf (.ret (.int .i64 (bgI a)))
  | _ => .non⟩
theorem vtt43 (a : Int) : evFn Try.prog (spOf []) (inlOf []) extD (cKD [] []) (fun _ => .unroll 0) Try.f43 [.int .i64 a] [] (fun r _ => some r) =
    (RI (a.fdiv (2 ^ 10)) : Option Res) := by kernel_rfl
theorem t43_ok : SpecHolds Try.prog InvD 43 fun a => (t43.2 a).run := by
  refine specD cx0 Try.func43 (c := codeOf Try.prog 43) (by kernel_rfl) (fun _ => .unroll 0) (fun _ _ => trivial) fun args r hh => ?_
  simp only [t43] at hh
  split at hh
  · rename_i a
    refine ⟨by kernel_rfl, tr_ok (by rfl) hh, ?_⟩
    refine (vtt43 a).trans (Eq.trans ?_ hh)
    show RI (a.fdiv (2 ^ 10)) = RI (bgI a)
    rw [bgI, Int.fdiv_eq_ediv_of_nonneg _ (by decide)]
    rfl
  · simp [Tr.run] at hh
def t48 : Ent := ⟨48, fun
  | [.int .i64 a] => .chk (decide (0 ≤ a) && inI a) (.leaf (.ret (.int .i64 (bgI a))))
  | _ => .non⟩
theorem vtt48 (a : Int) : evFn Try.prog (spOf []) (inlOf []) extD (cKD [] []) (fun _ => .unroll 0) Try.f48 [.int .i64 a] [] (fun r _ => some r) =
    (RI (IntKind.i64.wrap (a.tdiv 1024)) : Option Res) := by kernel_rfl
theorem t48_ok : SpecHolds Try.prog InvD 48 fun a => (t48.2 a).run := by
  refine specD cx0 Try.func48 (c := codeOf Try.prog 48) (by kernel_rfl) (fun _ => .unroll 0) (fun _ _ => trivial) fun args r hh => ?_
  simp only [t48] at hh
  split at hh
  · rename_i a
    obtain ⟨hg, hh⟩ := chk_run hh
    refine ⟨by kernel_rfl, tr_ok (by rfl) hh, ?_⟩
    refine (vtt48 a).trans (Eq.trans ?_ hh)
    rw [Bool.and_eq_true, decide_eq_true_eq, inI_iff] at hg
    show RI (IntKind.i64.wrap (a.tdiv 1024)) = RI (bgI a)
    rw [bgI, Int.tdiv_eq_ediv_of_nonneg hg.1, wrapI (by omega) (by omega)]
  · simp [Tr.run] at hh
def t41 : Ent := ⟨41, fun
  | [.int .i64 a] => .leaf (.ret (.bool (idB a)))
  | _ => .non⟩
theorem vtt41 (a : Int) : evFn Try.prog (spOf []) (inlOf []) extD (cKD [] []) (fun _ => .unroll 0) Try.f41 [.int .i64 a] [] (fun r _ => some r) =
    (bif decide (1 ≤ a) then bif decide (a ≤ 1152921504606846976) then RB true else RB false else RB false : Option Res) := by kernel_rfl
theorem t41_ok : SpecHolds Try.prog InvD 41 fun a => (t41.2 a).run := by
  refine specD cx0 Try.func41 (c := codeOf Try.prog 41) (by kernel_rfl) (fun _ => .unroll 0) (fun _ _ => trivial) fun args r hh => ?_
  simp only [t41] at hh
  split at hh
  · rename_i a
    refine ⟨by kernel_rfl, tr_ok (by rfl) hh, ?_⟩
    refine (vtt41 a).trans (Eq.trans ?_ hh)
    simp only [Tr.run, idB]
    cases decide (1 ≤ a) <;> cases decide (a ≤ 1152921504606846976) <;> rfl
  · simp [Tr.run] at hh
def t42 : Ent := ⟨42, fun
  | [.str s] => .leaf (.ret (.bool (txB s)))
  | _ => .non⟩
theorem vtt42 (s : ByteArray) : evFn Try.prog (spOf []) (inlOf []) extD (cKD [] []) (fun _ => .unroll 0) Try.f42 [.str s] [] (fun r _ => some r) =
    (bif decide ((1 : Int) ≤ (s.size : Int)) then bif decide ((s.size : Int) ≤ 60) then RB true else RB false else RB false : Option Res) := by kernel_rfl
theorem t42_ok : SpecHolds Try.prog InvD 42 fun a => (t42.2 a).run := by
  refine specD cx0 Try.func42 (c := codeOf Try.prog 42) (by kernel_rfl) (fun _ => .unroll 0) (fun _ _ => trivial) fun args r hh => ?_
  simp only [t42] at hh
  split at hh
  · rename_i s
    refine ⟨by kernel_rfl, tr_ok (by rfl) hh, ?_⟩
    refine (vtt42 s).trans (Eq.trans ?_ hh)
    simp only [Tr.run, txB]
    cases decide ((1 : Int) ≤ (s.size : Int)) <;> cases decide ((s.size : Int) ≤ 60) <;> rfl
  · simp [Tr.run] at hh
def t47 : Ent := ⟨47, fun
  | [.str s] => .leaf (.ret (.bool (txB s)))
  | _ => .non⟩
theorem vtt47 (s : ByteArray) : evFn Try.prog (spOf []) (inlOf []) extD (cKD [] []) (fun _ => .unroll 0) Try.f47 [.str s] [] (fun r _ => some r) =
    (bif decide ((s.size : Int) ≥ 1) then bif decide ((s.size : Int) ≤ 60) then RB true else RB false else RB false : Option Res) := by kernel_rfl
theorem t47_ok : SpecHolds Try.prog InvD 47 fun a => (t47.2 a).run := by
  refine specD cx0 Try.func47 (c := codeOf Try.prog 47) (by kernel_rfl) (fun _ => .unroll 0) (fun _ _ => trivial) fun args r hh => ?_
  simp only [t47] at hh
  split at hh
  · rename_i s
    refine ⟨by kernel_rfl, tr_ok (by rfl) hh, ?_⟩
    refine (vtt47 s).trans (Eq.trans ?_ hh)
    simp only [Tr.run, txB, ge_iff_le]
    cases decide ((1 : Int) ≤ (s.size : Int)) <;> cases decide ((s.size : Int) ≤ 60) <;> rfl
  · simp [Tr.run] at hh
theorem cx51 : (mkCx Try.prog (spOf []) (inlOf [66]) extD).Ok InvD := cx_of [66] (by kernel_rfl) (by
  intro p hp
  cases hp)
def t51 : Ent := ⟨51, fun
  | [.int .i64 a, .int .i64 b] => .leaf (.ret (.int .i64 (cmI a b)))
  | _ => .non⟩
theorem vtt51 (a b : Int) : evFn Try.prog (spOf []) (inlOf [66]) extD (cKD [] [66]) (fun _ => .unroll 0) Try.f51 [.int .i64 a, .int .i64 b] [] (fun r _ => some r) =
    (bif a != a then bif b != b then RI 0 else RI (-1) else bif b != b then RI 1 else bif decide (a < b) then RI (-1) else bif decide (a > b) then RI 1 else RI 0 : Option Res) := by kernel_rfl
theorem t51_ok : SpecHolds Try.prog InvD 51 fun a => (t51.2 a).run := by
  refine specD cx51 Try.func51 (c := codeOf Try.prog 51) (by kernel_rfl) (fun _ => .unroll 0) (fun _ _ => trivial) fun args r hh => ?_
  simp only [t51] at hh
  split at hh
  · rename_i a b
    refine ⟨by kernel_rfl, tr_ok (by rfl) hh, ?_⟩
    refine (vtt51 a b).trans (Eq.trans ?_ hh)
    simp only [Tr.run, cmI, bne_self_eq_false, cond_false]
    by_cases h1 : a < b
    · simp [h1]
    · by_cases h2 : b < a <;> simp [h1, h2]
  · simp [Tr.run] at hh
def t76 : Ent := ⟨76, fun
  | [.int .u8 a] => .leaf (.ret (.bool (ltB a)))
  | _ => .non⟩
theorem vtt76 (a : Int) : evFn Try.prog (spOf []) (inlOf []) extD (cKD [] []) (fun _ => .unroll 0) Try.f76 [.int .u8 a] [] (fun r _ => some r) =
    (bif decide (97 ≤ a) then bif decide (a ≤ 122) then RB true else bif decide (65 ≤ a) then bif decide (a ≤ 90) then RB true else bif decide (48 ≤ a) then bif decide (a ≤ 57) then RB true else bif a == 95 then RB true else RB false else bif a == 95 then RB true else RB false else bif decide (48 ≤ a) then bif decide (a ≤ 57) then RB true else bif a == 95 then RB true else RB false else bif a == 95 then RB true else RB false else bif decide (65 ≤ a) then bif decide (a ≤ 90) then RB true else bif decide (48 ≤ a) then bif decide (a ≤ 57) then RB true else bif a == 95 then RB true else RB false else bif a == 95 then RB true else RB false else bif decide (48 ≤ a) then bif decide (a ≤ 57) then RB true else bif a == 95 then RB true else RB false else bif a == 95 then RB true else RB false : Option Res) := by kernel_rfl
theorem t76_ok : SpecHolds Try.prog InvD 76 fun a => (t76.2 a).run := by
  refine specD cx0 Try.func76 (c := codeOf Try.prog 76) (by kernel_rfl) (fun _ => .unroll 0) (fun _ _ => trivial) fun args r hh => ?_
  simp only [t76] at hh
  split at hh
  · rename_i a
    refine ⟨by kernel_rfl, tr_ok (by rfl) hh, ?_⟩
    refine (vtt76 a).trans (Eq.trans ?_ hh)
    simp only [Tr.run, ltB]
    cases decide (97 ≤ a) <;> cases decide (a ≤ 122) <;> cases decide (65 ≤ a) <;> cases decide (a ≤ 90) <;> cases decide (48 ≤ a) <;> cases decide (a ≤ 57) <;> cases (a == 95) <;> rfl
  · simp [Tr.run] at hh
def t77 : Ent := ⟨77, fun
  | [.int .u8 a] => .leaf (.ret (.bool (ltB a)))
  | _ => .non⟩
theorem vtt77 (a : Int) : evFn Try.prog (spOf []) (inlOf []) extD (cKD [] []) (fun _ => .unroll 0) Try.f77 [.int .u8 a] [] (fun r _ => some r) =
    (bif decide (a ≥ 97) then bif decide (a ≤ 122) then RB true else bif decide (a ≥ 65) then bif decide (a ≤ 90) then RB true else bif decide (a ≥ 48) then bif decide (a ≤ 57) then RB true else bif a == 95 then RB true else RB false else bif a == 95 then RB true else RB false else bif decide (a ≥ 48) then bif decide (a ≤ 57) then RB true else bif a == 95 then RB true else RB false else bif a == 95 then RB true else RB false else bif decide (a ≥ 65) then bif decide (a ≤ 90) then RB true else bif decide (a ≥ 48) then bif decide (a ≤ 57) then RB true else bif a == 95 then RB true else RB false else bif a == 95 then RB true else RB false else bif decide (a ≥ 48) then bif decide (a ≤ 57) then RB true else bif a == 95 then RB true else RB false else bif a == 95 then RB true else RB false : Option Res) := by kernel_rfl
theorem t77_ok : SpecHolds Try.prog InvD 77 fun a => (t77.2 a).run := by
  refine specD cx0 Try.func77 (c := codeOf Try.prog 77) (by kernel_rfl) (fun _ => .unroll 0) (fun _ _ => trivial) fun args r hh => ?_
  simp only [t77] at hh
  split at hh
  · rename_i a
    refine ⟨by kernel_rfl, tr_ok (by rfl) hh, ?_⟩
    refine (vtt77 a).trans (Eq.trans ?_ hh)
    simp only [Tr.run, ltB, ge_iff_le]
    cases decide (97 ≤ a) <;> cases decide (a ≤ 122) <;> cases decide (65 ≤ a) <;> cases decide (a ≤ 90) <;> cases decide (48 ≤ a) <;> cases decide (a ≤ 57) <;> cases (a == 95) <;> rfl
  · simp [Tr.run] at hh
theorem cx40 : (mkCx Try.prog (spOf [t43]) (inlOf []) extD).Ok InvD := cx_of [] (by kernel_rfl) (by
  intro p hp
  simp only [List.mem_cons, List.not_mem_nil, or_false] at hp
  rcases hp with rfl
  · exact t43_ok)
def t40 : Ent := ⟨40, fun
  | [.int .i64 a] => .leaf (.ret (.bool (trB a)))
  | _ => .non⟩
theorem vtt40 (a : Int) : evFn Try.prog (spOf [t43]) (inlOf []) extD (cKD [t43] []) (fun _ => .unroll 0) Try.f40 [.int .i64 a] [] (fun r _ => some r) =
    (bif decide (1 ≤ bgI a) then bif decide (bgI a ≤ 1099511627776) then RB true else RB false else RB false : Option Res) := by kernel_rfl
theorem t40_ok : SpecHolds Try.prog InvD 40 fun a => (t40.2 a).run := by
  refine specD cx40 Try.func40 (c := codeOf Try.prog 40) (by kernel_rfl) (fun _ => .unroll 0) (fun _ _ => trivial) fun args r hh => ?_
  simp only [t40] at hh
  split at hh
  · rename_i a
    refine ⟨by kernel_rfl, tr_ok (by rfl) hh, ?_⟩
    refine (vtt40 a).trans (Eq.trans ?_ hh)
    simp only [Tr.run, trB]
    rw [show decide (1 ≤ bgI a) = decide (1024 ≤ a) from decide_eq_decide.2 (by unfold bgI; omega), show decide (bgI a ≤ 1099511627776) = decide (a ≤ 1125899906843647) from decide_eq_decide.2 (by unfold bgI; omega)]
    cases decide (1024 ≤ a) <;> cases decide (a ≤ 1125899906843647) <;> rfl
  · simp [Tr.run] at hh
theorem cx46 : (mkCx Try.prog (spOf [t48]) (inlOf []) extD).Ok InvD := cx_of [] (by kernel_rfl) (by
  intro p hp
  simp only [List.mem_cons, List.not_mem_nil, or_false] at hp
  rcases hp with rfl
  · exact t48_ok)
def t46 : Ent := ⟨46, fun
  | [.int .i64 a] => .chk (inI a) (.leaf (.ret (.bool (trB a))))
  | _ => .non⟩
theorem vtt46 (a : Int) : evFn Try.prog (spOf [t48]) (inlOf []) extD (cKD [t48] []) (fun _ => .unroll 0) Try.f46 [.int .i64 a] [] (fun r _ => some r) =
    (bif decide (a ≥ 1024) then bif decide (0 ≤ a) && inI a then bif decide (bgI a ≤ 1099511627776) then RB true else RB false else none else RB false : Option Res) := by kernel_rfl
theorem t46_ok : SpecHolds Try.prog InvD 46 fun a => (t46.2 a).run := by
  refine specD cx46 Try.func46 (c := codeOf Try.prog 46) (by kernel_rfl) (fun _ => .unroll 0) (fun _ _ => trivial) fun args r hh => ?_
  simp only [t46] at hh
  split at hh
  · rename_i a
    obtain ⟨hg, hh⟩ := chk_run hh
    refine ⟨by kernel_rfl, tr_ok (by rfl) hh, ?_⟩
    refine (vtt46 a).trans (Eq.trans ?_ hh)
    simp only [Tr.run, trB, ge_iff_le, hg, Bool.and_true]
    rw [show decide (bgI a ≤ 1099511627776) = decide (a ≤ 1125899906843647) from decide_eq_decide.2 (by unfold bgI; omega)]
    by_cases h : 1024 ≤ a
    · rw [decide_eq_true h, decide_eq_true (show 0 ≤ a by omega)]
      cases decide (a ≤ 1125899906843647) <;> rfl
    · rw [decide_eq_false h]; rfl
  · simp [Tr.run] at hh
def mk2 (x0 x1 : Int) (r : Nat → List AV) : Nat → List AV
  | 0 => [.int .i64 x0]
  | 1 => [.int .i64 x1]
  | n + 2 => r n
theorem mk2_eq {el : Nat → List AV} {x y : Int} (h : el 0 = [.int .i64 x]) (h1 : el 1 = [.int .i64 y]) : el = mk2 x y fun n => el (n + 2) := by
  funext n
  match n with
  | 0 => exact h
  | 1 => exact h1
  | n + 2 => rfl
def t50 : Ent := ⟨50, fun
  | [.isl 2 1 el] => match el 0, el 1 with
    | [.int .i64 x], [.int .i64 y] => .leaf (.ret (.int .i64 (orI x y)))
    | _, _ => .non
  | _ => .non⟩
theorem vt50 (x y : Int) (r : Nat → List AV) : evFn Try.prog (spOf []) (inlOf []) extD (cKD [] []) (fun _ => .unroll 3) Try.f50 [.isl 2 1 (mk2 x y r)] [] (fun r _ => some r) =
    (bif x != 0 then RI x else bif y != 0 then RI y else RI 0 : Option Res) := by kernel_rfl
theorem t50_ok : SpecHolds Try.prog InvD 50 fun a => (t50.2 a).run := by
  refine specD cx0 Try.func50 (c := codeOf Try.prog 50) (by kernel_rfl) (fun _ => .unroll 3) (fun _ _ => trivial) fun args r hh => ?_
  simp only [t50] at hh
  split at hh
  · rename_i el
    split at hh
    · rename_i x y h0 h1
      refine ⟨by kernel_rfl, tr_ok (by rfl) hh, ?_⟩
      rw [mk2_eq h0 h1]
      refine (vt50 x y _).trans (Eq.trans ?_ hh)
      simp only [Tr.run, orI]
      by_cases h2 : x = 0
      · by_cases h3 : y = 0
        · simp [h2, h3]
        · have : (y != 0) = true := bne_iff_ne.2 h3
          simp [h2, this]
      · have : (x != 0) = true := bne_iff_ne.2 h2
        simp [h2, this]
    · simp [Tr.run] at hh
  · simp [Tr.run] at hh
theorem cx14 : (mkCx Try.prog (spOf [t51, t50]) (inlOf []) extD).Ok InvD := cx_of [] (by kernel_rfl) (by
  intro p hp
  simp only [List.mem_cons, List.not_mem_nil, or_false] at hp
  rcases hp with rfl | rfl
  · exact t51_ok
  · exact t50_ok)
def t14 : Ent := ⟨14, fun
  | [.agg [.int .i64 t1, .int .i64 i1, .int .i64 _p1, .str _v1, .str _m1, .int .i64 _b1, .int .i64 _e1, .int .i64 _s1, .isz _n1 [.str, .str] _x1, .isz _k1 [.int .i64, .int .i64] _y1], .agg [.int .i64 t2, .int .i64 i2, .int .i64 _p2, .str _v2, .str _m2, .int .i64 _b2, .int .i64 _e2, .int .i64 _s2, .isz _n2 [.str, .str] _x2, .isz _k2 [.int .i64, .int .i64] _y2]] => .leaf (.ret (.int .i64 (cpI t1 i1 t2 i2)))
  | _ => .non⟩
theorem vtt14 (t1 i1 p1 : Int) (v1 m1 : ByteArray) (b1 e1 s1 : Int) (n1 : Nat) (x1 : Nat → Nat → Dt) (k1 : Nat) (y1 : Nat → Nat → Dt) (t2 i2 p2 : Int) (v2 m2 : ByteArray) (b2 e2 s2 : Int) (n2 : Nat) (x2 : Nat → Nat → Dt) (k2 : Nat) (y2 : Nat → Nat → Dt) : evFn Try.prog (spOf [t51, t50]) (inlOf []) extD (cKD [t51, t50] []) (fun _ => .unroll 0) Try.f14 [.agg [.int .i64 t1, .int .i64 i1, .int .i64 p1, .str v1, .str m1, .int .i64 b1, .int .i64 e1, .int .i64 s1, .isz n1 [.str, .str] x1, .isz k1 [.int .i64, .int .i64] y1], .agg [.int .i64 t2, .int .i64 i2, .int .i64 p2, .str v2, .str m2, .int .i64 b2, .int .i64 e2, .int .i64 s2, .isz n2 [.str, .str] x2, .isz k2 [.int .i64, .int .i64] y2]] [] (fun r _ => some r) =
    (RI (orI (cmI t1 t2) (cmI i1 i2)) : Option Res) := by kernel_rfl
theorem t14_ok : SpecHolds Try.prog InvD 14 fun a => (t14.2 a).run := by
  refine specD cx14 Try.func14 (c := codeOf Try.prog 14) (by kernel_rfl) (fun _ => .unroll 0) (fun _ _ => trivial) fun args r hh => ?_
  simp only [t14] at hh
  split at hh
  · rename_i t1 i1 p1 v1 m1 b1 e1 s1 n1 x1 k1 y1 t2 i2 p2 v2 m2 b2 e2 s2 n2 x2 k2 y2
    refine ⟨by kernel_rfl, tr_ok (by rfl) hh, ?_⟩
    refine (vtt14 t1 i1 p1 v1 m1 b1 e1 s1 n1 x1 k1 y1 t2 i2 p2 v2 m2 b2 e2 s2 n2 x2 k2 y2).trans (Eq.trans ?_ hh)
    rfl
  · simp [Tr.run] at hh
def t15 : Ent := ⟨15, fun
  | [.agg [.int .i64 t1, .int .i64 i1, .int .i64 _p1, .str _v1, .str _m1, .int .i64 _b1, .int .i64 _e1, .int .i64 _s1, .isz _n1 [.str, .str] _x1, .isz _k1 [.int .i64, .int .i64] _y1], .agg [.int .i64 t2, .int .i64 i2, .int .i64 _p2, .str _v2, .str _m2, .int .i64 _b2, .int .i64 _e2, .int .i64 _s2, .isz _n2 [.str, .str] _x2, .isz _k2 [.int .i64, .int .i64] _y2]] => .leaf (.ret (.int .i64 (cpI t1 i1 t2 i2)))
  | _ => .non⟩
theorem vtt15 (t1 i1 p1 : Int) (v1 m1 : ByteArray) (b1 e1 s1 : Int) (n1 : Nat) (x1 : Nat → Nat → Dt) (k1 : Nat) (y1 : Nat → Nat → Dt) (t2 i2 p2 : Int) (v2 m2 : ByteArray) (b2 e2 s2 : Int) (n2 : Nat) (x2 : Nat → Nat → Dt) (k2 : Nat) (y2 : Nat → Nat → Dt) : evFn Try.prog (spOf []) (inlOf []) extD (cKD [] []) (fun _ => .unroll 0) Try.f15 [.agg [.int .i64 t1, .int .i64 i1, .int .i64 p1, .str v1, .str m1, .int .i64 b1, .int .i64 e1, .int .i64 s1, .isz n1 [.str, .str] x1, .isz k1 [.int .i64, .int .i64] y1], .agg [.int .i64 t2, .int .i64 i2, .int .i64 p2, .str v2, .str m2, .int .i64 b2, .int .i64 e2, .int .i64 s2, .isz n2 [.str, .str] x2, .isz k2 [.int .i64, .int .i64] y2]] [] (fun r _ => some r) =
    (bif decide (t1 < t2) then RI (-1) else bif t1 == t2 then bif decide (i1 < i2) then RI (-1) else bif decide (t1 > t2) then RI 1 else bif decide (i1 > i2) then RI 1 else RI 0 else bif decide (t1 > t2) then RI 1 else bif decide (i1 > i2) then RI 1 else RI 0 : Option Res) := by kernel_rfl
theorem t15_ok : SpecHolds Try.prog InvD 15 fun a => (t15.2 a).run := by
  refine specD cx0 Try.func15 (c := codeOf Try.prog 15) (by kernel_rfl) (fun _ => .unroll 0) (fun _ _ => trivial) fun args r hh => ?_
  simp only [t15] at hh
  split at hh
  · rename_i t1 i1 p1 v1 m1 b1 e1 s1 n1 x1 k1 y1 t2 i2 p2 v2 m2 b2 e2 s2 n2 x2 k2 y2
    refine ⟨by kernel_rfl, tr_ok (by rfl) hh, ?_⟩
    refine (vtt15 t1 i1 p1 v1 m1 b1 e1 s1 n1 x1 k1 y1 t2 i2 p2 v2 m2 b2 e2 s2 n2 x2 k2 y2).trans (Eq.trans ?_ hh)
    simp only [Tr.run, cpI, orI, cmI]
    by_cases h1 : t1 < t2
    · simp [h1]
    · by_cases h2 : t2 < t1
      · have h3 : t1 ≠ t2 := by omega
        simp [h1, h2, beq_false_of_ne h3]
      · obtain rfl : t1 = t2 := by omega
        by_cases h4 : i1 < i2
        · simp [h4]
        · by_cases h5 : i2 < i1 <;> simp [h4, h5]
  · simp [Tr.run] at hh
def t64 : Ent := ⟨64, fun
  | [.agg [.int .i64 a, .int .i64 b], .agg [.int .i64 c, .int .i64 d]] => .leaf (.ret (.int .i64 (cpI a b c d)))
  | _ => .non⟩
theorem vt64 (a b c d : Int) : evFn Try.prog (spOf [t51, t50]) (inlOf []) extD (cKD [t51, t50] []) (fun _ => .unroll 0) Try.f64 [.agg [.int .i64 a, .int .i64 b], .agg [.int .i64 c, .int .i64 d]] [] (fun r _ => some r) =
    (RI (orI (cmI a c) (cmI b d)) : Option Res) := by kernel_rfl
theorem t64_ok : SpecHolds Try.prog InvD 64 fun a => (t64.2 a).run := by
  refine specD cx14 Try.func64 (c := codeOf Try.prog 64) (by kernel_rfl) (fun _ => .unroll 0) (fun _ _ => trivial) fun args r hh => ?_
  simp only [t64] at hh
  split at hh
  · rename_i a b c d
    refine ⟨by kernel_rfl, tr_ok (by rfl) hh, ?_⟩
    exact (vt64 a b c d).trans hh
  · simp [Tr.run] at hh
end Go.Proofs.Ytfgniheefiefjaa

/- Names: contracts. Conditions: none beyond the context's. -/
namespace Go.Proofs.Ytfgniheefiefjaa
open Go.Evl Go.RowKit
/-- a byte of a text -/
def bt (s : ByteArray) (i : Int) : Int := ((s[i.toNat]?).getD 0).toNat
def gNm (s : ByteArray) (k : Nat) : Option Unit := if ltB (bt s k) then none else some ()
def nmS (s : ByteArray) (k : Nat) : Option (Unit × Nat) := scan (gNm s) (s.size - k) k
/-- is a text a name? -/
def nmB (s : ByteArray) : Bool := txB s && (!(decide (48 ≤ bt s 0) && decide (bt s 0 ≤ 57)) && (nmS s 0).isNone)
abbrev keep63 : List Nat := [0, 2, 3]
abbrev vs63 (s : ByteArray) (z : Bool) (i : Int) : List AV := [.str s, .bool z, .int .i64 i]
def f63s : List AV → List Ob → Tr (Ex × List AV × List Ob)
  | [.str s, .bool z, .int .i64 i], [] => .chk (decide (0 ≤ i) && (decide (i ≤ (s.size : Int)) && Nat.ble s.size 100000))
      (.node (nmS s i.toNat).isNone (.leaf (.exit 0, vs63 s z s.size, [])) (.leaf (.ret, vs63 s false (((nmS s i.toNat).getD ((), 0)).2 : Int), [])))
  | _, _ => .non
abbrev lp63 (_ : Nat) : LT := .sum keep63 f63s
def st63 (p : ByteArray × Bool) (k : Nat) : List AV := vs63 p.1 p.2 (k : Int)
def rnd63 (s : ByteArray) (z : Bool) (i : Int) : Option (Ex × List AV × List Ob) :=
  bif decide (i < (s.size : Int)) then bif decide (0 ≤ i) && decide (i < (s.size : Int)) then bif ltB (bt s i) then some (.normal, vs63 s z (IntKind.i64.wrap (i + 1)), []) else some (.ret, vs63 s false i, []) else none else some (.exit 0, vs63 s z i, [])
theorem sum_nm {sp : Sp} {cK : {β : Type} → CallK β} {nt : Nat} {body : Code} (h : ∀ (s : ByteArray) (z : Bool) (i : Int), evC (β := Ex × List AV × List Ob) Try.prog sp (inlOf []) extD cK lp63 body ⟨mkF nt keep63 (vs63 s z i), []⟩ (fun e st => (cutBack keep63 0 st).map fun q => (e, q.1, q.2)) = rnd63 s z i) :
    SumOkT Try.prog sp (inlOf []) extD cK lp63 nt body keep63 f63s := by
  refine sum_scan (Par := ByteArray × Bool) (α := Unit) (id := 0) (fun p => p.1.size) (fun p => p.1.size ≤ 100000) st63 (fun _ => []) (fun p => gNm p.1) (fun p _ k => vs63 p.1 false (k : Int))
    (fun vs _ => match vs with | [.str s, _, .int _ i] => s.size - i.toNat | _ => 0) (fun p k => rfl) (fun vs H R hR => ?_) (fun p k hp hk => ?_) (fun p k hp hk => ?_) (fun p hp => ?_)
  · unfold f63s at hR
    split at hR
    · rename_i s z i
      obtain ⟨hc, _⟩ := chk_run hR
      simp only [Bool.and_eq_true, decide_eq_true_eq, Nat.ble_eq] at hc
      obtain ⟨k, rfl⟩ : ∃ k : Nat, i = (k : Int) := ⟨i.toNat, by omega⟩
      exact ⟨(s, z), k, hc.2.2, by have := hc.2.1; show k ≤ s.size; omega, rfl, rfl⟩
    · simp [Tr.run] at hR
  · show (f63s (vs63 p.1 p.2 (k : Int)) []).run = _
    simp only [f63s, Tr.run, Int.toNat_natCast]
    rw [decide_eq_true (show (0 : Int) ≤ (k : Int) by omega), decide_eq_true (show (k : Int) ≤ (p.1.size : Int) by omega), Nat.ble_eq_true_of_le hp]
    simp only [Bool.and_self, cond_true, nmS]
    cases scan (gNm p.1) (p.1.size - k) k with
    | none => rfl
    | some q => rfl
  · refine (h p.1 p.2 (k : Int)).trans ?_
    have hk' : (k : Int) < (p.1.size : Int) := by omega
    unfold rnd63 gNm
    rw [decide_eq_true hk', decide_eq_true (show (0 : Int) ≤ (k : Int) by omega), wrapI (by omega) (by omega)]
    cases ltB (bt p.1 (k : Int)) <;> rfl
  · refine (h p.1 p.2 (p.1.size : Int)).trans ?_
    unfold rnd63
    rw [decide_eq_false (by omega)]
    rfl
theorem loop63 (s : ByteArray) (z : Bool) (i : Int) : evC (β := Ex × List AV × List Ob) Try.prog (spOf [t76]) (inlOf []) extD (cKD [t76] []) lp63 (bodyOf Try.prog 63 0) ⟨mkF Try.f63.ntmps keep63 (vs63 s z i), []⟩ (fun e st => (cutBack keep63 0 st).map fun q => (e, q.1, q.2)) = rnd63 s z i := by kernel_rfl
theorem loop65 (s : ByteArray) (z : Bool) (i : Int) : evC (β := Ex × List AV × List Ob) Try.prog (spOf [t77]) (inlOf []) extD (cKD [t77] []) lp63 (bodyOf Try.prog 65 0) ⟨mkF Try.f65.ntmps keep63 (vs63 s z i), []⟩ (fun e st => (cutBack keep63 0 st).map fun q => (e, q.1, q.2)) = rnd63 s z i := by kernel_rfl
def L63 (s : ByteArray) : Option Res := bif true && (true && s.size.ble 100000) then bif (nmS s (Int.toNat 0)).isNone then RB true else RB false else none
def t63 : Ent := ⟨63, fun
  | [.str s] => .leaf (.ret (.bool (nmB s)))
  | _ => .non⟩
def t65 : Ent := ⟨65, fun
  | [.str s] => .chk (Nat.ble s.size 100000) (.leaf (.ret (.bool (nmB s))))
  | _ => .non⟩
theorem vt63 (s : ByteArray) : evFn Try.prog (spOf [t76]) (inlOf []) extD (cKD [t76] []) lp63 Try.f63 [.str s] [] (fun r _ => some r) =
    (bif decide ((s.size : Int) < 1) then RB false else bif decide ((s.size : Int) > 60) then RB false else bif true && decide ((0 : Int) < (s.size : Int)) then bif decide (48 ≤ bt s 0) then bif true && decide ((0 : Int) < (s.size : Int)) then
      bif decide (bt s 0 ≤ 57) then RB false else L63 s else none else L63 s else none : Option Res) := by kernel_rfl
theorem vt65 (s : ByteArray) : evFn Try.prog (spOf [t77]) (inlOf []) extD (cKD [t77] []) lp63 Try.f65 [.str s] [] (fun r _ => some r) =
    (bif true && (true && s.size.ble 100000) then bif (nmS s (Int.toNat 0)).isNone then bif decide ((s.size : Int) > 0) then bif decide ((s.size : Int) ≤ 60) then bif true && decide ((0 : Int) < (s.size : Int)) then bif decide (bt s 0 < 48) then RB true
      else bif true && decide ((0 : Int) < (s.size : Int)) then bif decide (bt s 0 > 57) then RB true else RB false else none else none else RB false else RB false else RB false else none : Option Res) := by kernel_rfl
theorem sum63 : LoopOkT Try.prog (spOf [t76]) (inlOf []) extD (cKD [t76] []) lp63 Try.f63.ntmps (bodyOf Try.prog 63 0) (.sum keep63 f63s) := by
  dsimp only [LoopOkT]
  exact ⟨by decide, by decide, sum_nm (cK := fun {_} => cKD [t76] []) loop63⟩
theorem sx63 : (mkCx Try.prog (spOf [t76]) (inlOf []) extD).Ok InvD := cx_of [] (by kernel_rfl) (by
  intro p hp
  simp only [List.mem_cons, List.not_mem_nil, or_false] at hp
  rcases hp with rfl
  · exact t76_ok)
theorem sum65 : LoopOkT Try.prog (spOf [t77]) (inlOf []) extD (cKD [t77] []) lp63 Try.f65.ntmps (bodyOf Try.prog 65 0) (.sum keep63 f63s) := by
  dsimp only [LoopOkT]
  exact ⟨by decide, by decide, sum_nm (cK := fun {_} => cKD [t77] []) loop65⟩
theorem sx65 : (mkCx Try.prog (spOf [t77]) (inlOf []) extD).Ok InvD := cx_of [] (by kernel_rfl) (by
  intro p hp
  simp only [List.mem_cons, List.not_mem_nil, or_false] at hp
  rcases hp with rfl
  · exact t77_ok)
set_option maxRecDepth 4000 in
theorem t63_ok : SpecHolds Try.prog InvD 63 fun a => (t63.2 a).run := by
  refine specD sx63 Try.func63 (c := codeOf Try.prog 63) (by kernel_rfl) lp63 (fun p hp => ?_) fun args r hh => ?_
  · have hl : loops (codeOf Try.prog 63) = [(0, bodyOf Try.prog 63 0)] := by kernel_rfl
    rw [hl, List.mem_singleton] at hp
    subst hp
    exact sum63
  simp only [t63] at hh
  split at hh
  · rename_i s
    refine ⟨by kernel_rfl, tr_ok (by rfl) hh, ?_⟩
    refine (vt63 s).trans (Eq.trans ?_ hh)
    simp only [Tr.run, nmB, txB]
    by_cases h1 : (s.size : Int) < 1
    · rw [decide_eq_true h1, decide_eq_false (show ¬ (1 : Int) ≤ (s.size : Int) by omega)]; rfl
    by_cases h2 : (s.size : Int) > 60
    · rw [decide_eq_false h1, decide_eq_true h2, decide_eq_false (show ¬ (s.size : Int) ≤ 60 by omega), Bool.and_false]; rfl
    unfold L63
    rw [decide_eq_false h1, decide_eq_false h2, decide_eq_true (show (1 : Int) ≤ (s.size : Int) by omega), decide_eq_true (show (s.size : Int) ≤ 60 by omega), decide_eq_true (show (0 : Int) < (s.size : Int) by omega), Nat.ble_eq_true_of_le (show s.size ≤ 100000 by omega), Int.toNat_zero]
    cases decide (48 ≤ bt s 0) <;> cases decide (bt s 0 ≤ 57) <;> cases (nmS s 0).isNone <;> rfl
  · simp [Tr.run] at hh
set_option maxRecDepth 4000 in
theorem t65_ok : SpecHolds Try.prog InvD 65 fun a => (t65.2 a).run := by
  refine specD sx65 Try.func65 (c := codeOf Try.prog 65) (by kernel_rfl) lp63 (fun p hp => ?_) fun args r hh => ?_
  · have hl : loops (codeOf Try.prog 65) = [(0, bodyOf Try.prog 65 0)] := by kernel_rfl
    rw [hl, List.mem_singleton] at hp
    subst hp
    exact sum65
  simp only [t65] at hh
  split at hh
  · rename_i s
    obtain ⟨hg, hh⟩ := chk_run hh
    refine ⟨by kernel_rfl, tr_ok (by rfl) hh, ?_⟩
    refine (vt65 s).trans (Eq.trans ?_ hh)
    simp only [Tr.run, nmB, txB, hg, Bool.and_self, cond_true, Int.toNat_zero]
    rw [show decide (bt s 0 < 48) = !decide (48 ≤ bt s 0) by rw [← decide_not]; exact decide_eq_decide.2 (by omega), show decide (bt s 0 > 57) = !decide (bt s 0 ≤ 57) by rw [← decide_not]; exact decide_eq_decide.2 (by omega),
      show decide ((s.size : Int) > 0) = decide ((1 : Int) ≤ (s.size : Int)) from decide_eq_decide.2 (by omega)]
    cases decide ((1 : Int) ≤ (s.size : Int)) <;> cases decide ((s.size : Int) ≤ 60) <;> cases decide (48 ≤ bt s 0) <;> cases decide (bt s 0 ≤ 57) <;> cases (nmS s 0).isNone <;> rfl
  · simp [Tr.run] at hh
end Go.Proofs.Ytfgniheefiefjaa

/- Labels and links: what their loops do. Conditions: none beyond the context's. -/
namespace Go.Proofs.Ytfgniheefiefjaa
open Go.Evl Go.RowKit

abbrev SL : List Sh := [.str, .str]
abbrev SK : List Sh := [.int .i64, .int .i64]
theorem bnx {b : Bool} (h : ¬ b = true) : b = false := by simpa using h
def leS (x y : ByteArray) : Bool := Op.bytesLess x.toList y.toList || x.toList == y.toList
/-- why a label is wrong -/
def lbG (x1 x2 : Nat → Nat → Dt) (k : Nat) : Option Int :=
  if nmB (x2 k 0).s then if (x2 k 1).s.toList == ByteArray.toList ⟨#[]⟩ then some 1 else if ((x2 k 1).s.size : Int) > 200 then some 4 else if 0 < k ∧ leS (x2 k 0).s (x1 (k - 1) 0).s = true then some 9 else none else some 5
def lkG (x1 x2 : Nat → Nat → Dt) (k : Nat) : Option Int :=
  if trB (x2 k 0).n && idB (x2 k 1).n then if 0 < k ∧ cpI (x1 (k - 1) 0).n (x1 (k - 1) 1).n (x2 k 0).n (x2 k 1).n ≥ 0 then some 9 else none else some 2
abbrev keep44 : List Nat := [0, 2, 8, 9, 10]
abbrev vs44 (n1 : Nat) (x1 : Nat → Nat → Dt) (n2 : Nat) (x2 : Nat → Nat → Dt) (z : Int) (i : Int) : List AV := [.isz n1 SL x1, .int .i64 z, .isz n2 SL x2, .int .i64 (n2 : Int), .int .i64 i]
def g44 (_n1 : Nat) (x1 : Nat → Nat → Dt) (_n2 : Nat) (x2 : Nat → Nat → Dt) (k : Nat) : Option Int := lbG x1 x2 k
def sc44 (n1 : Nat) (x1 : Nat → Nat → Dt) (n2 : Nat) (x2 : Nat → Nat → Dt) (k : Nat) : Option (Int × Nat) := scan (g44 n1 x1 n2 x2) (n2 - k) k
def ok44 (n1 : Nat) (_x1 : Nat → Nat → Dt) (n2 : Nat) (_x2 : Nat → Nat → Dt) (_z : Int) : Bool := Nat.ble n2 n1 && Nat.ble n2 100
def f44s : List AV → List Ob → Tr (Ex × List AV × List Ob)
  | [.isz n1 [.str, .str] x1, .int .i64 z, .isz n2 [.str, .str] x2, .int .i64 m, .int .i64 i], [] => .chk (decide (0 ≤ i) && (decide (i ≤ (n2 : Int)) && (decide (m = (n2 : Int)) && ok44 n1 x1 n2 x2 z)))
      (.node (sc44 n1 x1 n2 x2 i.toNat).isNone (.leaf (.exit 0, vs44 n1 x1 n2 x2 z (n2 : Int), [])) (.leaf (.ret, vs44 n1 x1 n2 x2 (((sc44 n1 x1 n2 x2 i.toNat).getD (0, 0)).1) (((sc44 n1 x1 n2 x2 i.toNat).getD (0, 0)).2 : Int), [])))
  | _, _ => .non
abbrev lp44 (_ : Nat) : LT := .sum keep44 f44s
def rnd44 (n1 : Nat) (x1 : Nat → Nat → Dt) (n2 : Nat) (x2 : Nat → Nat → Dt) (z : Int) (i : Int) : Option (Ex × List AV × List Ob) :=
  bif decide (i < (n2 : Int)) then bif decide (0 ≤ i) && decide (i < (n2 : Int)) then bif nmB (x2 i.toNat 0).s then bif (x2 i.toNat 1).s.toList == ByteArray.toList ⟨#[]⟩ then some (.ret, vs44 n1 x1 n2 x2 (1) i, []) else bif decide (((x2 i.toNat 1).s.size : Int) > 200) then some (.ret, vs44 n1 x1 n2 x2 (4) i, [])
  else bif decide (i > 0) then bif decide (0 ≤ IntKind.i64.wrap (i - 1)) && decide (IntKind.i64.wrap (i - 1) < (n1 : Int)) then bif leS (x2 i.toNat 0).s (x1 (IntKind.i64.wrap (i - 1)).toNat 0).s then some (.ret, vs44 n1 x1 n2 x2 (9) i, []) else some (.normal, vs44 n1 x1 n2 x2 z (IntKind.i64.wrap (i + 1)), []) else none else some (.normal, vs44 n1 x1 n2 x2 z (IntKind.i64.wrap (i + 1)), []) else some (.ret, vs44 n1 x1 n2 x2 (5) i, []) else none else some (.exit 0, vs44 n1 x1 n2 x2 z i, [])
theorem loop44 (n1 : Nat) (x1 : Nat → Nat → Dt) (n2 : Nat) (x2 : Nat → Nat → Dt) (z : Int) (i : Int) : evC (β := Ex × List AV × List Ob) Try.prog (spOf [t63]) (inlOf []) extD (cKD [t63] []) lp44 (bodyOf Try.prog 44 0) ⟨mkF Try.f44.ntmps keep44 (vs44 n1 x1 n2 x2 z i), []⟩ (fun e st => (cutBack keep44 0 st).map fun q => (e, q.1, q.2)) = rnd44 n1 x1 n2 x2 z i := by kernel_rfl
theorem sum44 : LoopOkT Try.prog (spOf [t63]) (inlOf []) extD (cKD [t63] []) lp44 Try.f44.ntmps (bodyOf Try.prog 44 0) (.sum keep44 f44s) := by
  dsimp only [LoopOkT]
  refine ⟨by decide, by decide, ?_⟩
  refine sum_scan (Par := (Nat) × (Nat → Nat → Dt) × (Nat) × (Nat → Nat → Dt) × (Int)) (α := Int) (id := 0) (fun p => p.2.2.1) (fun p => ok44 p.1 p.2.1 p.2.2.1 p.2.2.2.1 p.2.2.2.2 = true) (fun p k => vs44 p.1 p.2.1 p.2.2.1 p.2.2.2.1 p.2.2.2.2 (k : Int)) (fun p => []) (fun p => g44 p.1 p.2.1 p.2.2.1 p.2.2.2.1) (fun p e k => vs44 p.1 p.2.1 p.2.2.1 p.2.2.2.1 (e) (k : Int))
    (fun vs H => match vs, H with | [.isz n1 [.str, .str] x1, .int .i64 z, .isz n2 [.str, .str] x2, .int .i64 m, .int .i64 i], [] => n2 - i.toNat | _, _ => 0) (fun p k => rfl) (fun vs H R hR => ?_) (fun p k hp hk => ?_) (fun p k hp hk => ?_) (fun p hp => ?_)
  · unfold f44s at hR
    split at hR
    · rename_i n1 x1 z n2 x2 m i
      obtain ⟨hc, _⟩ := chk_run hR
      simp only [Bool.and_eq_true, decide_eq_true_eq] at hc
      obtain ⟨h0, h1, hx, hok⟩ := hc
      obtain ⟨k, rfl⟩ : ∃ k : Nat, i = (k : Int) := ⟨i.toNat, by omega⟩
      subst hx
      exact ⟨(n1, x1, n2, x2, z), k, hok, by show k ≤ n2; omega, rfl, rfl⟩
    · simp [Tr.run] at hR
  · show (f44s (vs44 p.1 p.2.1 p.2.2.1 p.2.2.2.1 p.2.2.2.2 (k : Int)) []).run = _
    simp only [f44s, Tr.run, Int.toNat_natCast, decide_true, Bool.true_and, hp]
    rw [decide_eq_true (show (0 : Int) ≤ (k : Int) by omega), decide_eq_true (show (k : Int) ≤ (p.2.2.1 : Int) by omega)]
    simp only [Bool.and_self, cond_true, sc44]
    cases scan (g44 p.1 p.2.1 p.2.2.1 p.2.2.2.1) (p.2.2.1 - k) k with
    | none => rfl
    | some q => rfl
  · obtain ⟨n1, x1, n2, x2, z⟩ := p
    refine (loop44 n1 x1 n2 x2 z (k : Int)).trans ?_
    simp only at hk hp
    have hk' : (k : Int) < (n2 : Int) := by omega
    unfold ok44 at hp
    simp only [Bool.and_eq_true, Nat.ble_eq] at hp
    unfold rnd44 g44 lbG
    rw [decide_eq_true hk', decide_eq_true (show (0 : Int) ≤ (k : Int) by omega), Int.toNat_natCast, wrapI (show -9223372036854775808 ≤ (k : Int) + 1 by omega) (by omega)]
    by_cases c1 : nmB (x2 k 0).s = true
    · rw [c1, if_pos rfl]
      by_cases c2 : ((x2 k 1).s.toList == ByteArray.toList ⟨#[]⟩) = true
      · rw [c2, if_pos rfl]; rfl
      · rw [bnx c2, if_neg (by simp)]
        by_cases c3 : ((x2 k 1).s.size : Int) > 200
        · rw [decide_eq_true c3, if_pos c3]; rfl
        · rw [decide_eq_false c3, if_neg c3]
          by_cases c4 : 0 < k
          · rw [decide_eq_true (show (k : Int) > 0 by omega), wrapI (by omega) (by omega), decide_eq_true (show (0 : Int) ≤ (k : Int) - 1 by omega), decide_eq_true (show (k : Int) - 1 < (n1 : Int) by omega), show ((k : Int) - 1).toNat = k - 1 by omega]
            by_cases c5 : leS (x2 k 0).s (x1 (k - 1) 0).s = true
            · rw [c5, if_pos ⟨c4, rfl⟩]; rfl
            · rw [bnx c5, if_neg (by simp)]; rfl
          · rw [decide_eq_false (show ¬ (k : Int) > 0 by omega), if_neg (by simp [c4])]; rfl
    · rw [bnx c1, if_neg (by simp)]; rfl
  · obtain ⟨n1, x1, n2, x2, z⟩ := p
    refine (loop44 n1 x1 n2 x2 z (n2 : Int)).trans ?_
    simp only [rnd44]
    rw [decide_eq_false (by omega)]
    rfl
abbrev keep45 : List Nat := [0, 2, 8, 9, 10]
abbrev vs45 (n1 : Nat) (x1 : Nat → Nat → Dt) (n2 : Nat) (x2 : Nat → Nat → Dt) (z : Int) (i : Int) : List AV := [.isz n1 SK x1, .int .i64 z, .isz n2 SK x2, .int .i64 (n2 : Int), .int .i64 i]
def g45 (_n1 : Nat) (x1 : Nat → Nat → Dt) (_n2 : Nat) (x2 : Nat → Nat → Dt) (k : Nat) : Option Int := lkG x1 x2 k
def sc45 (n1 : Nat) (x1 : Nat → Nat → Dt) (n2 : Nat) (x2 : Nat → Nat → Dt) (k : Nat) : Option (Int × Nat) := scan (g45 n1 x1 n2 x2) (n2 - k) k
def ok45 (n1 : Nat) (_x1 : Nat → Nat → Dt) (n2 : Nat) (_x2 : Nat → Nat → Dt) (_z : Int) : Bool := Nat.ble n2 n1 && Nat.ble n2 100
def f45s : List AV → List Ob → Tr (Ex × List AV × List Ob)
  | [.isz n1 [.int .i64, .int .i64] x1, .int .i64 z, .isz n2 [.int .i64, .int .i64] x2, .int .i64 m, .int .i64 i], [] => .chk (decide (0 ≤ i) && (decide (i ≤ (n2 : Int)) && (decide (m = (n2 : Int)) && ok45 n1 x1 n2 x2 z)))
      (.node (sc45 n1 x1 n2 x2 i.toNat).isNone (.leaf (.exit 0, vs45 n1 x1 n2 x2 z (n2 : Int), [])) (.leaf (.ret, vs45 n1 x1 n2 x2 (((sc45 n1 x1 n2 x2 i.toNat).getD (0, 0)).1) (((sc45 n1 x1 n2 x2 i.toNat).getD (0, 0)).2 : Int), [])))
  | _, _ => .non
abbrev lp45 (_ : Nat) : LT := .sum keep45 f45s
def rnd45 (n1 : Nat) (x1 : Nat → Nat → Dt) (n2 : Nat) (x2 : Nat → Nat → Dt) (z : Int) (i : Int) : Option (Ex × List AV × List Ob) :=
  bif decide (i < (n2 : Int)) then bif decide (0 ≤ i) && decide (i < (n2 : Int)) then bif trB (x2 i.toNat 0).n then bif idB (x2 i.toNat 1).n then bif decide (i > 0) then bif decide (0 ≤ IntKind.i64.wrap (i - 1)) && decide (IntKind.i64.wrap (i - 1) < (n1 : Int)) then bif decide (cpI (x1 (IntKind.i64.wrap (i - 1)).toNat 0).n (x1 (IntKind.i64.wrap (i - 1)).toNat 1).n (x2 i.toNat 0).n (x2 i.toNat 1).n ≥ 0) then some (.ret, vs45 n1 x1 n2 x2 (9) i, [])
  else some (.normal, vs45 n1 x1 n2 x2 z (IntKind.i64.wrap (i + 1)), []) else none else some (.normal, vs45 n1 x1 n2 x2 z (IntKind.i64.wrap (i + 1)), []) else some (.ret, vs45 n1 x1 n2 x2 (2) i, []) else some (.ret, vs45 n1 x1 n2 x2 (2) i, []) else none else some (.exit 0, vs45 n1 x1 n2 x2 z i, [])
theorem loop45 (n1 : Nat) (x1 : Nat → Nat → Dt) (n2 : Nat) (x2 : Nat → Nat → Dt) (z : Int) (i : Int) : evC (β := Ex × List AV × List Ob) Try.prog (spOf [t40, t41, t64]) (inlOf []) extD (cKD [t40, t41, t64] []) lp45 (bodyOf Try.prog 45 0) ⟨mkF Try.f45.ntmps keep45 (vs45 n1 x1 n2 x2 z i), []⟩ (fun e st => (cutBack keep45 0 st).map fun q => (e, q.1, q.2)) = rnd45 n1 x1 n2 x2 z i := by kernel_rfl
theorem sum45 : LoopOkT Try.prog (spOf [t40, t41, t64]) (inlOf []) extD (cKD [t40, t41, t64] []) lp45 Try.f45.ntmps (bodyOf Try.prog 45 0) (.sum keep45 f45s) := by
  dsimp only [LoopOkT]
  refine ⟨by decide, by decide, ?_⟩
  refine sum_scan (Par := (Nat) × (Nat → Nat → Dt) × (Nat) × (Nat → Nat → Dt) × (Int)) (α := Int) (id := 0) (fun p => p.2.2.1) (fun p => ok45 p.1 p.2.1 p.2.2.1 p.2.2.2.1 p.2.2.2.2 = true) (fun p k => vs45 p.1 p.2.1 p.2.2.1 p.2.2.2.1 p.2.2.2.2 (k : Int)) (fun p => []) (fun p => g45 p.1 p.2.1 p.2.2.1 p.2.2.2.1) (fun p e k => vs45 p.1 p.2.1 p.2.2.1 p.2.2.2.1 (e) (k : Int))
    (fun vs H => match vs, H with | [.isz n1 [.int .i64, .int .i64] x1, .int .i64 z, .isz n2 [.int .i64, .int .i64] x2, .int .i64 m, .int .i64 i], [] => n2 - i.toNat | _, _ => 0) (fun p k => rfl) (fun vs H R hR => ?_) (fun p k hp hk => ?_) (fun p k hp hk => ?_) (fun p hp => ?_)
  · unfold f45s at hR
    split at hR
    · rename_i n1 x1 z n2 x2 m i
      obtain ⟨hc, _⟩ := chk_run hR
      simp only [Bool.and_eq_true, decide_eq_true_eq] at hc
      obtain ⟨h0, h1, hx, hok⟩ := hc
      obtain ⟨k, rfl⟩ : ∃ k : Nat, i = (k : Int) := ⟨i.toNat, by omega⟩
      subst hx
      exact ⟨(n1, x1, n2, x2, z), k, hok, by show k ≤ n2; omega, rfl, rfl⟩
    · simp [Tr.run] at hR
  · show (f45s (vs45 p.1 p.2.1 p.2.2.1 p.2.2.2.1 p.2.2.2.2 (k : Int)) []).run = _
    simp only [f45s, Tr.run, Int.toNat_natCast, decide_true, Bool.true_and, hp]
    rw [decide_eq_true (show (0 : Int) ≤ (k : Int) by omega), decide_eq_true (show (k : Int) ≤ (p.2.2.1 : Int) by omega)]
    simp only [Bool.and_self, cond_true, sc45]
    cases scan (g45 p.1 p.2.1 p.2.2.1 p.2.2.2.1) (p.2.2.1 - k) k with
    | none => rfl
    | some q => rfl
  · obtain ⟨n1, x1, n2, x2, z⟩ := p
    refine (loop45 n1 x1 n2 x2 z (k : Int)).trans ?_
    simp only at hk hp
    have hk' : (k : Int) < (n2 : Int) := by omega
    unfold ok45 at hp
    simp only [Bool.and_eq_true, Nat.ble_eq] at hp
    unfold rnd45 g45 lkG
    rw [decide_eq_true hk', decide_eq_true (show (0 : Int) ≤ (k : Int) by omega), Int.toNat_natCast, wrapI (show -9223372036854775808 ≤ (k : Int) + 1 by omega) (by omega)]
    by_cases c1 : trB (x2 k 0).n = true
    · by_cases c2 : idB (x2 k 1).n = true
      · rw [c1, c2, if_pos (show (true && true) = true from rfl)]
        by_cases c4 : 0 < k
        · rw [decide_eq_true (show (k : Int) > 0 by omega), wrapI (by omega) (by omega), decide_eq_true (show (0 : Int) ≤ (k : Int) - 1 by omega), decide_eq_true (show (k : Int) - 1 < (n1 : Int) by omega), show ((k : Int) - 1).toNat = k - 1 by omega]
          by_cases c5 : cpI (x1 (k - 1) 0).n (x1 (k - 1) 1).n (x2 k 0).n (x2 k 1).n ≥ 0
          · rw [decide_eq_true c5, if_pos ⟨c4, c5⟩]; rfl
          · rw [decide_eq_false c5, if_neg (fun h => c5 h.2)]; rfl
        · rw [decide_eq_false (show ¬ (k : Int) > 0 by omega), if_neg (fun h => c4 h.1)]; rfl
      · rw [c1, bnx c2, if_neg (by simp)]; rfl
    · rw [bnx c1, if_neg (by simp)]; rfl
  · obtain ⟨n1, x1, n2, x2, z⟩ := p
    refine (loop45 n1 x1 n2 x2 z (n2 : Int)).trans ?_
    simp only [rnd45]
    rw [decide_eq_false (by omega)]
    rfl
def smB (n : Nat) (x : Nat → Nat → Dt) : Bool := (List.range n).all fun k => (x k 0).s.size.ble 100000
theorem smB_get {n : Nat} {x : Nat → Nat → Dt} (h : smB n x = true) {k : Nat} (hk : k < n) : (x k 0).s.size.ble 100000 = true := List.all_eq_true.1 h k (List.mem_range.2 hk)
abbrev keep49 : List Nat := [0, 2, 3]
abbrev vs49 (n : Nat) (x : Nat → Nat → Dt) (z : Int) (i : Int) : List AV := [.isz n SL x, .int .i64 z, .int .i64 i]
def g49 (_n : Nat) (x : Nat → Nat → Dt) (k : Nat) : Option Int := lbG x x k
def sc49 (n : Nat) (x : Nat → Nat → Dt) (k : Nat) : Option (Int × Nat) := scan (g49 n x) (n - k) k
def ok49 (n : Nat) (x : Nat → Nat → Dt) (_z : Int) : Bool := Nat.ble n 100 && smB n x
def f49s : List AV → List Ob → Tr (Ex × List AV × List Ob)
  | [.isz n [.str, .str] x, .int .i64 z, .int .i64 i], [] => .chk (decide (0 ≤ i) && (decide (i ≤ (n : Int)) && (true && ok49 n x z)))
      (.node (sc49 n x i.toNat).isNone (.leaf (.exit 0, vs49 n x z (n : Int), [])) (.leaf (.ret, vs49 n x (((sc49 n x i.toNat).getD (0, 0)).1) (((sc49 n x i.toNat).getD (0, 0)).2 : Int), [])))
  | _, _ => .non
abbrev lp49 (_ : Nat) : LT := .sum keep49 f49s
def rnd49 (n : Nat) (x : Nat → Nat → Dt) (z : Int) (i : Int) : Option (Ex × List AV × List Ob) :=
  bif decide (i < (n : Int)) then bif decide (0 ≤ i) && decide (i < (n : Int)) then bif (x i.toNat 0).s.size.ble 100000 then bif nmB (x i.toNat 0).s then bif decide (0 ≤ i) && decide (i < (n : Int)) then bif (x i.toNat 1).s.toList == ByteArray.toList ⟨#[]⟩ then some (.ret, vs49 n x (1) i, []) else bif decide (0 ≤ i) && decide (i < (n : Int)) then bif decide (((x i.toNat 1).s.size : Int) > 200) then some (.ret, vs49 n x (4) i, [])
  else bif decide (i > 0) then bif decide (0 ≤ i) && decide (i < (n : Int)) then bif decide (0 ≤ IntKind.i64.wrap (i - 1)) && decide (IntKind.i64.wrap (i - 1) < (n : Int)) then bif leS (x i.toNat 0).s (x (IntKind.i64.wrap (i - 1)).toNat 0).s then some (.ret, vs49 n x (9) i, []) else some (.normal, vs49 n x z (IntKind.i64.wrap (i + 1)), []) else none else none else some (.normal, vs49 n x z (IntKind.i64.wrap (i + 1)), []) else none else none else some (.ret, vs49 n x (5) i, []) else none else none else some (.exit 0, vs49 n x z i, [])
theorem loop49 (n : Nat) (x : Nat → Nat → Dt) (z : Int) (i : Int) : evC (β := Ex × List AV × List Ob) Try.prog (spOf [t65]) (inlOf []) extD (cKD [t65] []) lp49 (bodyOf Try.prog 49 0) ⟨mkF Try.f49.ntmps keep49 (vs49 n x z i), []⟩ (fun e st => (cutBack keep49 0 st).map fun q => (e, q.1, q.2)) = rnd49 n x z i := by kernel_rfl
theorem sum49 : LoopOkT Try.prog (spOf [t65]) (inlOf []) extD (cKD [t65] []) lp49 Try.f49.ntmps (bodyOf Try.prog 49 0) (.sum keep49 f49s) := by
  dsimp only [LoopOkT]
  refine ⟨by decide, by decide, ?_⟩
  refine sum_scan (Par := (Nat) × (Nat → Nat → Dt) × (Int)) (α := Int) (id := 0) (fun p => p.1) (fun p => ok49 p.1 p.2.1 p.2.2 = true) (fun p k => vs49 p.1 p.2.1 p.2.2 (k : Int)) (fun p => []) (fun p => g49 p.1 p.2.1) (fun p e k => vs49 p.1 p.2.1 (e) (k : Int))
    (fun vs H => match vs, H with | [.isz n [.str, .str] x, .int .i64 z, .int .i64 i], [] => n - i.toNat | _, _ => 0) (fun p k => rfl) (fun vs H R hR => ?_) (fun p k hp hk => ?_) (fun p k hp hk => ?_) (fun p hp => ?_)
  · unfold f49s at hR
    split at hR
    · rename_i n x z i
      obtain ⟨hc, _⟩ := chk_run hR
      simp only [Bool.and_eq_true, decide_eq_true_eq] at hc
      obtain ⟨h0, h1, hx, hok⟩ := hc
      obtain ⟨k, rfl⟩ : ∃ k : Nat, i = (k : Int) := ⟨i.toNat, by omega⟩
      clear hx
      exact ⟨(n, x, z), k, hok, by show k ≤ n; omega, rfl, rfl⟩
    · simp [Tr.run] at hR
  · show (f49s (vs49 p.1 p.2.1 p.2.2 (k : Int)) []).run = _
    simp only [f49s, Tr.run, Int.toNat_natCast, Bool.true_and, hp]
    rw [decide_eq_true (show (0 : Int) ≤ (k : Int) by omega), decide_eq_true (show (k : Int) ≤ (p.1 : Int) by omega)]
    simp only [Bool.and_self, cond_true, sc49]
    cases scan (g49 p.1 p.2.1) (p.1 - k) k with
    | none => rfl
    | some q => rfl
  · obtain ⟨n, x, z⟩ := p
    refine (loop49 n x z (k : Int)).trans ?_
    simp only at hk hp
    have hk' : (k : Int) < (n : Int) := by omega
    unfold ok49 at hp
    simp only [Bool.and_eq_true, Nat.ble_eq] at hp
    unfold rnd49 g49 lbG
    rw [decide_eq_true hk', decide_eq_true (show (0 : Int) ≤ (k : Int) by omega), Int.toNat_natCast, wrapI (show -9223372036854775808 ≤ (k : Int) + 1 by omega) (by omega), smB_get hp.2 hk]
    by_cases c1 : nmB (x k 0).s = true
    · rw [c1, if_pos rfl]
      by_cases c2 : ((x k 1).s.toList == ByteArray.toList ⟨#[]⟩) = true
      · rw [c2, if_pos rfl]; rfl
      · rw [bnx c2, if_neg (by simp)]
        by_cases c3 : ((x k 1).s.size : Int) > 200
        · rw [decide_eq_true c3, if_pos c3]; rfl
        · rw [decide_eq_false c3, if_neg c3]
          by_cases c4 : 0 < k
          · rw [decide_eq_true (show (k : Int) > 0 by omega), wrapI (by omega) (by omega), decide_eq_true (show (0 : Int) ≤ (k : Int) - 1 by omega), decide_eq_true (show (k : Int) - 1 < (n : Int) by omega), show ((k : Int) - 1).toNat = k - 1 by omega]
            by_cases c5 : leS (x k 0).s (x (k - 1) 0).s = true
            · rw [c5, if_pos ⟨c4, rfl⟩]; rfl
            · rw [bnx c5, if_neg (by simp)]; rfl
          · rw [decide_eq_false (show ¬ (k : Int) > 0 by omega), if_neg (by simp [c4])]; rfl
    · rw [bnx c1, if_neg (by simp)]; rfl
  · obtain ⟨n, x, z⟩ := p
    refine (loop49 n x z (n : Int)).trans ?_
    simp only [rnd49]
    rw [decide_eq_false (by omega)]
    rfl
abbrev keep35 : List Nat := [0, 2, 3]
abbrev vs35 (n : Nat) (x : Nat → Nat → Dt) (z : Bool) (i : Int) : List AV := [.isz n SL x, .bool z, .int .i64 i]
def g35 (_n : Nat) (x : Nat → Nat → Dt) (k : Nat) : Option Unit := if ((x k 0).s.size : Int) > 61 ∨ ((x k 1).s.size : Int) > 201 then some () else none
def sc35 (n : Nat) (x : Nat → Nat → Dt) (k : Nat) : Option (Unit × Nat) := scan (g35 n x) (n - k) k
def ok35 (n : Nat) (_x : Nat → Nat → Dt) (_z : Bool) : Bool := Nat.ble n 9223372036854775807
def f35s : List AV → List Ob → Tr (Ex × List AV × List Ob)
  | [.isz n [.str, .str] x, .bool z, .int .i64 i], [] => .chk (decide (0 ≤ i) && (decide (i ≤ (n : Int)) && (true && ok35 n x z)))
      (.node (sc35 n x i.toNat).isNone (.leaf (.exit 0, vs35 n x z (n : Int), [])) (.leaf (.ret, vs35 n x (true) (((sc35 n x i.toNat).getD ((), 0)).2 : Int), [])))
  | _, _ => .non
abbrev lp35 (_ : Nat) : LT := .sum keep35 f35s
def rnd35 (n : Nat) (x : Nat → Nat → Dt) (z : Bool) (i : Int) : Option (Ex × List AV × List Ob) :=
  bif decide (i < (n : Int)) then bif decide (0 ≤ i) && decide (i < (n : Int)) then bif decide (((x i.toNat 0).s.size : Int) > 61) then some (.ret, vs35 n x (true) i, []) else bif decide (0 ≤ i) && decide (i < (n : Int)) then bif decide (((x i.toNat 1).s.size : Int) > 201) then some (.ret, vs35 n x (true) i, []) else some (.normal, vs35 n x z (IntKind.i64.wrap (i + 1)), []) else none else none else some (.exit 0, vs35 n x z i, [])
theorem loop35 (n : Nat) (x : Nat → Nat → Dt) (z : Bool) (i : Int) : evC (β := Ex × List AV × List Ob) Try.prog (spOf []) (inlOf []) extD (cKD [] []) lp35 (bodyOf Try.prog 35 0) ⟨mkF Try.f35.ntmps keep35 (vs35 n x z i), []⟩ (fun e st => (cutBack keep35 0 st).map fun q => (e, q.1, q.2)) = rnd35 n x z i := by kernel_rfl
theorem sum35 : LoopOkT Try.prog (spOf []) (inlOf []) extD (cKD [] []) lp35 Try.f35.ntmps (bodyOf Try.prog 35 0) (.sum keep35 f35s) := by
  dsimp only [LoopOkT]
  refine ⟨by decide, by decide, ?_⟩
  refine sum_scan (Par := (Nat) × (Nat → Nat → Dt) × (Bool)) (α := Unit) (id := 0) (fun p => p.1) (fun p => ok35 p.1 p.2.1 p.2.2 = true) (fun p k => vs35 p.1 p.2.1 p.2.2 (k : Int)) (fun p => []) (fun p => g35 p.1 p.2.1) (fun p e k => vs35 p.1 p.2.1 (true) (k : Int))
    (fun vs H => match vs, H with | [.isz n [.str, .str] x, .bool z, .int .i64 i], [] => n - i.toNat | _, _ => 0) (fun p k => rfl) (fun vs H R hR => ?_) (fun p k hp hk => ?_) (fun p k hp hk => ?_) (fun p hp => ?_)
  · unfold f35s at hR
    split at hR
    · rename_i n x z i
      obtain ⟨hc, _⟩ := chk_run hR
      simp only [Bool.and_eq_true, decide_eq_true_eq] at hc
      obtain ⟨h0, h1, hx, hok⟩ := hc
      obtain ⟨k, rfl⟩ : ∃ k : Nat, i = (k : Int) := ⟨i.toNat, by omega⟩
      clear hx
      exact ⟨(n, x, z), k, hok, by show k ≤ n; omega, rfl, rfl⟩
    · simp [Tr.run] at hR
  · show (f35s (vs35 p.1 p.2.1 p.2.2 (k : Int)) []).run = _
    simp only [f35s, Tr.run, Int.toNat_natCast, Bool.true_and, hp]
    rw [decide_eq_true (show (0 : Int) ≤ (k : Int) by omega), decide_eq_true (show (k : Int) ≤ (p.1 : Int) by omega)]
    simp only [Bool.and_self, cond_true, sc35]
    cases scan (g35 p.1 p.2.1) (p.1 - k) k with
    | none => rfl
    | some q => rfl
  · obtain ⟨n, x, z⟩ := p
    refine (loop35 n x z (k : Int)).trans ?_
    simp only at hk hp
    have hk' : (k : Int) < (n : Int) := by omega
    unfold ok35 at hp
    simp only [Nat.ble_eq] at hp
    unfold rnd35 g35
    rw [decide_eq_true hk', decide_eq_true (show (0 : Int) ≤ (k : Int) by omega), Int.toNat_natCast, wrapI (show -9223372036854775808 ≤ (k : Int) + 1 by omega) (by omega)]
    by_cases c1 : ((x k 0).s.size : Int) > 61
    · rw [decide_eq_true c1, if_pos (.inl c1)]; rfl
    · by_cases c2 : ((x k 1).s.size : Int) > 201
      · rw [decide_eq_false c1, decide_eq_true c2, if_pos (.inr c2)]; rfl
      · rw [decide_eq_false c1, decide_eq_false c2, if_neg (by simp only [not_or]; exact ⟨c1, c2⟩)]; rfl
  · obtain ⟨n, x, z⟩ := p
    refine (loop35 n x z (n : Int)).trans ?_
    simp only [rnd35]
    rw [decide_eq_false (by omega)]
    rfl
end Go.Proofs.Ytfgniheefiefjaa

/- Labels and links: contracts. Conditions: none beyond the context's. -/
namespace Go.Proofs.Ytfgniheefiefjaa
open Go.Evl Go.RowKit

/-- why labels are wrong -/
def lbE (n : Nat) (x : Nat → Nat → Dt) : Int := if (n : Int) > 16 then 4 else ((scan (lbG x x) n 0).getD (0, 0)).1
def lkE (n : Nat) (x : Nat → Nat → Dt) : Int := if (n : Int) > 16 then 4 else ((scan (lkG x x) n 0).getD (0, 0)).1
/-- are labels too great? -/
def grB (n : Nat) (x : Nat → Nat → Dt) : Bool := !(sc35 n x 0).isNone || decide ((n : Int) > 17)
theorem sx44 : (mkCx Try.prog (spOf [t63]) (inlOf []) extD).Ok InvD := cx_of [] (by kernel_rfl) (by
  intro p hp
  simp only [List.mem_cons, List.not_mem_nil, or_false] at hp
  rcases hp with rfl
  · exact t63_ok)
theorem sx49 : (mkCx Try.prog (spOf [t65]) (inlOf []) extD).Ok InvD := cx_of [] (by kernel_rfl) (by
  intro p hp
  simp only [List.mem_cons, List.not_mem_nil, or_false] at hp
  rcases hp with rfl
  · exact t65_ok)
theorem sx45 : (mkCx Try.prog (spOf [t40, t41, t64]) (inlOf []) extD).Ok InvD := cx_of [] (by kernel_rfl) (by
  intro p hp
  simp only [List.mem_cons, List.not_mem_nil, or_false] at hp
  rcases hp with rfl | rfl | rfl
  · exact t40_ok
  · exact t41_ok
  · exact t64_ok)
def t44 : Ent := ⟨44, fun
  | [.isz n [.str, .str] x] => .leaf (.ret (.int .i64 (lbE n x)))
  | _ => .non⟩
theorem vtt44 (n : Nat) (x : Nat → Nat → Dt) : evFn Try.prog (spOf [t63]) (inlOf []) extD (cKD [t63] []) (lp44) Try.f44 [.isz n SL x] [] (fun r _ => some r) =
    (bif decide ((n : Int) > 16) then RI 4 else bif true && (true && (decide ((n : Int) = (n : Int)) && ok44 n x n x 0)) then bif (sc44 n x n x (Int.toNat 0)).isNone then RI 0 else RI (((sc44 n x n x (Int.toNat 0)).getD (0, 0)).1) else none : Option Res) := by kernel_rfl
set_option maxRecDepth 4000 in
theorem t44_ok : SpecHolds Try.prog InvD 44 fun a => (t44.2 a).run := by
  refine specD sx44 Try.func44 (c := codeOf Try.prog 44) (by kernel_rfl) (lp44) (fun p hp => by
    have hl : loops (codeOf Try.prog 44) = [(0, bodyOf Try.prog 44 0)] := by kernel_rfl
    rw [hl, List.mem_singleton] at hp
    subst hp
    exact sum44) fun args r hh => ?_
  simp only [t44] at hh
  split at hh
  · rename_i n x
    refine ⟨by kernel_rfl, tr_ok (by rfl) hh, ?_⟩
    refine (vtt44 n x).trans (Eq.trans ?_ hh)
    simp only [Tr.run, lbE]
    by_cases h : (n : Int) > 16
    · rw [decide_eq_true h, if_pos h]; rfl
    · rw [decide_eq_false h, if_neg h]
      have hk : ok44 n x n x 0 = true := by unfold ok44; simp only [Bool.and_eq_true, Nat.ble_eq]; exact ⟨Nat.le_refl _, by omega⟩
      rw [hk]
      simp only [sc44, Int.toNat_zero, Nat.sub_zero, decide_true, Bool.and_self, cond_true, cond_false, show g44 n x n x = lbG x x from rfl]
      cases scan (lbG x x) n 0 with
      | none => rfl
      | some q => rfl
  · simp [Tr.run] at hh
def t49 : Ent := ⟨49, fun
  | [.isz n [.str, .str] x] => .chk (smB n x) (.leaf (.ret (.int .i64 (lbE n x))))
  | _ => .non⟩
theorem vtt49 (n : Nat) (x : Nat → Nat → Dt) : evFn Try.prog (spOf [t65]) (inlOf []) extD (cKD [t65] []) (lp49) Try.f49 [.isz n SL x] [] (fun r _ => some r) =
    (bif decide ((n : Int) > 16) then RI 4 else bif true && (true && (true && ok49 n x 0)) then bif (sc49 n x (Int.toNat 0)).isNone then RI 0 else RI (((sc49 n x (Int.toNat 0)).getD (0, 0)).1) else none : Option Res) := by kernel_rfl
set_option maxRecDepth 4000 in
theorem t49_ok : SpecHolds Try.prog InvD 49 fun a => (t49.2 a).run := by
  refine specD sx49 Try.func49 (c := codeOf Try.prog 49) (by kernel_rfl) (lp49) (fun p hp => by
    have hl : loops (codeOf Try.prog 49) = [(0, bodyOf Try.prog 49 0)] := by kernel_rfl
    rw [hl, List.mem_singleton] at hp
    subst hp
    exact sum49) fun args r hh => ?_
  simp only [t49] at hh
  split at hh
  · rename_i n x
    obtain ⟨hg, hh⟩ := chk_run hh
    refine ⟨by kernel_rfl, tr_ok (by rfl) hh, ?_⟩
    refine (vtt49 n x).trans (Eq.trans ?_ hh)
    simp only [Tr.run, lbE]
    by_cases h : (n : Int) > 16
    · rw [decide_eq_true h, if_pos h]; rfl
    · rw [decide_eq_false h, if_neg h]
      have hk : ok49 n x 0 = true := by unfold ok49; simp only [Bool.and_eq_true, Nat.ble_eq]; exact ⟨by omega, hg⟩
      rw [hk]
      simp only [sc49, Int.toNat_zero, Nat.sub_zero, Bool.and_self, cond_true, cond_false, show g49 n x = lbG x x from rfl]
      cases scan (lbG x x) n 0 with
      | none => rfl
      | some q => rfl
  · simp [Tr.run] at hh
def t45 : Ent := ⟨45, fun
  | [.isz n [.int .i64, .int .i64] x] => .leaf (.ret (.int .i64 (lkE n x)))
  | _ => .non⟩
theorem vtt45 (n : Nat) (x : Nat → Nat → Dt) : evFn Try.prog (spOf [t40, t41, t64]) (inlOf []) extD (cKD [t40, t41, t64] []) (lp45) Try.f45 [.isz n SK x] [] (fun r _ => some r) =
    (bif decide ((n : Int) > 16) then RI 4 else bif true && (true && (decide ((n : Int) = (n : Int)) && ok45 n x n x 0)) then bif (sc45 n x n x (Int.toNat 0)).isNone then RI 0 else RI (((sc45 n x n x (Int.toNat 0)).getD (0, 0)).1) else none : Option Res) := by kernel_rfl
set_option maxRecDepth 4000 in
theorem t45_ok : SpecHolds Try.prog InvD 45 fun a => (t45.2 a).run := by
  refine specD sx45 Try.func45 (c := codeOf Try.prog 45) (by kernel_rfl) (lp45) (fun p hp => by
    have hl : loops (codeOf Try.prog 45) = [(0, bodyOf Try.prog 45 0)] := by kernel_rfl
    rw [hl, List.mem_singleton] at hp
    subst hp
    exact sum45) fun args r hh => ?_
  simp only [t45] at hh
  split at hh
  · rename_i n x
    refine ⟨by kernel_rfl, tr_ok (by rfl) hh, ?_⟩
    refine (vtt45 n x).trans (Eq.trans ?_ hh)
    simp only [Tr.run, lkE]
    by_cases h : (n : Int) > 16
    · rw [decide_eq_true h, if_pos h]; rfl
    · rw [decide_eq_false h, if_neg h]
      have hk : ok45 n x n x 0 = true := by unfold ok45; simp only [Bool.and_eq_true, Nat.ble_eq]; exact ⟨Nat.le_refl _, by omega⟩
      rw [hk]
      simp only [sc45, Int.toNat_zero, Nat.sub_zero, decide_true, Bool.and_self, cond_true, cond_false, show g45 n x n x = lkG x x from rfl]
      cases scan (lkG x x) n 0 with
      | none => rfl
      | some q => rfl
  · simp [Tr.run] at hh
def t35 : Ent := ⟨35, fun
  | [.isz n [.str, .str] x] => .chk (Nat.ble n 9223372036854775807) (.leaf (.ret (.bool (grB n x))))
  | _ => .non⟩
theorem vtt35 (n : Nat) (x : Nat → Nat → Dt) : evFn Try.prog (spOf []) (inlOf []) extD (cKD [] []) (lp35) Try.f35 [.isz n SL x] [] (fun r _ => some r) =
    (bif true && (true && (true && ok35 n x false)) then bif (sc35 n x (Int.toNat 0)).isNone then bif decide ((n : Int) > 17) then RB true else RB false else RB true else none : Option Res) := by kernel_rfl
set_option maxRecDepth 4000 in
theorem t35_ok : SpecHolds Try.prog InvD 35 fun a => (t35.2 a).run := by
  refine specD cx0 Try.func35 (c := codeOf Try.prog 35) (by kernel_rfl) (lp35) (fun p hp => by
    have hl : loops (codeOf Try.prog 35) = [(0, bodyOf Try.prog 35 0)] := by kernel_rfl
    rw [hl, List.mem_singleton] at hp
    subst hp
    exact sum35) fun args r hh => ?_
  simp only [t35] at hh
  split at hh
  · rename_i n x
    obtain ⟨hg, hh⟩ := chk_run hh
    refine ⟨by kernel_rfl, tr_ok (by rfl) hh, ?_⟩
    refine (vtt35 n x).trans (Eq.trans ?_ hh)
    have hk : ok35 n x false = true := hg
    rw [hk]
    simp only [Tr.run, grB, Int.toNat_zero, Bool.and_self, cond_true]
    cases (sc35 n x 0).isNone <;> cases decide ((n : Int) > 17) <;> rfl
  · simp [Tr.run] at hh
end Go.Proofs.Ytfgniheefiefjaa

/- The reference's check of links: its loop. Conditions: none beyond the context's. -/
namespace Go.Proofs.Ytfgniheefiefjaa
open Go.Evl Go.RowKit

theorem cp_ge {a b c d : Int} : cpI a b c d ≥ 0 ↔ a > c ∨ (a = c ∧ b ≥ d) := by
  unfold cpI orI cmI
  by_cases h1 : a < c
  · simp [h1] <;> omega
  · by_cases h2 : c < a
    · simp [h1, h2]
    · by_cases h3 : b < d
      · simp [h1, h2, h3] <;> omega
      · by_cases h4 : d < b
        · simp [h1, h2, h3, h4] <;> omega
        · simp [h1, h2, h3, h4] <;> omega
def inB (n : Nat) (y : Nat → Nat → Dt) : Bool := (List.range n).all fun k => inI (y k 0).n
theorem inB_get {n : Nat} {y : Nat → Nat → Dt} (h : inB n y = true) {k : Nat} (hk : k < n) : inI (y k 0).n = true := List.all_eq_true.1 h k (List.mem_range.2 hk)
abbrev hp13 (t : Int) (a : Int) (p : Int) (v : ByteArray) (m : ByteArray) (b : Int) (c : Int) (s : Int) (n : Nat) (x : Nat → Nat → Dt) (l : Nat) (y : Nat → Nat → Dt) : List Ob := [.cells [.int .i64 t, .int .i64 a, .int .i64 p, .str v, .str m, .int .i64 b, .int .i64 c, .int .i64 s, .isz n SL x, .isz l SK y] 25]
abbrev keep13 : List Nat := [1, 2, 4]
abbrev vs13 (_t : Int) (_a : Int) (_p : Int) (_v : ByteArray) (_m : ByteArray) (_b : Int) (_c : Int) (_s : Int) (_n : Nat) (_x : Nat → Nat → Dt) (_l : Nat) (_y : Nat → Nat → Dt) (z : Int) (i : Int) : List AV := [.ptr 0 0, .int .i64 z, .int .i64 i]
def g13 (_t : Int) (_a : Int) (_p : Int) (_v : ByteArray) (_m : ByteArray) (_b : Int) (_c : Int) (_s : Int) (_n : Nat) (_x : Nat → Nat → Dt) (_l : Nat) (y : Nat → Nat → Dt) (k : Nat) : Option Int := lkG y y k
def sc13 (t : Int) (a : Int) (p : Int) (v : ByteArray) (m : ByteArray) (b : Int) (c : Int) (s : Int) (n : Nat) (x : Nat → Nat → Dt) (l : Nat) (y : Nat → Nat → Dt) (k : Nat) : Option (Int × Nat) := scan (g13 t a p v m b c s n x l y) (l - k) k
def ok13 (_t : Int) (_a : Int) (_p : Int) (_v : ByteArray) (_m : ByteArray) (_b : Int) (_c : Int) (_s : Int) (_n : Nat) (_x : Nat → Nat → Dt) (l : Nat) (y : Nat → Nat → Dt) (_z : Int) : Bool := Nat.ble l 100 && inB l y
def f13s : List AV → List Ob → Tr (Ex × List AV × List Ob)
  | [.ptr 0 0, .int .i64 z, .int .i64 i], [.cells [.int .i64 t, .int .i64 a, .int .i64 p, .str v, .str m, .int .i64 b, .int .i64 c, .int .i64 s, .isz n [.str, .str] x, .isz l [.int .i64, .int .i64] y] 25] => .chk (decide (0 ≤ i) && (decide (i ≤ (l : Int)) && (true && ok13 t a p v m b c s n x l y z)))
      (.node (sc13 t a p v m b c s n x l y i.toNat).isNone (.leaf (.exit 0, vs13 t a p v m b c s n x l y z (l : Int), (hp13 t a p v m b c s n x l y))) (.leaf (.ret, vs13 t a p v m b c s n x l y (((sc13 t a p v m b c s n x l y i.toNat).getD (0, 0)).1) (((sc13 t a p v m b c s n x l y i.toNat).getD (0, 0)).2 : Int), (hp13 t a p v m b c s n x l y))))
  | _, _ => .non
abbrev lp13 (_ : Nat) : LT := .sum keep13 f13s
def rnd13 (t : Int) (a : Int) (p : Int) (v : ByteArray) (m : ByteArray) (b : Int) (c : Int) (s : Int) (n : Nat) (x : Nat → Nat → Dt) (l : Nat) (y : Nat → Nat → Dt) (z : Int) (i : Int) : Option (Ex × List AV × List Ob) :=
  bif decide (i < (l : Int)) then bif decide (0 ≤ i) && decide (i < (l : Int)) then bif inI (y i.toNat 0).n then bif trB (y i.toNat 0).n then bif decide ((y i.toNat 1).n < 1) then some (.ret, vs13 t a p v m b c s n x l y (2) i, hp13 t a p v m b c s n x l y) else bif decide ((y i.toNat 1).n > 1152921504606846976) then some (.ret, vs13 t a p v m b c s n x l y (2) i, hp13 t a p v m b c s n x l y) else bif decide (i > 0) then bif decide (0 ≤ IntKind.i64.wrap (i - 1)) && decide (IntKind.i64.wrap (i - 1) < (l : Int)) then bif decide ((y (IntKind.i64.wrap (i - 1)).toNat 0).n > (y i.toNat 0).n) then some (.ret, vs13 t a p v m b c s n x l y (9) i, hp13 t a p v m b c s n x l y)
  else bif decide (0 ≤ IntKind.i64.wrap (i - 1)) && decide (IntKind.i64.wrap (i - 1) < (l : Int)) then bif (y (IntKind.i64.wrap (i - 1)).toNat 0).n == (y i.toNat 0).n then bif decide (0 ≤ IntKind.i64.wrap (i - 1)) && decide (IntKind.i64.wrap (i - 1) < (l : Int)) then bif decide ((y (IntKind.i64.wrap (i - 1)).toNat 1).n ≥ (y i.toNat 1).n) then some (.ret, vs13 t a p v m b c s n x l y (9) i, hp13 t a p v m b c s n x l y) else some (.normal, vs13 t a p v m b c s n x l y z (IntKind.i64.wrap (i + 1)), hp13 t a p v m b c s n x l y) else none else some (.normal, vs13 t a p v m b c s n x l y z (IntKind.i64.wrap (i + 1)), hp13 t a p v m b c s n x l y) else none else none else some (.normal, vs13 t a p v m b c s n x l y z (IntKind.i64.wrap (i + 1)), hp13 t a p v m b c s n x l y) else some (.ret, vs13 t a p v m b c s n x l y (2) i, hp13 t a p v m b c s n x l y) else none else none else some (.exit 0, vs13 t a p v m b c s n x l y z i, hp13 t a p v m b c s n x l y)
theorem loop13 (t : Int) (a : Int) (p : Int) (v : ByteArray) (m : ByteArray) (b : Int) (c : Int) (s : Int) (n : Nat) (x : Nat → Nat → Dt) (l : Nat) (y : Nat → Nat → Dt) (z : Int) (i : Int) : evC (β := Ex × List AV × List Ob) Try.prog (spOf [t46, t47, t48, t49]) (inlOf []) extD (cKD [t46, t47, t48, t49] []) lp13 (bodyOf Try.prog 13 0) ⟨mkF Try.f13.ntmps keep13 (vs13 t a p v m b c s n x l y z i), (hp13 t a p v m b c s n x l y)⟩ (fun e st => (cutBack keep13 1 st).map fun q => (e, q.1, q.2)) = rnd13 t a p v m b c s n x l y z i := by kernel_rfl
theorem sum13 : LoopOkT Try.prog (spOf [t46, t47, t48, t49]) (inlOf []) extD (cKD [t46, t47, t48, t49] []) lp13 Try.f13.ntmps (bodyOf Try.prog 13 0) (.sum keep13 f13s) := by
  dsimp only [LoopOkT]
  refine ⟨by decide, by decide, ?_⟩
  refine sum_scan (Par := (Int) × (Int) × (Int) × (ByteArray) × (ByteArray) × (Int) × (Int) × (Int) × (Nat) × (Nat → Nat → Dt) × (Nat) × (Nat → Nat → Dt) × (Int)) (α := Int) (id := 0) (fun p => p.2.2.2.2.2.2.2.2.2.2.1) (fun p => ok13 p.1 p.2.1 p.2.2.1 p.2.2.2.1 p.2.2.2.2.1 p.2.2.2.2.2.1 p.2.2.2.2.2.2.1 p.2.2.2.2.2.2.2.1 p.2.2.2.2.2.2.2.2.1 p.2.2.2.2.2.2.2.2.2.1 p.2.2.2.2.2.2.2.2.2.2.1 p.2.2.2.2.2.2.2.2.2.2.2.1 p.2.2.2.2.2.2.2.2.2.2.2.2 = true) (fun p k => vs13 p.1 p.2.1 p.2.2.1 p.2.2.2.1 p.2.2.2.2.1 p.2.2.2.2.2.1 p.2.2.2.2.2.2.1 p.2.2.2.2.2.2.2.1 p.2.2.2.2.2.2.2.2.1 p.2.2.2.2.2.2.2.2.2.1 p.2.2.2.2.2.2.2.2.2.2.1 p.2.2.2.2.2.2.2.2.2.2.2.1 p.2.2.2.2.2.2.2.2.2.2.2.2 (k : Int)) (fun p => (hp13 p.1 p.2.1 p.2.2.1 p.2.2.2.1 p.2.2.2.2.1 p.2.2.2.2.2.1 p.2.2.2.2.2.2.1 p.2.2.2.2.2.2.2.1 p.2.2.2.2.2.2.2.2.1 p.2.2.2.2.2.2.2.2.2.1 p.2.2.2.2.2.2.2.2.2.2.1 p.2.2.2.2.2.2.2.2.2.2.2.1)) (fun p => g13 p.1 p.2.1 p.2.2.1 p.2.2.2.1 p.2.2.2.2.1 p.2.2.2.2.2.1 p.2.2.2.2.2.2.1 p.2.2.2.2.2.2.2.1 p.2.2.2.2.2.2.2.2.1 p.2.2.2.2.2.2.2.2.2.1 p.2.2.2.2.2.2.2.2.2.2.1 p.2.2.2.2.2.2.2.2.2.2.2.1) (fun p e k => vs13 p.1 p.2.1 p.2.2.1 p.2.2.2.1 p.2.2.2.2.1 p.2.2.2.2.2.1 p.2.2.2.2.2.2.1 p.2.2.2.2.2.2.2.1 p.2.2.2.2.2.2.2.2.1 p.2.2.2.2.2.2.2.2.2.1 p.2.2.2.2.2.2.2.2.2.2.1 p.2.2.2.2.2.2.2.2.2.2.2.1 (e) (k : Int))
    (fun vs H => match vs, H with | [.ptr 0 0, .int .i64 z, .int .i64 i], [.cells [.int .i64 t, .int .i64 a, .int .i64 p, .str v, .str m, .int .i64 b, .int .i64 c, .int .i64 s, .isz n [.str, .str] x, .isz l [.int .i64, .int .i64] y] 25] => l - i.toNat | _, _ => 0) (fun p k => rfl) (fun vs H R hR => ?_) (fun p k hp hk => ?_) (fun p k hp hk => ?_) (fun p hp => ?_)
  · unfold f13s at hR
    split at hR
    · rename_i z i t a p v m b c s n x l y
      obtain ⟨hc, _⟩ := chk_run hR
      simp only [Bool.and_eq_true, decide_eq_true_eq] at hc
      obtain ⟨h0, h1, hx, hok⟩ := hc
      obtain ⟨k, rfl⟩ : ∃ k : Nat, i = (k : Int) := ⟨i.toNat, by omega⟩
      clear hx
      exact ⟨(t, a, p, v, m, b, c, s, n, x, l, y, z), k, hok, by show k ≤ l; omega, rfl, rfl⟩
    · simp [Tr.run] at hR
  · show (f13s (vs13 p.1 p.2.1 p.2.2.1 p.2.2.2.1 p.2.2.2.2.1 p.2.2.2.2.2.1 p.2.2.2.2.2.2.1 p.2.2.2.2.2.2.2.1 p.2.2.2.2.2.2.2.2.1 p.2.2.2.2.2.2.2.2.2.1 p.2.2.2.2.2.2.2.2.2.2.1 p.2.2.2.2.2.2.2.2.2.2.2.1 p.2.2.2.2.2.2.2.2.2.2.2.2 (k : Int)) (hp13 p.1 p.2.1 p.2.2.1 p.2.2.2.1 p.2.2.2.2.1 p.2.2.2.2.2.1 p.2.2.2.2.2.2.1 p.2.2.2.2.2.2.2.1 p.2.2.2.2.2.2.2.2.1 p.2.2.2.2.2.2.2.2.2.1 p.2.2.2.2.2.2.2.2.2.2.1 p.2.2.2.2.2.2.2.2.2.2.2.1)).run = _
    simp only [f13s, Tr.run, Int.toNat_natCast, Bool.true_and, hp]
    rw [decide_eq_true (show (0 : Int) ≤ (k : Int) by omega), decide_eq_true (show (k : Int) ≤ (p.2.2.2.2.2.2.2.2.2.2.1 : Int) by omega)]
    simp only [Bool.and_self, cond_true, sc13]
    cases scan (g13 p.1 p.2.1 p.2.2.1 p.2.2.2.1 p.2.2.2.2.1 p.2.2.2.2.2.1 p.2.2.2.2.2.2.1 p.2.2.2.2.2.2.2.1 p.2.2.2.2.2.2.2.2.1 p.2.2.2.2.2.2.2.2.2.1 p.2.2.2.2.2.2.2.2.2.2.1 p.2.2.2.2.2.2.2.2.2.2.2.1) (p.2.2.2.2.2.2.2.2.2.2.1 - k) k with
    | none => rfl
    | some q => rfl
  · obtain ⟨t, a, p, v, m, b, c, s, n, x, l, y, z⟩ := p
    refine (loop13 t a p v m b c s n x l y z (k : Int)).trans ?_
    simp only at hk hp
    have hk' : (k : Int) < (l : Int) := by omega
    unfold ok13 at hp
    simp only [Bool.and_eq_true, Nat.ble_eq] at hp
    unfold rnd13 g13 lkG
    rw [decide_eq_true hk', decide_eq_true (show (0 : Int) ≤ (k : Int) by omega), Int.toNat_natCast, wrapI (show -9223372036854775808 ≤ (k : Int) + 1 by omega) (by omega), inB_get hp.2 hk]
    by_cases c1 : trB (y k 0).n = true
    · rw [c1]
      by_cases c2 : (y k 1).n < 1
      · rw [decide_eq_true c2, if_neg (by simp [idB]; omega)]; rfl
      · by_cases c3 : (y k 1).n > 1152921504606846976
        · rw [decide_eq_false c2, decide_eq_true c3, if_neg (by simp [idB]; omega)]; rfl
        · rw [decide_eq_false c2, decide_eq_false c3, if_pos (show (true && idB (y k 1).n) = true by simp [idB]; omega)]
          by_cases c4 : 0 < k
          · rw [decide_eq_true (show (k : Int) > 0 by omega), wrapI (by omega) (by omega), decide_eq_true (show (0 : Int) ≤ (k : Int) - 1 by omega), decide_eq_true (show (k : Int) - 1 < (l : Int) by omega), show ((k : Int) - 1).toNat = k - 1 by omega]
            by_cases c5 : (y (k - 1) 0).n > (y k 0).n
            · rw [decide_eq_true c5, if_pos ⟨c4, cp_ge.2 (.inl c5)⟩]; rfl
            · rw [decide_eq_false c5]
              by_cases c6 : (y (k - 1) 0).n = (y k 0).n
              · by_cases c7 : (y (k - 1) 1).n ≥ (y k 1).n
                · rw [decide_eq_true c7, if_pos ⟨c4, cp_ge.2 (.inr ⟨c6, c7⟩)⟩, c6, beq_self_eq_true]; rfl
                · rw [decide_eq_false c7, if_neg (fun h => (cp_ge.1 h.2).elim c5 (fun h => c7 h.2)), c6, beq_self_eq_true]; rfl
              · rw [beq_false_of_ne c6, if_neg (fun h => (cp_ge.1 h.2).elim c5 (fun h => c6 h.1))]; rfl
          · rw [decide_eq_false (show ¬ (k : Int) > 0 by omega), if_neg (fun h => c4 h.1)]; rfl
    · rw [bnx c1, if_neg (by simp)]; rfl
  · obtain ⟨t, a, p, v, m, b, c, s, n, x, l, y, z⟩ := p
    refine (loop13 t a p v m b c s n x l y z (l : Int)).trans ?_
    simp only [rnd13]
    rw [decide_eq_false (by omega)]
    rfl
end Go.Proofs.Ytfgniheefiefjaa

/- Check, GreatSpan: contracts. Conditions: none beyond the context's. -/
namespace Go.Proofs.Ytfgniheefiefjaa
open Go.Evl Go.RowKit

/-- why a span is wrong -/
def scE (t i p : Int) (v m : ByteArray) (b e s : Int) (n : Nat) (x : Nat → Nat → Dt) (k : Nat) (y : Nat → Nat → Dt) : Int :=
  if trB t = true ∧ (1 ≤ i ∧ i ≤ 1152921504606846976) ∧ 0 ≤ p ∧ p ≤ 1152921504606846976 then
    if p = i then 27 else if txB v = true ∧ txB m = true then
      if (bgI t ≤ b ∧ b ≤ 1099511627776) ∧ b ≤ e ∧ e ≤ 1099511627776 then if s = 0 ∨ s = 1 then if lbE n x = 0 then lkE k y else lbE n x else 8 else 2
    else 5
  else 2
/-- what the checks need to know of a span -/
def siB (t : Int) (n : Nat) (x : Nat → Nat → Dt) (k : Nat) (y : Nat → Nat → Dt) : Bool := inI t && (smB n x && inB k y)
theorem sx12 : (mkCx Try.prog (spOf [t40, t41, t42, t43, t44, t45]) (inlOf []) extD).Ok InvD := cx_of [] (by kernel_rfl) (by
  intro p hp
  simp only [List.mem_cons, List.not_mem_nil, or_false] at hp
  rcases hp with rfl | rfl | rfl | rfl | rfl | rfl
  · exact t40_ok
  · exact t41_ok
  · exact t42_ok
  · exact t43_ok
  · exact t44_ok
  · exact t45_ok)
theorem sx13 : (mkCx Try.prog (spOf [t46, t47, t48, t49]) (inlOf []) extD).Ok InvD := cx_of [] (by kernel_rfl) (by
  intro p hp
  simp only [List.mem_cons, List.not_mem_nil, or_false] at hp
  rcases hp with rfl | rfl | rfl | rfl
  · exact t46_ok
  · exact t47_ok
  · exact t48_ok
  · exact t49_ok)
theorem sx10 : (mkCx Try.prog (spOf [t35]) (inlOf []) extD).Ok InvD := cx_of [] (by kernel_rfl) (by
  intro p hp
  simp only [List.mem_cons, List.not_mem_nil, or_false] at hp
  rcases hp with rfl
  · exact t35_ok)
def t12 : Ent := ⟨12, fun
  | [.agg [.int .i64 t, .int .i64 i, .int .i64 p, .str v, .str m, .int .i64 b, .int .i64 e, .int .i64 s, .isz n [.str, .str] x, .isz k [.int .i64, .int .i64] y]] => .leaf (.ret (.int .i64 (scE t i p v m b e s n x k y)))
  | _ => .non⟩
theorem vtt12 (t i p : Int) (v m : ByteArray) (b e s : Int) (n : Nat) (x : Nat → Nat → Dt) (k : Nat) (y : Nat → Nat → Dt) : evFn Try.prog (spOf [t40, t41, t42, t43, t44, t45]) (inlOf []) extD (cKD [t40, t41, t42, t43, t44, t45] []) (fun _ => .unroll 0) Try.f12 [.agg [.int .i64 t, .int .i64 i, .int .i64 p, .str v, .str m, .int .i64 b, .int .i64 e, .int .i64 s, .isz n SL x, .isz k SK y]] [] (fun r _ => some r) =
    (bif trB t then bif idB i then bif decide (p < 0) then RI 2 else bif decide (p > 1152921504606846976) then RI 2 else bif p == i then RI 27 else bif txB v then bif txB m then  bif decide (b < bgI t) then RI 2 else bif decide (b > 1099511627776) then RI 2
      else bif decide (e < b) then RI 2 else bif decide (e > 1099511627776) then RI 2 else bif s != 0 then bif s != 1 then RI 8 else bif lbE n x != 0 then RI (lbE n x) else RI (lkE k y) else bif lbE n x != 0 then RI (lbE n x) else RI (lkE k y)  else RI 5 else RI 5 else RI 2 else RI 2 : Option Res) := by kernel_rfl
theorem t12_ok : SpecHolds Try.prog InvD 12 fun a => (t12.2 a).run := by
  refine specD sx12 Try.func12 (c := codeOf Try.prog 12) (by kernel_rfl) (fun _ => .unroll 0) (fun _ _ => trivial) fun args r hh => ?_
  simp only [t12] at hh
  split at hh
  · rename_i t i p v m b e s n x k y
    refine ⟨by kernel_rfl, tr_ok (by rfl) hh, ?_⟩
    refine (vtt12 t i p v m b e s n x k y).trans (Eq.trans ?_ hh)
    simp only [Tr.run, scE]
    by_cases c1 : trB t = true
    · by_cases c2 : idB i = true
      · have d2 : 1 ≤ i ∧ i ≤ 1152921504606846976 := by simpa [idB] using c2
        rw [c1, c2]
        by_cases c3 : p < 0
        · rw [decide_eq_true c3, if_neg (by omega)]; rfl
        by_cases c4 : p > 1152921504606846976
        · rw [decide_eq_false c3, decide_eq_true c4, if_neg (by omega)]; rfl
        rw [decide_eq_false c3, decide_eq_false c4, if_pos ⟨rfl, d2, by omega, by omega⟩]
        by_cases c5 : p = i
        · rw [if_pos c5, c5, beq_self_eq_true]; rfl
        rw [if_neg c5, beq_false_of_ne c5]
        by_cases c6 : txB v = true
        case neg => rw [bnx c6, if_neg (by simp)]; rfl
        by_cases c7 : txB m = true
        case neg => rw [c6, bnx c7, if_neg (by simp)]; rfl
        rw [c6, c7, if_pos ⟨rfl, rfl⟩]
        by_cases ct : (bgI t ≤ b ∧ b ≤ 1099511627776) ∧ b ≤ e ∧ e ≤ 1099511627776
        case pos =>
          rw [decide_eq_false (show ¬ b < bgI t by omega), decide_eq_false (show ¬ b > 1099511627776 by omega), decide_eq_false (show ¬ e < b by omega), decide_eq_false (show ¬ e > 1099511627776 by omega), if_pos (show (bgI t ≤ b ∧ b ≤ 1099511627776) ∧ b ≤ e ∧ e ≤ 1099511627776 by omega)]
          have hl : (bif lbE n x != 0 then RI (lbE n x) else RI (lkE k y) : Option Res) = RI (if lbE n x = 0 then lkE k y else lbE n x) := by
            by_cases c8 : lbE n x = 0
            · rw [c8, if_pos rfl]; rfl
            · rw [if_neg c8, bne_iff_ne.2 c8]; rfl
          by_cases c9 : s = 0
          · subst c9; rw [if_pos (.inl rfl)]; exact hl
          · by_cases c10 : s = 1
            · subst c10; rw [if_pos (.inr rfl)]; exact hl
            · rw [if_neg (by omega), bne_iff_ne.2 c9, bne_iff_ne.2 c10]; rfl
        rw [if_neg ct]
        by_cases e1 : b < bgI t
        · rw [decide_eq_true e1]; rfl
        by_cases e2 : b > 1099511627776
        · rw [decide_eq_false e1, decide_eq_true e2]; rfl
        by_cases e3 : e < b
        · rw [decide_eq_false e1, decide_eq_false e2, decide_eq_true e3]; rfl
        · rw [decide_eq_false e1, decide_eq_false e2, decide_eq_false e3, decide_eq_true (show e > 1099511627776 by omega)]; rfl
      · have d2 : ¬ (1 ≤ i ∧ i ≤ 1152921504606846976) := fun h => c2 (by simpa [idB] using h)
        rw [c1, bnx c2, if_neg (fun h => d2 h.2.1)]; rfl
    · rw [bnx c1, if_neg (by simp)]; rfl
  · simp [Tr.run] at hh
def t13 : Ent := ⟨13, fun
  | [.agg [.int .i64 t, .int .i64 i, .int .i64 p, .str v, .str m, .int .i64 b, .int .i64 e, .int .i64 s, .isz n [.str, .str] x, .isz k [.int .i64, .int .i64] y]] => .chk (siB t n x k y) (.leaf (.ret (.int .i64 (scE t i p v m b e s n x k y))))
  | _ => .non⟩
theorem vtt13 (t i p : Int) (v m : ByteArray) (b e s : Int) (n : Nat) (x : Nat → Nat → Dt) (k : Nat) (y : Nat → Nat → Dt) : evFn Try.prog (spOf [t46, t47, t48, t49]) (inlOf []) extD (cKD [t46, t47, t48, t49] []) (lp13) Try.f13 [.agg [.int .i64 t, .int .i64 i, .int .i64 p, .str v, .str m, .int .i64 b, .int .i64 e, .int .i64 s, .isz n SL x, .isz k SK y]] [] (fun r _ => some r) =
    (bif inI t then bif trB t then bif decide (i < 1) then RI 2 else bif decide (i > 1152921504606846976) then RI 2 else bif decide (p < 0) then RI 2 else bif decide (p > 1152921504606846976) then RI 2 else bif p == i then RI 27 else bif txB v then bif txB m then bif decide (0 ≤ t) && inI t then bif decide (b < bgI t) then RI 2 else bif decide (b > 1099511627776) then RI 2
      else bif decide (e < b) then RI 2 else bif decide (e > 1099511627776) then RI 2 else bif s != 0 then bif s != 1 then RI 8 else bif smB n x then bif lbE n x != 0 then RI (lbE n x) else bif decide ((k : Int) > 16) then RI 4 else bif true && (true && (true && ok13 t i p v m b e s n x k y 0)) then bif (sc13 t i p v m b e s n x k y (Int.toNat 0)).isNone then RI 0 else RI (((sc13 t i p v m b e s n x k y (Int.toNat 0)).getD (0, 0)).1) else none else none else bif smB n x then bif lbE n x != 0 then RI (lbE n x) else bif decide ((k : Int) > 16) then RI 4 else bif true && (true && (true && ok13 t i p v m b e s n x k y 0)) then bif (sc13 t i p v m b e s n x k y (Int.toNat 0)).isNone then RI 0 else RI (((sc13 t i p v m b e s n x k y (Int.toNat 0)).getD (0, 0)).1) else none else none else none else RI 5 else RI 5  else RI 2 else none : Option Res) := by kernel_rfl
set_option maxRecDepth 4000 in
theorem t13_ok : SpecHolds Try.prog InvD 13 fun a => (t13.2 a).run := by
  refine specD sx13 Try.func13 (c := codeOf Try.prog 13) (by kernel_rfl) (lp13) (fun p hp => by
    have hl : loops (codeOf Try.prog 13) = [(0, bodyOf Try.prog 13 0)] := by kernel_rfl
    rw [hl, List.mem_singleton] at hp
    subst hp
    exact sum13) fun args r hh => ?_
  simp only [t13] at hh
  split at hh
  · rename_i t i p v m b e s n x k y
    obtain ⟨hg, hh⟩ := chk_run hh
    refine ⟨by kernel_rfl, tr_ok (by rfl) hh, ?_⟩
    refine (vtt13 t i p v m b e s n x k y).trans (Eq.trans ?_ hh)
    simp only [siB, Bool.and_eq_true] at hg
    simp only [Tr.run, scE]
    rw [hg.1]
    by_cases c1 : trB t = true
    · have d1 : 0 ≤ t := by simp only [trB, Bool.and_eq_true, decide_eq_true_eq] at c1; omega
      by_cases c2 : 1 ≤ i ∧ i ≤ 1152921504606846976
      · have d2 := c2
        rw [c1, decide_eq_false (show ¬ i < 1 by omega), decide_eq_false (show ¬ i > 1152921504606846976 by omega)]
        by_cases c3 : p < 0
        · rw [decide_eq_true c3, if_neg (by omega)]; rfl
        by_cases c4 : p > 1152921504606846976
        · rw [decide_eq_false c3, decide_eq_true c4, if_neg (by omega)]; rfl
        rw [decide_eq_false c3, decide_eq_false c4, if_pos ⟨rfl, d2, by omega, by omega⟩]
        by_cases c5 : p = i
        · rw [if_pos c5, c5, beq_self_eq_true]; rfl
        rw [if_neg c5, beq_false_of_ne c5]
        by_cases c6 : txB v = true
        case neg => rw [bnx c6, if_neg (by simp)]; rfl
        by_cases c7 : txB m = true
        case neg => rw [c6, bnx c7, if_neg (by simp)]; rfl
        rw [c6, c7, if_pos ⟨rfl, rfl⟩]
        by_cases ct : (bgI t ≤ b ∧ b ≤ 1099511627776) ∧ b ≤ e ∧ e ≤ 1099511627776
        case pos =>
          rw [decide_eq_true d1, decide_eq_false (show ¬ b < bgI t by omega), decide_eq_false (show ¬ b > 1099511627776 by omega), decide_eq_false (show ¬ e < b by omega), decide_eq_false (show ¬ e > 1099511627776 by omega), if_pos (show (bgI t ≤ b ∧ b ≤ 1099511627776) ∧ b ≤ e ∧ e ≤ 1099511627776 by omega)]
          have hl : (bif smB n x then bif lbE n x != 0 then RI (lbE n x) else bif decide ((k : Int) > 16) then RI 4 else bif true && (true && (true && ok13 t i p v m b e s n x k y 0)) then bif (sc13 t i p v m b e s n x k y (Int.toNat 0)).isNone then RI 0 else RI (((sc13 t i p v m b e s n x k y (Int.toNat 0)).getD (0, 0)).1) else none else none : Option Res) = RI (if lbE n x = 0 then lkE k y else lbE n x) := by
            by_cases c8 : lbE n x = 0
            · rw [c8, if_pos rfl, hg.2.1]
              simp only [lkE, bne_self_eq_false, cond_false, cond_true]
              by_cases c11 : (k : Int) > 16
              · rw [decide_eq_true c11, if_pos c11]; rfl
              · have hk : ok13 t i p v m b e s n x k y 0 = true := by unfold ok13; simp only [Bool.and_eq_true, Nat.ble_eq]; exact ⟨by omega, hg.2.2⟩
                rw [decide_eq_false c11, if_neg c11, hk]
                simp only [sc13, Int.toNat_zero, Nat.sub_zero, Bool.and_self, cond_true, cond_false, show g13 t i p v m b e s n x k y = lkG y y from rfl]
                cases scan (lkG y y) k 0 with
                | none => rfl
                | some q => rfl
            · rw [if_neg c8, bne_iff_ne.2 c8, hg.2.1]; rfl
          by_cases c9 : s = 0
          · subst c9; rw [if_pos (.inl rfl)]; exact hl
          · by_cases c10 : s = 1
            · subst c10; rw [if_pos (.inr rfl)]; exact hl
            · rw [if_neg (by omega), bne_iff_ne.2 c9, bne_iff_ne.2 c10]; rfl
        rw [if_neg ct]
        rw [decide_eq_true d1]
        by_cases e1 : b < bgI t
        · rw [decide_eq_true e1]; rfl
        by_cases e2 : b > 1099511627776
        · rw [decide_eq_false e1, decide_eq_true e2]; rfl
        by_cases e3 : e < b
        · rw [decide_eq_false e1, decide_eq_false e2, decide_eq_true e3]; rfl
        · rw [decide_eq_false e1, decide_eq_false e2, decide_eq_false e3, decide_eq_true (show e > 1099511627776 by omega)]; rfl
      · rw [c1, if_neg (fun h => c2 h.2.1)]
        by_cases c3 : i < 1
        · rw [decide_eq_true c3]; rfl
        · rw [decide_eq_false c3, decide_eq_true (show i > 1152921504606846976 by omega)]; rfl
    · rw [bnx c1, if_neg (by simp)]; rfl
  · simp [Tr.run] at hh
/-- is a span too great? -/
def gsB (v m : ByteArray) (n : Nat) (x : Nat → Nat → Dt) (k : Nat) : Bool := decide ((v.size : Int) > 61) || (decide ((m.size : Int) > 61) || (decide ((k : Int) > 17) || grB n x))
def t10 : Ent := ⟨10, fun
  | [.agg [.int .i64 _t, .int .i64 _i, .int .i64 _p, .str v, .str m, .int .i64 _b, .int .i64 _e, .int .i64 _s, .isz n [.str, .str] x, .isz k [.int .i64, .int .i64] _y]] => .chk (Nat.ble n 9223372036854775807) (.leaf (.ret (.bool (gsB v m n x k))))
  | _ => .non⟩
theorem vtt10 (t i p : Int) (v m : ByteArray) (b e s : Int) (n : Nat) (x : Nat → Nat → Dt) (k : Nat) (y : Nat → Nat → Dt) : evFn Try.prog (spOf [t35]) (inlOf []) extD (cKD [t35] []) (fun _ => .unroll 0) Try.f10 [.agg [.int .i64 t, .int .i64 i, .int .i64 p, .str v, .str m, .int .i64 b, .int .i64 e, .int .i64 s, .isz n SL x, .isz k SK y]] [] (fun r _ => some r) =
    (bif decide ((v.size : Int) > 61) then RB true else bif decide ((m.size : Int) > 61) then RB true else bif decide ((k : Int) > 17) then RB true else bif Nat.ble n 9223372036854775807 then bif grB n x then RB true else RB false else none : Option Res) := by kernel_rfl
theorem t10_ok : SpecHolds Try.prog InvD 10 fun a => (t10.2 a).run := by
  refine specD sx10 Try.func10 (c := codeOf Try.prog 10) (by kernel_rfl) (fun _ => .unroll 0) (fun _ _ => trivial) fun args r hh => ?_
  simp only [t10] at hh
  split at hh
  · rename_i t i p v m b e s n x k y
    obtain ⟨hg, hh⟩ := chk_run hh
    refine ⟨by kernel_rfl, tr_ok (by rfl) hh, ?_⟩
    refine (vtt10 t i p v m b e s n x k y).trans (Eq.trans ?_ hh)
    simp only [Tr.run, gsB, hg]
    cases decide ((v.size : Int) > 61) <;> cases decide ((m.size : Int) > 61) <;> cases decide ((k : Int) > 17) <;> cases grB n x <;> rfl
  · simp [Tr.run] at hh
end Go.Proofs.Ytfgniheefiefjaa

/- SpantreeCheck's walk. Conditions: none beyond the context's. -/
namespace Go.Proofs.Ytfgniheefiefjaa
open Go.Evl Go.RowKit

theorem scan_none {α : Type} {g : Nat → Option α} : ∀ {k i : Nat}, scan g k i = none → ∀ j, i ≤ j → j < i + k → g j = none
  | 0, i, _, j, h1, h2 => by omega
  | k + 1, i, h, j, h1, h2 => by
    simp only [scan] at h
    cases hg : g i with
    | some e => rw [hg] at h; cases h
    | none =>
      rw [hg] at h
      by_cases e : j = i
      · subst e; exact hg
      · exact scan_none h j (by omega) (by omega)
theorem gr_sm {n : Nat} {x : Nat → Nat → Dt} (h : grB n x = false) : smB n x = true := by
  unfold grB at h
  rw [Bool.or_eq_false_iff] at h
  have h1 : sc35 n x 0 = none := by
    have := h.1
    cases hs : sc35 n x 0 with
    | none => rfl
    | some q => rw [hs] at this; simp at this
  refine List.all_eq_true.2 fun k hk => ?_
  have hk' : k < n := List.mem_range.1 hk
  have h2 := scan_none (k := n - 0) (i := 0) h1 k (Nat.zero_le _) (by omega)
  unfold g35 at h2
  split at h2
  · cases h2
  · rename_i h3
    simp only [not_or] at h3
    exact Nat.ble_eq_true_of_le (by omega)
theorem gs_sm {v m : ByteArray} {n : Nat} {x : Nat → Nat → Dt} {k : Nat} (h : gsB v m n x k = false) : smB n x = true := by
  unfold gsB at h
  simp only [Bool.or_eq_false_iff] at h
  exact gr_sm h.2.2.2
def l3g (t1 : Int) (n1 : Nat) (k1 : Nat) (y1 : Nat → Nat → Dt) (n2 : Nat) : Bool := Nat.ble n1 9223372036854775807 && (Nat.ble n2 9223372036854775807 && (inI t1 && inB k1 y1))
def l3 : Ent := ⟨3, fun
  | [.agg [.int .i64 t1, .int .i64 _, .int .i64 _, .str _, .str _, .int .i64 _, .int .i64 _, .int .i64 _, .isz n1 [.str, .str] _, .isz k1 [.int .i64, .int .i64] y1], .agg [.int .i64 _, .int .i64 _, .int .i64 _, .str _, .str _, .int .i64 _, .int .i64 _, .int .i64 _, .isz n2 [.str, .str] _, .isz _ [.int .i64, .int .i64] _]] => .chk (l3g t1 n1 k1 y1 n2) (.leaf (.ret (.bool true)))
  | _ => .non⟩
theorem lx3 : (mkCx Try.prog (spOf [t10, t12, t13, t14, t15, iAw]) (inlOf []) extD).Ok InvD := cx_of [] (by kernel_rfl) (by
  intro p hp
  simp only [List.mem_cons, List.not_mem_nil, or_false] at hp
  rcases hp with rfl | rfl | rfl | rfl | rfl | rfl
  · exact t10_ok
  · exact t12_ok
  · exact t13_ok
  · exact t14_ok
  · exact t15_ok
  · exact iAw_ok)
theorem lt3 (t1 i1 p1 : Int) (v1 m1 : ByteArray) (b1 e1 s1 : Int) (n1 : Nat) (x1 : Nat → Nat → Dt) (k1 : Nat) (y1 : Nat → Nat → Dt) (t2 i2 p2 : Int) (v2 m2 : ByteArray) (b2 e2 s2 : Int) (n2 : Nat) (x2 : Nat → Nat → Dt) (k2 : Nat) (y2 : Nat → Nat → Dt) : evFn Try.prog (spOf [t10, t12, t13, t14, t15, iAw]) (inlOf []) extD (cKD [t10, t12, t13, t14, t15, iAw] []) (fun _ => .unroll 0) Try.f3 [.agg [.int .i64 t1, .int .i64 i1, .int .i64 p1, .str v1, .str m1, .int .i64 b1, .int .i64 e1, .int .i64 s1, .isz n1 SL x1, .isz k1 SK y1], .agg [.int .i64 t2, .int .i64 i2, .int .i64 p2, .str v2, .str m2, .int .i64 b2, .int .i64 e2, .int .i64 s2, .isz n2 SL x2, .isz k2 SK y2]] [] (fun r _ => some r) =
    (bif n1.ble 9223372036854775807 then bif gsB v1 m1 n1 x1 k1 then RB true else bif n2.ble 9223372036854775807 then bif gsB v2 m2 n2 x2 k2 then RB true else bif siB t1 n1 x1 k1 y1 then
      bif scE t1 i1 p1 v1 m1 b1 e1 s1 n1 x1 k1 y1 == scE t1 i1 p1 v1 m1 b1 e1 s1 n1 x1 k1 y1 then bif cpI t1 i1 t2 i2 == cpI t1 i1 t2 i2 then RB true else RB false else RB false else none else none else none : Option Res) := by kernel_rfl
theorem l3_run {t1 i1 p1 : Int} {v1 m1 : ByteArray} {b1 e1 s1 : Int} {n1 : Nat} {x1 : Nat → Nat → Dt} {k1 : Nat} {y1 : Nat → Nat → Dt} {t2 i2 : Int} {v2 m2 : ByteArray} {n2 : Nat} {x2 : Nat → Nat → Dt} {k2 : Nat} (h : l3g t1 n1 k1 y1 n2 = true) : (bif n1.ble 9223372036854775807 then bif gsB v1 m1 n1 x1 k1 then RB true else bif n2.ble 9223372036854775807 then bif gsB v2 m2 n2 x2 k2 then RB true else bif siB t1 n1 x1 k1 y1 then
      bif scE t1 i1 p1 v1 m1 b1 e1 s1 n1 x1 k1 y1 == scE t1 i1 p1 v1 m1 b1 e1 s1 n1 x1 k1 y1 then bif cpI t1 i1 t2 i2 == cpI t1 i1 t2 i2 then RB true else RB false else RB false else none else none else none : Option Res) = RB true := by
  unfold l3g at h
  simp only [Bool.and_eq_true] at h
  obtain ⟨h1, h2, h3, h4⟩ := h
  rw [h1, h2]
  cases g1 : gsB v1 m1 n1 x1 k1 with
  | true => rfl
  | false =>
    cases gsB v2 m2 n2 x2 k2 with
    | true => rfl
    | false =>
      have hs : siB t1 n1 x1 k1 y1 = true := by unfold siB; rw [h3, gs_sm g1, h4]; rfl
      rw [hs]
      simp only [beq_self_eq_true, cond_true, cond_false]
theorem l3_ok : SpecHolds Try.prog InvD 3 fun a => (l3.2 a).run := by
  refine specD lx3 Try.func3 (c := codeOf Try.prog 3) (by kernel_rfl) (fun _ => .unroll 0) (fun _ _ => trivial) fun args r hh => ?_
  unfold l3 at hh
  simp only at hh
  split at hh
  · rename_i t1 i1 p1 v1 m1 b1 e1 s1 n1 x1 k1 y1 t2 i2 p2 v2 m2 b2 e2 s2 n2 x2 k2 y2
    obtain ⟨hg, hh⟩ := chk_run hh
    refine ⟨by kernel_rfl, tr_ok (by rfl) hh, ?_⟩
    exact (lt3 t1 i1 p1 v1 m1 b1 e1 s1 n1 x1 k1 y1 t2 i2 p2 v2 m2 b2 e2 s2 n2 x2 k2 y2).trans ((l3_run hg).trans hh)
  · simp [Tr.run] at hh
end Go.Proofs.Ytfgniheefiefjaa

/- All spans checked: contracts. Conditions: none beyond the context's. -/
namespace Go.Proofs.Ytfgniheefiefjaa
open Go.Evl Go.RowKit

abbrev SS : List Sh := [.int .i64, .int .i64, .int .i64, .str, .str, .int .i64, .int .i64, .int .i64, .row [.str, .str], .row [.int .i64, .int .i64]]
/-- why the k-th span is wrong -/
def spE (x : Nat → Nat → Dt) (k : Nat) : Int := scE (x k 0).n (x k 1).n (x k 2).n (x k 3).s (x k 4).s (x k 5).n (x k 6).n (x k 7).n (x k 8).len (x k 8).el (x k 9).len (x k 9).el
def spG (x : Nat → Nat → Dt) (k : Nat) : Option Int := if spE x k = 0 then none else some (spE x k)
/-- why spans are wrong -/
def caE (n : Nat) (x : Nat → Nat → Dt) : Int := ((scan (spG x) n 0).getD (0, 0)).1
def ckB (n : Nat) (x : Nat → Nat → Dt) : Bool := (List.range n).all fun k => siB (x k 0).n (x k 8).len (x k 8).el (x k 9).len (x k 9).el
theorem ckB_get {n : Nat} {x : Nat → Nat → Dt} (h : ckB n x = true) {k : Nat} (hk : k < n) : siB (x k 0).n (x k 8).len (x k 8).el (x k 9).len (x k 9).el = true := List.all_eq_true.1 h k (List.mem_range.2 hk)
abbrev keep52 : List Nat := [2, 6, 7, 8]
abbrev vs52 (n : Nat) (x : Nat → Nat → Dt) (z : Int) (i : Int) : List AV := [.int .i64 z, .isz n SS x, .int .i64 (n : Int), .int .i64 i]
def g52 (_n : Nat) (x : Nat → Nat → Dt) (k : Nat) : Option Int := spG x k
def sc52 (n : Nat) (x : Nat → Nat → Dt) (k : Nat) : Option (Int × Nat) := scan (g52 n x) (n - k) k
def ok52 (n : Nat) (_x : Nat → Nat → Dt) (_z : Int) : Bool := Nat.ble n 9223372036854775807
def f52s : List AV → List Ob → Tr (Ex × List AV × List Ob)
  | [.int .i64 z, .isz n [.int .i64, .int .i64, .int .i64, .str, .str, .int .i64, .int .i64, .int .i64, .row [.str, .str], .row [.int .i64, .int .i64]] x, .int .i64 m, .int .i64 i], [] => .chk (decide (0 ≤ i) && (decide (i ≤ (n : Int)) && (decide (m = (n : Int)) && ok52 n x z)))
      (.node (sc52 n x i.toNat).isNone (.leaf (.exit 0, vs52 n x z (n : Int), [])) (.leaf (.ret, vs52 n x (((sc52 n x i.toNat).getD (0, 0)).1) (((sc52 n x i.toNat).getD (0, 0)).2 : Int), [])))
  | _, _ => .non
abbrev lp52 (_ : Nat) : LT := .sum keep52 f52s
def rnd52 (n : Nat) (x : Nat → Nat → Dt) (z : Int) (i : Int) : Option (Ex × List AV × List Ob) :=
  bif decide (i < (n : Int)) then bif decide (0 ≤ i) && decide (i < (n : Int)) then bif spE x i.toNat != 0 then some (.ret, vs52 n x (spE x i.toNat) i, []) else some (.normal, vs52 n x z (IntKind.i64.wrap (i + 1)), []) else none else some (.exit 0, vs52 n x z i, [])
theorem loop52 (n : Nat) (x : Nat → Nat → Dt) (z : Int) (i : Int) : evC (β := Ex × List AV × List Ob) Try.prog (spOf [t12]) (inlOf []) extD (cKD [t12] []) lp52 (bodyOf Try.prog 52 0) ⟨mkF Try.f52.ntmps keep52 (vs52 n x z i), []⟩ (fun e st => (cutBack keep52 0 st).map fun q => (e, q.1, q.2)) = rnd52 n x z i := by kernel_rfl
theorem sum52 : LoopOkT Try.prog (spOf [t12]) (inlOf []) extD (cKD [t12] []) lp52 Try.f52.ntmps (bodyOf Try.prog 52 0) (.sum keep52 f52s) := by
  dsimp only [LoopOkT]
  refine ⟨by decide, by decide, ?_⟩
  refine sum_scan (Par := (Nat) × (Nat → Nat → Dt) × (Int)) (α := Int) (id := 0) (fun p => p.1) (fun p => ok52 p.1 p.2.1 p.2.2 = true) (fun p k => vs52 p.1 p.2.1 p.2.2 (k : Int)) (fun p => []) (fun p => g52 p.1 p.2.1) (fun p e k => vs52 p.1 p.2.1 (e) (k : Int))
    (fun vs H => match vs, H with | [.int .i64 z, .isz n [.int .i64, .int .i64, .int .i64, .str, .str, .int .i64, .int .i64, .int .i64, .row [.str, .str], .row [.int .i64, .int .i64]] x, .int .i64 m, .int .i64 i], [] => n - i.toNat | _, _ => 0) (fun p k => rfl) (fun vs H R hR => ?_) (fun p k hp hk => ?_) (fun p k hp hk => ?_) (fun p hp => ?_)
  · unfold f52s at hR
    split at hR
    · rename_i z n x m i
      obtain ⟨hc, _⟩ := chk_run hR
      simp only [Bool.and_eq_true, decide_eq_true_eq] at hc
      obtain ⟨h0, h1, hx, hok⟩ := hc
      obtain ⟨k, rfl⟩ : ∃ k : Nat, i = (k : Int) := ⟨i.toNat, by omega⟩
      subst hx
      exact ⟨(n, x, z), k, hok, by show k ≤ n; omega, rfl, rfl⟩
    · simp [Tr.run] at hR
  · show (f52s (vs52 p.1 p.2.1 p.2.2 (k : Int)) []).run = _
    simp only [f52s, Tr.run, Int.toNat_natCast, decide_true, Bool.true_and, hp]
    rw [decide_eq_true (show (0 : Int) ≤ (k : Int) by omega), decide_eq_true (show (k : Int) ≤ (p.1 : Int) by omega)]
    simp only [Bool.and_self, cond_true, sc52]
    cases scan (g52 p.1 p.2.1) (p.1 - k) k with
    | none => rfl
    | some q => rfl
  · obtain ⟨n, x, z⟩ := p
    refine (loop52 n x z (k : Int)).trans ?_
    simp only at hk hp
    have hk' : (k : Int) < (n : Int) := by omega
    unfold ok52 at hp
    simp only [Nat.ble_eq] at hp
    unfold rnd52 g52 spG
    rw [decide_eq_true hk', decide_eq_true (show (0 : Int) ≤ (k : Int) by omega), Int.toNat_natCast, wrapI (show -9223372036854775808 ≤ (k : Int) + 1 by omega) (by omega)]
    by_cases c1 : spE x k = 0
    · rw [c1, if_pos rfl]; rfl
    · rw [bne_iff_ne.2 c1, if_neg c1]; rfl
  · obtain ⟨n, x, z⟩ := p
    refine (loop52 n x z (n : Int)).trans ?_
    simp only [rnd52]
    rw [decide_eq_false (by omega)]
    rfl
abbrev keep61 : List Nat := [0, 2, 3]
abbrev vs61 (n : Nat) (x : Nat → Nat → Dt) (z : Int) (i : Int) : List AV := [.isz n SS x, .int .i64 z, .int .i64 i]
def g61 (_n : Nat) (x : Nat → Nat → Dt) (k : Nat) : Option Int := spG x k
def sc61 (n : Nat) (x : Nat → Nat → Dt) (k : Nat) : Option (Int × Nat) := scan (g61 n x) (n - k) k
def ok61 (n : Nat) (x : Nat → Nat → Dt) (_z : Int) : Bool := Nat.ble n 9223372036854775807 && ckB n x
def f61s : List AV → List Ob → Tr (Ex × List AV × List Ob)
  | [.isz n [.int .i64, .int .i64, .int .i64, .str, .str, .int .i64, .int .i64, .int .i64, .row [.str, .str], .row [.int .i64, .int .i64]] x, .int .i64 z, .int .i64 i], [] => .chk (decide (0 ≤ i) && (decide (i ≤ (n : Int)) && (true && ok61 n x z)))
      (.node (sc61 n x i.toNat).isNone (.leaf (.exit 0, vs61 n x z (n : Int), [])) (.leaf (.ret, vs61 n x (((sc61 n x i.toNat).getD (0, 0)).1) (((sc61 n x i.toNat).getD (0, 0)).2 : Int), [])))
  | _, _ => .non
abbrev lp61 (_ : Nat) : LT := .sum keep61 f61s
def rnd61 (n : Nat) (x : Nat → Nat → Dt) (z : Int) (i : Int) : Option (Ex × List AV × List Ob) :=
  bif decide (i < (n : Int)) then bif decide (0 ≤ i) && decide (i < (n : Int)) then bif siB (x i.toNat 0).n (x i.toNat 8).len (x i.toNat 8).el (x i.toNat 9).len (x i.toNat 9).el then bif spE x i.toNat != 0 then some (.ret, vs61 n x (spE x i.toNat) i, []) else some (.normal, vs61 n x z (IntKind.i64.wrap (i + 1)), []) else none else none else some (.exit 0, vs61 n x z i, [])
theorem loop61 (n : Nat) (x : Nat → Nat → Dt) (z : Int) (i : Int) : evC (β := Ex × List AV × List Ob) Try.prog (spOf [t13]) (inlOf []) extD (cKD [t13] []) lp61 (bodyOf Try.prog 61 0) ⟨mkF Try.f61.ntmps keep61 (vs61 n x z i), []⟩ (fun e st => (cutBack keep61 0 st).map fun q => (e, q.1, q.2)) = rnd61 n x z i := by kernel_rfl
theorem sum61 : LoopOkT Try.prog (spOf [t13]) (inlOf []) extD (cKD [t13] []) lp61 Try.f61.ntmps (bodyOf Try.prog 61 0) (.sum keep61 f61s) := by
  dsimp only [LoopOkT]
  refine ⟨by decide, by decide, ?_⟩
  refine sum_scan (Par := (Nat) × (Nat → Nat → Dt) × (Int)) (α := Int) (id := 0) (fun p => p.1) (fun p => ok61 p.1 p.2.1 p.2.2 = true) (fun p k => vs61 p.1 p.2.1 p.2.2 (k : Int)) (fun p => []) (fun p => g61 p.1 p.2.1) (fun p e k => vs61 p.1 p.2.1 (e) (k : Int))
    (fun vs H => match vs, H with | [.isz n [.int .i64, .int .i64, .int .i64, .str, .str, .int .i64, .int .i64, .int .i64, .row [.str, .str], .row [.int .i64, .int .i64]] x, .int .i64 z, .int .i64 i], [] => n - i.toNat | _, _ => 0) (fun p k => rfl) (fun vs H R hR => ?_) (fun p k hp hk => ?_) (fun p k hp hk => ?_) (fun p hp => ?_)
  · unfold f61s at hR
    split at hR
    · rename_i n x z i
      obtain ⟨hc, _⟩ := chk_run hR
      simp only [Bool.and_eq_true, decide_eq_true_eq] at hc
      obtain ⟨h0, h1, hx, hok⟩ := hc
      obtain ⟨k, rfl⟩ : ∃ k : Nat, i = (k : Int) := ⟨i.toNat, by omega⟩
      clear hx
      exact ⟨(n, x, z), k, hok, by show k ≤ n; omega, rfl, rfl⟩
    · simp [Tr.run] at hR
  · show (f61s (vs61 p.1 p.2.1 p.2.2 (k : Int)) []).run = _
    simp only [f61s, Tr.run, Int.toNat_natCast, Bool.true_and, hp]
    rw [decide_eq_true (show (0 : Int) ≤ (k : Int) by omega), decide_eq_true (show (k : Int) ≤ (p.1 : Int) by omega)]
    simp only [Bool.and_self, cond_true, sc61]
    cases scan (g61 p.1 p.2.1) (p.1 - k) k with
    | none => rfl
    | some q => rfl
  · obtain ⟨n, x, z⟩ := p
    refine (loop61 n x z (k : Int)).trans ?_
    simp only at hk hp
    have hk' : (k : Int) < (n : Int) := by omega
    unfold ok61 at hp
    simp only [Bool.and_eq_true, Nat.ble_eq] at hp
    unfold rnd61 g61 spG
    rw [decide_eq_true hk', decide_eq_true (show (0 : Int) ≤ (k : Int) by omega), Int.toNat_natCast, wrapI (show -9223372036854775808 ≤ (k : Int) + 1 by omega) (by omega), ckB_get hp.2 hk]
    by_cases c1 : spE x k = 0
    · rw [c1, if_pos rfl]; rfl
    · rw [bne_iff_ne.2 c1, if_neg c1]; rfl
  · obtain ⟨n, x, z⟩ := p
    refine (loop61 n x z (n : Int)).trans ?_
    simp only [rnd61]
    rw [decide_eq_false (by omega)]
    rfl
theorem sx52 : (mkCx Try.prog (spOf [t12]) (inlOf []) extD).Ok InvD := cx_of [] (by kernel_rfl) (by
  intro p hp
  simp only [List.mem_cons, List.not_mem_nil, or_false] at hp
  rcases hp with rfl
  · exact t12_ok)
theorem sx61 : (mkCx Try.prog (spOf [t13]) (inlOf []) extD).Ok InvD := cx_of [] (by kernel_rfl) (by
  intro p hp
  simp only [List.mem_cons, List.not_mem_nil, or_false] at hp
  rcases hp with rfl
  · exact t13_ok)
def t52 : Ent := ⟨52, fun
  | [.isz n [.int .i64, .int .i64, .int .i64, .str, .str, .int .i64, .int .i64, .int .i64, .row [.str, .str], .row [.int .i64, .int .i64]] x] => .chk (Nat.ble n 9223372036854775807) (.leaf (.ret (.int .i64 (caE n x))))
  | _ => .non⟩
theorem vtt52 (n : Nat) (x : Nat → Nat → Dt) : evFn Try.prog (spOf [t12]) (inlOf []) extD (cKD [t12] []) (lp52) Try.f52 [.isz n SS x] [] (fun r _ => some r) =
    (bif true && (true && (decide ((n : Int) = (n : Int)) && ok52 n x 0)) then bif (sc52 n x (Int.toNat 0)).isNone then RI 0 else RI (((sc52 n x (Int.toNat 0)).getD (0, 0)).1) else none : Option Res) := by kernel_rfl
set_option maxRecDepth 4000 in
theorem t52_ok : SpecHolds Try.prog InvD 52 fun a => (t52.2 a).run := by
  refine specD sx52 Try.func52 (c := codeOf Try.prog 52) (by kernel_rfl) (lp52) (fun p hp => by
    have hl : loops (codeOf Try.prog 52) = [(0, bodyOf Try.prog 52 0)] := by kernel_rfl
    rw [hl, List.mem_singleton] at hp
    subst hp
    exact sum52) fun args r hh => ?_
  simp only [t52] at hh
  split at hh
  · rename_i n x
    obtain ⟨hg, hh⟩ := chk_run hh
    refine ⟨by kernel_rfl, tr_ok (by rfl) hh, ?_⟩
    refine (vtt52 n x).trans (Eq.trans ?_ hh)
    have hk : ok52 n x 0 = true := hg
    rw [hk]
    simp only [Tr.run, caE, sc52, Int.toNat_zero, Nat.sub_zero, decide_true, Bool.and_self, cond_true, show g52 n x = spG x from rfl]
    cases scan (spG x) n 0 with
    | none => rfl
    | some q => rfl
  · simp [Tr.run] at hh
def t61 : Ent := ⟨61, fun
  | [.isz n [.int .i64, .int .i64, .int .i64, .str, .str, .int .i64, .int .i64, .int .i64, .row [.str, .str], .row [.int .i64, .int .i64]] x] => .chk (Nat.ble n 9223372036854775807 && ckB n x) (.leaf (.ret (.int .i64 (caE n x))))
  | _ => .non⟩
theorem vtt61 (n : Nat) (x : Nat → Nat → Dt) : evFn Try.prog (spOf [t13]) (inlOf []) extD (cKD [t13] []) (lp61) Try.f61 [.isz n SS x] [] (fun r _ => some r) =
    (bif true && (true && (true && ok61 n x 0)) then bif (sc61 n x (Int.toNat 0)).isNone then RI 0 else RI (((sc61 n x (Int.toNat 0)).getD (0, 0)).1) else none : Option Res) := by kernel_rfl
set_option maxRecDepth 4000 in
theorem t61_ok : SpecHolds Try.prog InvD 61 fun a => (t61.2 a).run := by
  refine specD sx61 Try.func61 (c := codeOf Try.prog 61) (by kernel_rfl) (lp61) (fun p hp => by
    have hl : loops (codeOf Try.prog 61) = [(0, bodyOf Try.prog 61 0)] := by kernel_rfl
    rw [hl, List.mem_singleton] at hp
    subst hp
    exact sum61) fun args r hh => ?_
  simp only [t61] at hh
  split at hh
  · rename_i n x
    obtain ⟨hg, hh⟩ := chk_run hh
    refine ⟨by kernel_rfl, tr_ok (by rfl) hh, ?_⟩
    refine (vtt61 n x).trans (Eq.trans ?_ hh)
    have hk : ok61 n x 0 = true := hg
    rw [hk]
    simp only [Tr.run, caE, sc61, Int.toNat_zero, Nat.sub_zero, Bool.and_self, cond_true, show g61 n x = spG x from rfl]
    cases scan (spG x) n 0 with
    | none => rfl
    | some q => rfl
  · simp [Tr.run] at hh
end Go.Proofs.Ytfgniheefiefjaa

/- What the span tree rows' readings give: the arguments' forms. Conditions: the rows' own. -/
namespace Go.Proofs.Ytfgniheefiefjaa
open Go.ChangeShapes Go.WideShapes Go.ChangeAt Go.RowKit Go.Joins Go.Evl

theorem own : ownKnob Try.prog.godebug = none := by kernel_rfl
theorem laidOut : laidOutB Try.prog = true := by kernel_rfl
theorem wf_inI {n : Int} (h : (Lit.int .i64 n).wf = true) : inI n = true := by
  simp only [Lit.wf, Bool.and_eq_true, decide_eq_true_eq] at h
  have e1 : IntKind.i64.min = -9223372036854775808 := rfl
  have e2 : IntKind.i64.max = 9223372036854775807 := rfl
  exact inI_iff.2 (by omega)
section
variable {H : Type} {enc : TypeId × Value → H} {w : World} {base b0 : Nat} {spare : Nat → Bool} {held : Bool} {rc : Reach} {v : Value} {d : DataW H} {p : List MemPlace}
set_option maxRecDepth 100000 in
theorem span_form (hv : Value.okWide Try.prog w rc b0 25 v) (h : DataW.Trod enc Try.prog w base spare held 25 v d p) : ∃ (t i p : Int) (z m : ByteArray) (b e s : Int) (n : Nat) (x : Nat → Nat → Dt) (k : Nat) (y : Nat → Nat → Dt),
    Rv (Nm.one 0 0) (fun b => b < w.heap.size) w None_ (.agg [.int .i64 t, .int .i64 i, .int .i64 p, .str z, .str m, .int .i64 b, .int .i64 e, .int .i64 s, .isz n SL x, .isz k SK y]) v ∧ inI t = true ∧ n ≤ 9223372036854775807 ∧ inB k y = true := by
  obtain ⟨ds, hl, hr, hok⟩ := arg_struct (ρ := Nm.one 0 0) (d := 8) (sh := SS) Try.underlying25 (by kernel_rfl) (by kernel_rfl) hv h
  match ds, hl with
  | [d0, d1, d2, d3, d4, d5, d6, d7, d8, d9], _ =>
    refine ⟨d0.n, d1.n, d2.n, d3.s, d4.s, d5.n, d6.n, d7.n, d8.len, d8.el, d9.len, d9.el, hr, wf_inI (hok 1 0 _ _ rfl rfl), ?_, ?_⟩
    · have h8 : dtOk 1 (.row SL) d8 := hok 1 8 _ _ rfl rfl
      exact h8.1
    · have h9 : dtOk 2 (.row SK) d9 := hok 2 9 _ _ rfl rfl
      exact List.all_eq_true.2 fun k hk => wf_inI (h9.2 k (List.mem_range.1 hk) 0 _ rfl)
theorem below_trod {W W' : World} {t : TypeId} {v : Value} {d : DataW H} {ps : List MemPlace} (hr : Try.prog.readableRec t = true) (hrow : t < Try.prog.types.size) (h : DataW.Trod enc Try.prog W 0 (fun _ => true) true t v d ps) (hb : Below W.heap.size W W') (hlt : ∀ x ∈ ps, x.block < W.heap.size) :
    DataW.Trod enc Try.prog W' 0 (fun b => decide (b < W.heap.size)) true t v d ps := Below.trod laidOut hr hrow h hb hlt
end
end Go.Proofs.Ytfgniheefiefjaa

/- Comparing what is the same: contracts. Conditions: none beyond the context's. -/
namespace Go.Proofs.Ytfgniheefiefjaa
open Go.Evl Go.RowKit

theorem bytesLess_self : ∀ l : List UInt8, Op.bytesLess l l = false
  | [] => rfl
  | a :: l => by
    have h : ¬ a < a := by simp
    simp [Op.bytesLess, bytesLess_self l]
def txI (a b : ByteArray) : Int := if Op.bytesLess a.toList b.toList then -1 else if leS a b then 0 else 1
theorem txI_self {a b : ByteArray} (h : (a.toList == b.toList) = true) : txI a b = 0 := by
  have e : a.toList = b.toList := by simpa using h
  simp [txI, leS, e, bytesLess_self]
/-- labels that read alike -/
def elB (n : Nat) (x : Nat → Nat → Dt) (m : Nat) (y : Nat → Nat → Dt) : Bool := Nat.beq n m && (List.range n).all fun k => ((x k 0).s.toList == (y k 0).s.toList) && ((x k 1).s.toList == (y k 1).s.toList)
theorem elB_get {n m : Nat} {x y : Nat → Nat → Dt} (h : elB n x m y = true) : n = m ∧ ∀ k, k < n → ((x k 0).s.toList == (y k 0).s.toList) = true ∧ ((x k 1).s.toList == (y k 1).s.toList) = true := by
  unfold elB at h
  rw [Bool.and_eq_true] at h
  refine ⟨by simpa using h.1, fun k hk => ?_⟩
  have := List.all_eq_true.1 h.2 k (List.mem_range.2 hk)
  simpa only [Bool.and_eq_true] using this
theorem elB_refl (n : Nat) (x : Nat → Nat → Dt) : elB n x n x = true := by
  unfold elB
  rw [Bool.and_eq_true]
  exact ⟨by simp, List.all_eq_true.2 fun k _ => by simp⟩
def t90 : Ent := ⟨90, fun
  | [.str a, .str b] => .leaf (.ret (.int .i64 (txI a b)))
  | _ => .non⟩
theorem vtt90 (a : ByteArray) (b : ByteArray) : evFn Try.prog (spOf []) (inlOf []) extD (cKD [] []) (fun _ => .unroll 0) Try.f90 [.str a, .str b] [] (fun r _ => some r) =
    (bif Op.bytesLess a.toList b.toList then RI (-1) else bif !(leS a b) then RI 1 else RI 0 : Option Res) := by kernel_rfl
theorem t90_ok : SpecHolds Try.prog InvD 90 fun a => (t90.2 a).run := by
  refine specD cx0 Try.func90 (c := codeOf Try.prog 90) (by kernel_rfl) (fun _ => .unroll 0) (fun _ _ => trivial) fun args r hh => ?_
  simp only [t90] at hh
  split at hh
  · rename_i a b
    refine ⟨by kernel_rfl, tr_ok (by rfl) hh, ?_⟩
    refine (vtt90 a b).trans (Eq.trans ?_ hh)
    simp only [Tr.run, txI]
    cases Op.bytesLess a.toList b.toList <;> cases leS a b <;> rfl
  · simp [Tr.run] at hh
abbrev keep75 : List Nat := [0, 1, 4, 5]
abbrev vs75 (n : Nat) (x : Nat → Nat → Dt) (m : Nat) (y : Nat → Nat → Dt) (z : Int) (i : Int) : List AV := [.isz n SL x, .isz m SL y, .int .i64 z, .int .i64 i]
def g75 (n : Nat) (x : Nat → Nat → Dt) (m : Nat) (y : Nat → Nat → Dt) (k : Nat) : Option Int := (fun (_ : Nat) (_ : Nat → Nat → Dt) (_ : Nat) (_ : Nat → Nat → Dt) (_ : Nat) => (none : Option Int)) n x m y k
def sc75 (n : Nat) (x : Nat → Nat → Dt) (m : Nat) (y : Nat → Nat → Dt) (k : Nat) : Option (Int × Nat) := scan (g75 n x m y) (n - k) k
def ok75 (n : Nat) (x : Nat → Nat → Dt) (m : Nat) (y : Nat → Nat → Dt) (_z : Int) : Bool := Nat.ble n 1000000 && elB n x m y
def f75s : List AV → List Ob → Tr (Ex × List AV × List Ob)
  | [.isz n [.str, .str] x, .isz m [.str, .str] y, .int .i64 z, .int .i64 i], [] => .chk (decide (0 ≤ i) && (decide (i ≤ (n : Int)) && (true && ok75 n x m y z)))
      (.node (sc75 n x m y i.toNat).isNone (.leaf (.exit 0, vs75 n x m y z (n : Int), [])) (.leaf (.ret, vs75 n x m y (((sc75 n x m y i.toNat).getD (0, 0)).1) (((sc75 n x m y i.toNat).getD (0, 0)).2 : Int), [])))
  | _, _ => .non
abbrev lp75 (_ : Nat) : LT := .sum keep75 f75s
def rnd75 (n : Nat) (x : Nat → Nat → Dt) (m : Nat) (y : Nat → Nat → Dt) (z : Int) (i : Int) : Option (Ex × List AV × List Ob) :=
  bif decide (i < (n : Int)) then bif decide (i < (m : Int)) then bif decide (0 ≤ i) && decide (i < (n : Int)) then bif decide (0 ≤ i) && decide (i < (m : Int)) then bif txI (x i.toNat 0).s (y i.toNat 0).s != 0 then some (.ret, vs75 n x m y (txI (x i.toNat 0).s (y i.toNat 0).s) i, []) else bif decide (0 ≤ i) && decide (i < (n : Int)) then bif decide (0 ≤ i) && decide (i < (m : Int)) then bif txI (x i.toNat 1).s (y i.toNat 1).s != 0 then some (.ret, vs75 n x m y (txI (x i.toNat 1).s (y i.toNat 1).s) i, [])
  else some (.normal, vs75 n x m y z (IntKind.i64.wrap (i + 1)), []) else none else none else none else none else some (.exit 0, vs75 n x m y z i, []) else some (.exit 0, vs75 n x m y z i, [])
theorem loop75 (n : Nat) (x : Nat → Nat → Dt) (m : Nat) (y : Nat → Nat → Dt) (z : Int) (i : Int) : evC (β := Ex × List AV × List Ob) Try.prog (spOf [t90]) (inlOf []) extD (cKD [t90] []) lp75 (bodyOf Try.prog 75 0) ⟨mkF Try.f75.ntmps keep75 (vs75 n x m y z i), []⟩ (fun e st => (cutBack keep75 0 st).map fun q => (e, q.1, q.2)) = rnd75 n x m y z i := by kernel_rfl
theorem sum75 : LoopOkT Try.prog (spOf [t90]) (inlOf []) extD (cKD [t90] []) lp75 Try.f75.ntmps (bodyOf Try.prog 75 0) (.sum keep75 f75s) := by
  dsimp only [LoopOkT]
  refine ⟨by decide, by decide, ?_⟩
  refine sum_scan (Par := (Nat) × (Nat → Nat → Dt) × (Nat) × (Nat → Nat → Dt) × (Int)) (α := Int) (id := 0) (fun p => p.1) (fun p => ok75 p.1 p.2.1 p.2.2.1 p.2.2.2.1 p.2.2.2.2 = true) (fun p k => vs75 p.1 p.2.1 p.2.2.1 p.2.2.2.1 p.2.2.2.2 (k : Int)) (fun p => []) (fun p => g75 p.1 p.2.1 p.2.2.1 p.2.2.2.1) (fun p e k => vs75 p.1 p.2.1 p.2.2.1 p.2.2.2.1 (e) (k : Int))
    (fun vs H => match vs, H with | [.isz n [.str, .str] x, .isz m [.str, .str] y, .int .i64 z, .int .i64 i], [] => n - i.toNat | _, _ => 0) (fun p k => rfl) (fun vs H R hR => ?_) (fun p k hp hk => ?_) (fun p k hp hk => ?_) (fun p hp => ?_)
  · unfold f75s at hR
    split at hR
    · rename_i n x m y z i
      obtain ⟨hc, _⟩ := chk_run hR
      simp only [Bool.and_eq_true, decide_eq_true_eq] at hc
      obtain ⟨h0, h1, hx, hok⟩ := hc
      obtain ⟨k, rfl⟩ : ∃ k : Nat, i = (k : Int) := ⟨i.toNat, by omega⟩
      clear hx
      exact ⟨(n, x, m, y, z), k, hok, by show k ≤ n; omega, rfl, rfl⟩
    · simp [Tr.run] at hR
  · show (f75s (vs75 p.1 p.2.1 p.2.2.1 p.2.2.2.1 p.2.2.2.2 (k : Int)) []).run = _
    simp only [f75s, Tr.run, Int.toNat_natCast, Bool.true_and, hp]
    rw [decide_eq_true (show (0 : Int) ≤ (k : Int) by omega), decide_eq_true (show (k : Int) ≤ (p.1 : Int) by omega)]
    simp only [Bool.and_self, cond_true, sc75]
    cases scan (g75 p.1 p.2.1 p.2.2.1 p.2.2.2.1) (p.1 - k) k with
    | none => rfl
    | some q => rfl
  · obtain ⟨n, x, m, y, z⟩ := p
    refine (loop75 n x m y z (k : Int)).trans ?_
    simp only at hk hp
    have hk' : (k : Int) < (n : Int) := by omega
    unfold ok75 at hp
    simp only [Bool.and_eq_true, Nat.ble_eq] at hp
    obtain ⟨he, hall⟩ := elB_get hp.2
    obtain ⟨h1, h2⟩ := hall k hk
    unfold rnd75 g75
    rw [decide_eq_true hk', decide_eq_true (show (0 : Int) ≤ (k : Int) by omega), decide_eq_true (show (k : Int) < (m : Int) by omega), Int.toNat_natCast, wrapI (show -9223372036854775808 ≤ (k : Int) + 1 by omega) (by omega), txI_self h1, txI_self h2]
    rfl
  · obtain ⟨n, x, m, y, z⟩ := p
    refine (loop75 n x m y z (n : Int)).trans ?_
    simp only [rnd75]
    rw [decide_eq_false (by omega)]
    rfl
theorem scan_nil {α : Type} : ∀ (k i : Nat), scan (fun _ => (none : Option α)) k i = none
  | 0, _ => rfl
  | k + 1, i => by simp only [scan]; exact scan_nil k (i + 1)
theorem sx75 : (mkCx Try.prog (spOf [t90]) (inlOf []) extD).Ok InvD := cx_of [] (by kernel_rfl) (by
  intro p hp
  simp only [List.mem_cons, List.not_mem_nil, or_false] at hp
  rcases hp with rfl
  · exact t90_ok)
def t75 : Ent := ⟨75, fun
  | [.isz n [.str, .str] x, .isz m [.str, .str] y] => .chk (Nat.ble n 1000000 && elB n x m y) (.leaf (.ret (.int .i64 0)))
  | _ => .non⟩
theorem vtt75 (n : Nat) (x : Nat → Nat → Dt) (m : Nat) (y : Nat → Nat → Dt) : evFn Try.prog (spOf [t90]) (inlOf []) extD (cKD [t90] []) (lp75) Try.f75 [.isz n SL x, .isz m SL y] [] (fun r _ => some r) =
    (bif true && (true && (true && ok75 n x m y 0)) then bif (sc75 n x m y (Int.toNat 0)).isNone then bif decide ((n : Int) < (m : Int)) then RI (-1) else bif decide ((n : Int) > (m : Int)) then RI 1 else RI 0 else RI (((sc75 n x m y (Int.toNat 0)).getD (0, 0)).1) else none : Option Res) := by kernel_rfl
set_option maxRecDepth 4000 in
theorem t75_ok : SpecHolds Try.prog InvD 75 fun a => (t75.2 a).run := by
  refine specD sx75 Try.func75 (c := codeOf Try.prog 75) (by kernel_rfl) (lp75) (fun p hp => by
    have hl : loops (codeOf Try.prog 75) = [(0, bodyOf Try.prog 75 0)] := by kernel_rfl
    rw [hl, List.mem_singleton] at hp
    subst hp
    exact sum75) fun args r hh => ?_
  simp only [t75] at hh
  split at hh
  · rename_i n x m y
    obtain ⟨hg, hh⟩ := chk_run hh
    refine ⟨by kernel_rfl, tr_ok (by rfl) hh, ?_⟩
    refine (vtt75 n x m y).trans (Eq.trans ?_ hh)
    have hk : ok75 n x m y 0 = true := hg
    rw [Bool.and_eq_true] at hg
    obtain ⟨rfl, _⟩ := elB_get hg.2
    have hs : sc75 n x n y (Int.toNat 0) = none := scan_nil _ _
    rw [hk, hs, decide_eq_false (Int.lt_irrefl _)]
    rfl
  · simp [Tr.run] at hh
theorem sx60 : (mkCx Try.prog (spOf [t75]) (inlOf []) extD).Ok InvD := cx_of [] (by kernel_rfl) (by
  intro p hp
  simp only [List.mem_cons, List.not_mem_nil, or_false] at hp
  rcases hp with rfl
  · exact t75_ok)
def t60 : Ent := ⟨60, fun
  | [.isz n [.str, .str] x, .isz m [.str, .str] y] => .chk (Nat.ble n 1000000 && elB n x m y) (.leaf (.ret (.bool true)))
  | _ => .non⟩
theorem vtt60 (n : Nat) (x : Nat → Nat → Dt) (m : Nat) (y : Nat → Nat → Dt) : evFn Try.prog (spOf [t75]) (inlOf []) extD (cKD [t75] []) (fun _ => .unroll 0) Try.f60 [.isz n SL x, .isz m SL y] [] (fun r _ => some r) =
    (bif Nat.ble n 1000000 && elB n x m y then RB true else none : Option Res) := by kernel_rfl
theorem t60_ok : SpecHolds Try.prog InvD 60 fun a => (t60.2 a).run := by
  refine specD sx60 Try.func60 (c := codeOf Try.prog 60) (by kernel_rfl) (fun _ => .unroll 0) (fun _ _ => trivial) fun args r hh => ?_
  simp only [t60] at hh
  split at hh
  · rename_i n x m y
    obtain ⟨hg, hh⟩ := chk_run hh
    refine ⟨by kernel_rfl, tr_ok (by rfl) hh, ?_⟩
    refine (vtt60 n x m y).trans (Eq.trans ?_ hh)
    rw [hg]; rfl
  · simp [Tr.run] at hh
end Go.Proofs.Ytfgniheefiefjaa

/- Comparing spans that are the same: contracts. Conditions: none beyond the context's. -/
namespace Go.Proofs.Ytfgniheefiefjaa
open Go.Evl Go.RowKit

/-- links that read alike -/
def ekB (n : Nat) (x : Nat → Nat → Dt) (m : Nat) (y : Nat → Nat → Dt) : Bool := Nat.beq n m && (List.range n).all fun k => ((x k 0).n == (y k 0).n) && ((x k 1).n == (y k 1).n)
theorem ekB_get {n m : Nat} {x y : Nat → Nat → Dt} (h : ekB n x m y = true) : n = m ∧ ∀ k, k < n → ((x k 0).n == (y k 0).n) = true ∧ ((x k 1).n == (y k 1).n) = true := by
  unfold ekB at h
  rw [Bool.and_eq_true] at h
  refine ⟨by simpa using h.1, fun k hk => ?_⟩
  have := List.all_eq_true.1 h.2 k (List.mem_range.2 hk)
  simpa only [Bool.and_eq_true] using this
theorem ekB_refl (n : Nat) (x : Nat → Nat → Dt) : ekB n x n x = true := by
  unfold ekB
  rw [Bool.and_eq_true]
  exact ⟨by simp, List.all_eq_true.2 fun k _ => by simp⟩
theorem cpI_self (a b : Int) : cpI a b a b = 0 := by simp [cpI, orI, cmI]
abbrev hp27 (t1 : Int) (a1 : Int) (p1 : Int) (v1 : ByteArray) (m1 : ByteArray) (b1 : Int) (c1 : Int) (s1 : Int) (n1 : Nat) (x1 : Nat → Nat → Dt) (l1 : Nat) (y1 : Nat → Nat → Dt) (t2 : Int) (a2 : Int) (p2 : Int) (v2 : ByteArray) (m2 : ByteArray) (b2 : Int) (c2 : Int) (s2 : Int) (n2 : Nat) (x2 : Nat → Nat → Dt) (l2 : Nat) (y2 : Nat → Nat → Dt) : List Ob := [.cells [.int .i64 t1, .int .i64 a1, .int .i64 p1, .str v1, .str m1, .int .i64 b1, .int .i64 c1, .int .i64 s1, .isz n1 SL x1, .isz l1 SK y1] 25, .cells [.int .i64 t2, .int .i64 a2, .int .i64 p2, .str v2, .str m2, .int .i64 b2, .int .i64 c2, .int .i64 s2, .isz n2 SL x2, .isz l2 SK y2] 25]
abbrev keep27 : List Nat := [2, 3, 4, 5]
abbrev vs27 (_t1 : Int) (_a1 : Int) (_p1 : Int) (_v1 : ByteArray) (_m1 : ByteArray) (_b1 : Int) (_c1 : Int) (_s1 : Int) (_n1 : Nat) (_x1 : Nat → Nat → Dt) (_l1 : Nat) (_y1 : Nat → Nat → Dt) (_t2 : Int) (_a2 : Int) (_p2 : Int) (_v2 : ByteArray) (_m2 : ByteArray) (_b2 : Int) (_c2 : Int) (_s2 : Int) (_n2 : Nat) (_x2 : Nat → Nat → Dt) (_l2 : Nat) (_y2 : Nat → Nat → Dt) (z : Bool) (i : Int) : List AV := [.ptr 0 0, .ptr 1 0, .bool z, .int .i64 i]
def g27 (t1 : Int) (a1 : Int) (p1 : Int) (v1 : ByteArray) (m1 : ByteArray) (b1 : Int) (c1 : Int) (s1 : Int) (n1 : Nat) (x1 : Nat → Nat → Dt) (l1 : Nat) (y1 : Nat → Nat → Dt) (t2 : Int) (a2 : Int) (p2 : Int) (v2 : ByteArray) (m2 : ByteArray) (b2 : Int) (c2 : Int) (s2 : Int) (n2 : Nat) (x2 : Nat → Nat → Dt) (l2 : Nat) (y2 : Nat → Nat → Dt) (k : Nat) : Option Unit := (fun (_ : Int) (_ : Int) (_ : Int) (_ : ByteArray) (_ : ByteArray) (_ : Int) (_ : Int) (_ : Int) (_ : Nat) (_ : Nat → Nat → Dt) (_ : Nat) (_ : Nat → Nat → Dt) (_ : Int) (_ : Int) (_ : Int) (_ : ByteArray) (_ : ByteArray) (_ : Int) (_ : Int) (_ : Int) (_ : Nat) (_ : Nat → Nat → Dt) (_ : Nat) (_ : Nat → Nat → Dt) (_ : Nat) => (none : Option Unit)) t1 a1 p1 v1 m1 b1 c1 s1 n1 x1 l1 y1 t2 a2 p2 v2 m2 b2 c2 s2 n2 x2 l2 y2 k
def sc27 (t1 : Int) (a1 : Int) (p1 : Int) (v1 : ByteArray) (m1 : ByteArray) (b1 : Int) (c1 : Int) (s1 : Int) (n1 : Nat) (x1 : Nat → Nat → Dt) (l1 : Nat) (y1 : Nat → Nat → Dt) (t2 : Int) (a2 : Int) (p2 : Int) (v2 : ByteArray) (m2 : ByteArray) (b2 : Int) (c2 : Int) (s2 : Int) (n2 : Nat) (x2 : Nat → Nat → Dt) (l2 : Nat) (y2 : Nat → Nat → Dt) (k : Nat) : Option (Unit × Nat) := scan (g27 t1 a1 p1 v1 m1 b1 c1 s1 n1 x1 l1 y1 t2 a2 p2 v2 m2 b2 c2 s2 n2 x2 l2 y2) (l1 - k) k
def ok27 (_t1 : Int) (_a1 : Int) (_p1 : Int) (_v1 : ByteArray) (_m1 : ByteArray) (_b1 : Int) (_c1 : Int) (_s1 : Int) (_n1 : Nat) (_x1 : Nat → Nat → Dt) (l1 : Nat) (y1 : Nat → Nat → Dt) (_t2 : Int) (_a2 : Int) (_p2 : Int) (_v2 : ByteArray) (_m2 : ByteArray) (_b2 : Int) (_c2 : Int) (_s2 : Int) (_n2 : Nat) (_x2 : Nat → Nat → Dt) (l2 : Nat) (y2 : Nat → Nat → Dt) (_z : Bool) : Bool := Nat.ble l1 1000000 && ekB l1 y1 l2 y2
def f27s : List AV → List Ob → Tr (Ex × List AV × List Ob)
  | [.ptr 0 0, .ptr 1 0, .bool z, .int .i64 i], [.cells [.int .i64 t1, .int .i64 a1, .int .i64 p1, .str v1, .str m1, .int .i64 b1, .int .i64 c1, .int .i64 s1, .isz n1 [.str, .str] x1, .isz l1 [.int .i64, .int .i64] y1] 25, .cells [.int .i64 t2, .int .i64 a2, .int .i64 p2, .str v2, .str m2, .int .i64 b2, .int .i64 c2, .int .i64 s2, .isz n2 [.str, .str] x2, .isz l2 [.int .i64, .int .i64] y2] 25] => .chk (decide (0 ≤ i) && (decide (i ≤ (l1 : Int)) && (true && ok27 t1 a1 p1 v1 m1 b1 c1 s1 n1 x1 l1 y1 t2 a2 p2 v2 m2 b2 c2 s2 n2 x2 l2 y2 z)))
      (.node (sc27 t1 a1 p1 v1 m1 b1 c1 s1 n1 x1 l1 y1 t2 a2 p2 v2 m2 b2 c2 s2 n2 x2 l2 y2 i.toNat).isNone (.leaf (.exit 0, vs27 t1 a1 p1 v1 m1 b1 c1 s1 n1 x1 l1 y1 t2 a2 p2 v2 m2 b2 c2 s2 n2 x2 l2 y2 z (l1 : Int), (hp27 t1 a1 p1 v1 m1 b1 c1 s1 n1 x1 l1 y1 t2 a2 p2 v2 m2 b2 c2 s2 n2 x2 l2 y2))) (.leaf (.ret, vs27 t1 a1 p1 v1 m1 b1 c1 s1 n1 x1 l1 y1 t2 a2 p2 v2 m2 b2 c2 s2 n2 x2 l2 y2 (false) (((sc27 t1 a1 p1 v1 m1 b1 c1 s1 n1 x1 l1 y1 t2 a2 p2 v2 m2 b2 c2 s2 n2 x2 l2 y2 i.toNat).getD ((), 0)).2 : Int), (hp27 t1 a1 p1 v1 m1 b1 c1 s1 n1 x1 l1 y1 t2 a2 p2 v2 m2 b2 c2 s2 n2 x2 l2 y2))))
  | _, _ => .non
abbrev lp27 (_ : Nat) : LT := .sum keep27 f27s
def rnd27 (t1 : Int) (a1 : Int) (p1 : Int) (v1 : ByteArray) (m1 : ByteArray) (b1 : Int) (c1 : Int) (s1 : Int) (n1 : Nat) (x1 : Nat → Nat → Dt) (l1 : Nat) (y1 : Nat → Nat → Dt) (t2 : Int) (a2 : Int) (p2 : Int) (v2 : ByteArray) (m2 : ByteArray) (b2 : Int) (c2 : Int) (s2 : Int) (n2 : Nat) (x2 : Nat → Nat → Dt) (l2 : Nat) (y2 : Nat → Nat → Dt) (z : Bool) (i : Int) : Option (Ex × List AV × List Ob) :=
  bif decide (i < (l1 : Int)) then bif decide (0 ≤ i) && decide (i < (l1 : Int)) then bif decide (0 ≤ i) && decide (i < (l2 : Int)) then bif !((y1 i.toNat 0).n == (y2 i.toNat 0).n && ((y1 i.toNat 1).n == (y2 i.toNat 1).n && true)) then some (.ret, vs27 t1 a1 p1 v1 m1 b1 c1 s1 n1 x1 l1 y1 t2 a2 p2 v2 m2 b2 c2 s2 n2 x2 l2 y2 false i, hp27 t1 a1 p1 v1 m1 b1 c1 s1 n1 x1 l1 y1 t2 a2 p2 v2 m2 b2 c2 s2 n2 x2 l2 y2) else some (.normal, vs27 t1 a1 p1 v1 m1 b1 c1 s1 n1 x1 l1 y1 t2 a2 p2 v2 m2 b2 c2 s2 n2 x2 l2 y2 z (IntKind.i64.wrap (i + 1)), hp27 t1 a1 p1 v1 m1 b1 c1 s1 n1 x1 l1 y1 t2 a2 p2 v2 m2 b2 c2 s2 n2 x2 l2 y2) else none else none else some (.exit 0, vs27 t1 a1 p1 v1 m1 b1 c1 s1 n1 x1 l1 y1 t2 a2 p2 v2 m2 b2 c2 s2 n2 x2 l2 y2 z i, hp27 t1 a1 p1 v1 m1 b1 c1 s1 n1 x1 l1 y1 t2 a2 p2 v2 m2 b2 c2 s2 n2 x2 l2 y2)
theorem loop27 (t1 : Int) (a1 : Int) (p1 : Int) (v1 : ByteArray) (m1 : ByteArray) (b1 : Int) (c1 : Int) (s1 : Int) (n1 : Nat) (x1 : Nat → Nat → Dt) (l1 : Nat) (y1 : Nat → Nat → Dt) (t2 : Int) (a2 : Int) (p2 : Int) (v2 : ByteArray) (m2 : ByteArray) (b2 : Int) (c2 : Int) (s2 : Int) (n2 : Nat) (x2 : Nat → Nat → Dt) (l2 : Nat) (y2 : Nat → Nat → Dt) (z : Bool) (i : Int) : evC (β := Ex × List AV × List Ob) Try.prog (spOf [t15, t60]) (inlOf []) extD (cKD [t15, t60] []) lp27 (bodyOf Try.prog 27 0) ⟨mkF Try.f27.ntmps keep27 (vs27 t1 a1 p1 v1 m1 b1 c1 s1 n1 x1 l1 y1 t2 a2 p2 v2 m2 b2 c2 s2 n2 x2 l2 y2 z i), (hp27 t1 a1 p1 v1 m1 b1 c1 s1 n1 x1 l1 y1 t2 a2 p2 v2 m2 b2 c2 s2 n2 x2 l2 y2)⟩ (fun e st => (cutBack keep27 2 st).map fun q => (e, q.1, q.2)) = rnd27 t1 a1 p1 v1 m1 b1 c1 s1 n1 x1 l1 y1 t2 a2 p2 v2 m2 b2 c2 s2 n2 x2 l2 y2 z i := by kernel_rfl
theorem sum27 : LoopOkT Try.prog (spOf [t15, t60]) (inlOf []) extD (cKD [t15, t60] []) lp27 Try.f27.ntmps (bodyOf Try.prog 27 0) (.sum keep27 f27s) := by
  dsimp only [LoopOkT]
  refine ⟨by decide, by decide, ?_⟩
  refine sum_scan (Par := (Int) × (Int) × (Int) × (ByteArray) × (ByteArray) × (Int) × (Int) × (Int) × (Nat) × (Nat → Nat → Dt) × (Nat) × (Nat → Nat → Dt) × (Int) × (Int) × (Int) × (ByteArray) × (ByteArray) × (Int) × (Int) × (Int) × (Nat) × (Nat → Nat → Dt) × (Nat) × (Nat → Nat → Dt) × (Bool)) (α := Unit) (id := 0) (fun p => p.2.2.2.2.2.2.2.2.2.2.1) (fun p => ok27 p.1 p.2.1 p.2.2.1 p.2.2.2.1 p.2.2.2.2.1 p.2.2.2.2.2.1 p.2.2.2.2.2.2.1 p.2.2.2.2.2.2.2.1 p.2.2.2.2.2.2.2.2.1 p.2.2.2.2.2.2.2.2.2.1 p.2.2.2.2.2.2.2.2.2.2.1 p.2.2.2.2.2.2.2.2.2.2.2.1 p.2.2.2.2.2.2.2.2.2.2.2.2.1 p.2.2.2.2.2.2.2.2.2.2.2.2.2.1 p.2.2.2.2.2.2.2.2.2.2.2.2.2.2.1 p.2.2.2.2.2.2.2.2.2.2.2.2.2.2.2.1 p.2.2.2.2.2.2.2.2.2.2.2.2.2.2.2.2.1 p.2.2.2.2.2.2.2.2.2.2.2.2.2.2.2.2.2.1 p.2.2.2.2.2.2.2.2.2.2.2.2.2.2.2.2.2.2.1 p.2.2.2.2.2.2.2.2.2.2.2.2.2.2.2.2.2.2.2.1 p.2.2.2.2.2.2.2.2.2.2.2.2.2.2.2.2.2.2.2.2.1 p.2.2.2.2.2.2.2.2.2.2.2.2.2.2.2.2.2.2.2.2.2.1 p.2.2.2.2.2.2.2.2.2.2.2.2.2.2.2.2.2.2.2.2.2.2.1 p.2.2.2.2.2.2.2.2.2.2.2.2.2.2.2.2.2.2.2.2.2.2.2.1 p.2.2.2.2.2.2.2.2.2.2.2.2.2.2.2.2.2.2.2.2.2.2.2.2 = true) (fun p k => vs27 p.1 p.2.1 p.2.2.1 p.2.2.2.1 p.2.2.2.2.1 p.2.2.2.2.2.1 p.2.2.2.2.2.2.1 p.2.2.2.2.2.2.2.1 p.2.2.2.2.2.2.2.2.1 p.2.2.2.2.2.2.2.2.2.1 p.2.2.2.2.2.2.2.2.2.2.1 p.2.2.2.2.2.2.2.2.2.2.2.1 p.2.2.2.2.2.2.2.2.2.2.2.2.1 p.2.2.2.2.2.2.2.2.2.2.2.2.2.1 p.2.2.2.2.2.2.2.2.2.2.2.2.2.2.1 p.2.2.2.2.2.2.2.2.2.2.2.2.2.2.2.1 p.2.2.2.2.2.2.2.2.2.2.2.2.2.2.2.2.1 p.2.2.2.2.2.2.2.2.2.2.2.2.2.2.2.2.2.1 p.2.2.2.2.2.2.2.2.2.2.2.2.2.2.2.2.2.2.1 p.2.2.2.2.2.2.2.2.2.2.2.2.2.2.2.2.2.2.2.1 p.2.2.2.2.2.2.2.2.2.2.2.2.2.2.2.2.2.2.2.2.1 p.2.2.2.2.2.2.2.2.2.2.2.2.2.2.2.2.2.2.2.2.2.1 p.2.2.2.2.2.2.2.2.2.2.2.2.2.2.2.2.2.2.2.2.2.2.1 p.2.2.2.2.2.2.2.2.2.2.2.2.2.2.2.2.2.2.2.2.2.2.2.1 p.2.2.2.2.2.2.2.2.2.2.2.2.2.2.2.2.2.2.2.2.2.2.2.2 (k : Int)) (fun p => (hp27 p.1 p.2.1 p.2.2.1 p.2.2.2.1 p.2.2.2.2.1 p.2.2.2.2.2.1 p.2.2.2.2.2.2.1 p.2.2.2.2.2.2.2.1 p.2.2.2.2.2.2.2.2.1 p.2.2.2.2.2.2.2.2.2.1 p.2.2.2.2.2.2.2.2.2.2.1 p.2.2.2.2.2.2.2.2.2.2.2.1 p.2.2.2.2.2.2.2.2.2.2.2.2.1 p.2.2.2.2.2.2.2.2.2.2.2.2.2.1 p.2.2.2.2.2.2.2.2.2.2.2.2.2.2.1 p.2.2.2.2.2.2.2.2.2.2.2.2.2.2.2.1 p.2.2.2.2.2.2.2.2.2.2.2.2.2.2.2.2.1 p.2.2.2.2.2.2.2.2.2.2.2.2.2.2.2.2.2.1 p.2.2.2.2.2.2.2.2.2.2.2.2.2.2.2.2.2.2.1 p.2.2.2.2.2.2.2.2.2.2.2.2.2.2.2.2.2.2.2.1 p.2.2.2.2.2.2.2.2.2.2.2.2.2.2.2.2.2.2.2.2.1 p.2.2.2.2.2.2.2.2.2.2.2.2.2.2.2.2.2.2.2.2.2.1 p.2.2.2.2.2.2.2.2.2.2.2.2.2.2.2.2.2.2.2.2.2.2.1 p.2.2.2.2.2.2.2.2.2.2.2.2.2.2.2.2.2.2.2.2.2.2.2.1)) (fun p => g27 p.1 p.2.1 p.2.2.1 p.2.2.2.1 p.2.2.2.2.1 p.2.2.2.2.2.1 p.2.2.2.2.2.2.1 p.2.2.2.2.2.2.2.1 p.2.2.2.2.2.2.2.2.1 p.2.2.2.2.2.2.2.2.2.1 p.2.2.2.2.2.2.2.2.2.2.1 p.2.2.2.2.2.2.2.2.2.2.2.1 p.2.2.2.2.2.2.2.2.2.2.2.2.1 p.2.2.2.2.2.2.2.2.2.2.2.2.2.1 p.2.2.2.2.2.2.2.2.2.2.2.2.2.2.1 p.2.2.2.2.2.2.2.2.2.2.2.2.2.2.2.1 p.2.2.2.2.2.2.2.2.2.2.2.2.2.2.2.2.1 p.2.2.2.2.2.2.2.2.2.2.2.2.2.2.2.2.2.1 p.2.2.2.2.2.2.2.2.2.2.2.2.2.2.2.2.2.2.1 p.2.2.2.2.2.2.2.2.2.2.2.2.2.2.2.2.2.2.2.1 p.2.2.2.2.2.2.2.2.2.2.2.2.2.2.2.2.2.2.2.2.1 p.2.2.2.2.2.2.2.2.2.2.2.2.2.2.2.2.2.2.2.2.2.1 p.2.2.2.2.2.2.2.2.2.2.2.2.2.2.2.2.2.2.2.2.2.2.1 p.2.2.2.2.2.2.2.2.2.2.2.2.2.2.2.2.2.2.2.2.2.2.2.1) (fun p e k => vs27 p.1 p.2.1 p.2.2.1 p.2.2.2.1 p.2.2.2.2.1 p.2.2.2.2.2.1 p.2.2.2.2.2.2.1 p.2.2.2.2.2.2.2.1 p.2.2.2.2.2.2.2.2.1 p.2.2.2.2.2.2.2.2.2.1 p.2.2.2.2.2.2.2.2.2.2.1 p.2.2.2.2.2.2.2.2.2.2.2.1 p.2.2.2.2.2.2.2.2.2.2.2.2.1 p.2.2.2.2.2.2.2.2.2.2.2.2.2.1 p.2.2.2.2.2.2.2.2.2.2.2.2.2.2.1 p.2.2.2.2.2.2.2.2.2.2.2.2.2.2.2.1 p.2.2.2.2.2.2.2.2.2.2.2.2.2.2.2.2.1 p.2.2.2.2.2.2.2.2.2.2.2.2.2.2.2.2.2.1 p.2.2.2.2.2.2.2.2.2.2.2.2.2.2.2.2.2.2.1 p.2.2.2.2.2.2.2.2.2.2.2.2.2.2.2.2.2.2.2.1 p.2.2.2.2.2.2.2.2.2.2.2.2.2.2.2.2.2.2.2.2.1 p.2.2.2.2.2.2.2.2.2.2.2.2.2.2.2.2.2.2.2.2.2.1 p.2.2.2.2.2.2.2.2.2.2.2.2.2.2.2.2.2.2.2.2.2.2.1 p.2.2.2.2.2.2.2.2.2.2.2.2.2.2.2.2.2.2.2.2.2.2.2.1 (false) (k : Int))
    (fun vs H => match vs, H with | [.ptr 0 0, .ptr 1 0, .bool z, .int .i64 i], [.cells [.int .i64 t1, .int .i64 a1, .int .i64 p1, .str v1, .str m1, .int .i64 b1, .int .i64 c1, .int .i64 s1, .isz n1 [.str, .str] x1, .isz l1 [.int .i64, .int .i64] y1] 25, .cells [.int .i64 t2, .int .i64 a2, .int .i64 p2, .str v2, .str m2, .int .i64 b2, .int .i64 c2, .int .i64 s2, .isz n2 [.str, .str] x2, .isz l2 [.int .i64, .int .i64] y2] 25] => l1 - i.toNat | _, _ => 0) (fun p k => rfl) (fun vs H R hR => ?_) (fun p k hp hk => ?_) (fun p k hp hk => ?_) (fun p hp => ?_)
  · unfold f27s at hR
    split at hR
    · rename_i z i t1 a1 p1 v1 m1 b1 c1 s1 n1 x1 l1 y1 t2 a2 p2 v2 m2 b2 c2 s2 n2 x2 l2 y2
      obtain ⟨hc, _⟩ := chk_run hR
      simp only [Bool.and_eq_true, decide_eq_true_eq] at hc
      obtain ⟨h0, h1, hx, hok⟩ := hc
      obtain ⟨k, rfl⟩ : ∃ k : Nat, i = (k : Int) := ⟨i.toNat, by omega⟩
      clear hx
      exact ⟨(t1, a1, p1, v1, m1, b1, c1, s1, n1, x1, l1, y1, t2, a2, p2, v2, m2, b2, c2, s2, n2, x2, l2, y2, z), k, hok, by show k ≤ l1; omega, rfl, rfl⟩
    · simp [Tr.run] at hR
  · show (f27s (vs27 p.1 p.2.1 p.2.2.1 p.2.2.2.1 p.2.2.2.2.1 p.2.2.2.2.2.1 p.2.2.2.2.2.2.1 p.2.2.2.2.2.2.2.1 p.2.2.2.2.2.2.2.2.1 p.2.2.2.2.2.2.2.2.2.1 p.2.2.2.2.2.2.2.2.2.2.1 p.2.2.2.2.2.2.2.2.2.2.2.1 p.2.2.2.2.2.2.2.2.2.2.2.2.1 p.2.2.2.2.2.2.2.2.2.2.2.2.2.1 p.2.2.2.2.2.2.2.2.2.2.2.2.2.2.1 p.2.2.2.2.2.2.2.2.2.2.2.2.2.2.2.1 p.2.2.2.2.2.2.2.2.2.2.2.2.2.2.2.2.1 p.2.2.2.2.2.2.2.2.2.2.2.2.2.2.2.2.2.1 p.2.2.2.2.2.2.2.2.2.2.2.2.2.2.2.2.2.2.1 p.2.2.2.2.2.2.2.2.2.2.2.2.2.2.2.2.2.2.2.1 p.2.2.2.2.2.2.2.2.2.2.2.2.2.2.2.2.2.2.2.2.1 p.2.2.2.2.2.2.2.2.2.2.2.2.2.2.2.2.2.2.2.2.2.1 p.2.2.2.2.2.2.2.2.2.2.2.2.2.2.2.2.2.2.2.2.2.2.1 p.2.2.2.2.2.2.2.2.2.2.2.2.2.2.2.2.2.2.2.2.2.2.2.1 p.2.2.2.2.2.2.2.2.2.2.2.2.2.2.2.2.2.2.2.2.2.2.2.2 (k : Int)) (hp27 p.1 p.2.1 p.2.2.1 p.2.2.2.1 p.2.2.2.2.1 p.2.2.2.2.2.1 p.2.2.2.2.2.2.1 p.2.2.2.2.2.2.2.1 p.2.2.2.2.2.2.2.2.1 p.2.2.2.2.2.2.2.2.2.1 p.2.2.2.2.2.2.2.2.2.2.1 p.2.2.2.2.2.2.2.2.2.2.2.1 p.2.2.2.2.2.2.2.2.2.2.2.2.1 p.2.2.2.2.2.2.2.2.2.2.2.2.2.1 p.2.2.2.2.2.2.2.2.2.2.2.2.2.2.1 p.2.2.2.2.2.2.2.2.2.2.2.2.2.2.2.1 p.2.2.2.2.2.2.2.2.2.2.2.2.2.2.2.2.1 p.2.2.2.2.2.2.2.2.2.2.2.2.2.2.2.2.2.1 p.2.2.2.2.2.2.2.2.2.2.2.2.2.2.2.2.2.2.1 p.2.2.2.2.2.2.2.2.2.2.2.2.2.2.2.2.2.2.2.1 p.2.2.2.2.2.2.2.2.2.2.2.2.2.2.2.2.2.2.2.2.1 p.2.2.2.2.2.2.2.2.2.2.2.2.2.2.2.2.2.2.2.2.2.1 p.2.2.2.2.2.2.2.2.2.2.2.2.2.2.2.2.2.2.2.2.2.2.1 p.2.2.2.2.2.2.2.2.2.2.2.2.2.2.2.2.2.2.2.2.2.2.2.1)).run = _
    simp only [f27s, Tr.run, Int.toNat_natCast, Bool.true_and, hp]
    rw [decide_eq_true (show (0 : Int) ≤ (k : Int) by omega), decide_eq_true (show (k : Int) ≤ (p.2.2.2.2.2.2.2.2.2.2.1 : Int) by omega)]
    simp only [Bool.and_self, cond_true, sc27]
    cases scan (g27 p.1 p.2.1 p.2.2.1 p.2.2.2.1 p.2.2.2.2.1 p.2.2.2.2.2.1 p.2.2.2.2.2.2.1 p.2.2.2.2.2.2.2.1 p.2.2.2.2.2.2.2.2.1 p.2.2.2.2.2.2.2.2.2.1 p.2.2.2.2.2.2.2.2.2.2.1 p.2.2.2.2.2.2.2.2.2.2.2.1 p.2.2.2.2.2.2.2.2.2.2.2.2.1 p.2.2.2.2.2.2.2.2.2.2.2.2.2.1 p.2.2.2.2.2.2.2.2.2.2.2.2.2.2.1 p.2.2.2.2.2.2.2.2.2.2.2.2.2.2.2.1 p.2.2.2.2.2.2.2.2.2.2.2.2.2.2.2.2.1 p.2.2.2.2.2.2.2.2.2.2.2.2.2.2.2.2.2.1 p.2.2.2.2.2.2.2.2.2.2.2.2.2.2.2.2.2.2.1 p.2.2.2.2.2.2.2.2.2.2.2.2.2.2.2.2.2.2.2.1 p.2.2.2.2.2.2.2.2.2.2.2.2.2.2.2.2.2.2.2.2.1 p.2.2.2.2.2.2.2.2.2.2.2.2.2.2.2.2.2.2.2.2.2.1 p.2.2.2.2.2.2.2.2.2.2.2.2.2.2.2.2.2.2.2.2.2.2.1 p.2.2.2.2.2.2.2.2.2.2.2.2.2.2.2.2.2.2.2.2.2.2.2.1) (p.2.2.2.2.2.2.2.2.2.2.1 - k) k with
    | none => rfl
    | some q => rfl
  · obtain ⟨t1, a1, p1, v1, m1, b1, c1, s1, n1, x1, l1, y1, t2, a2, p2, v2, m2, b2, c2, s2, n2, x2, l2, y2, z⟩ := p
    refine (loop27 t1 a1 p1 v1 m1 b1 c1 s1 n1 x1 l1 y1 t2 a2 p2 v2 m2 b2 c2 s2 n2 x2 l2 y2 z (k : Int)).trans ?_
    simp only at hk hp
    have hk' : (k : Int) < (l1 : Int) := by omega
    unfold ok27 at hp
    simp only [Bool.and_eq_true, Nat.ble_eq] at hp
    obtain ⟨he, hall⟩ := ekB_get hp.2
    obtain ⟨h1, h2⟩ := hall k hk
    unfold rnd27 g27
    rw [decide_eq_true hk', decide_eq_true (show (0 : Int) ≤ (k : Int) by omega), decide_eq_true (show (k : Int) < (l2 : Int) by omega), Int.toNat_natCast, wrapI (show -9223372036854775808 ≤ (k : Int) + 1 by omega) (by omega), h1, h2]
    rfl
  · obtain ⟨t1, a1, p1, v1, m1, b1, c1, s1, n1, x1, l1, y1, t2, a2, p2, v2, m2, b2, c2, s2, n2, x2, l2, y2, z⟩ := p
    refine (loop27 t1 a1 p1 v1 m1 b1 c1 s1 n1 x1 l1 y1 t2 a2 p2 v2 m2 b2 c2 s2 n2 x2 l2 y2 z (l1 : Int)).trans ?_
    simp only [rnd27]
    rw [decide_eq_false (by omega)]
    rfl
/-- spans that read alike -/
def esB (t1 : Int) (a1 : Int) (p1 : Int) (v1 : ByteArray) (m1 : ByteArray) (b1 : Int) (c1 : Int) (s1 : Int) (n1 : Nat) (x1 : Nat → Nat → Dt) (l1 : Nat) (y1 : Nat → Nat → Dt) (t2 : Int) (a2 : Int) (p2 : Int) (v2 : ByteArray) (m2 : ByteArray) (b2 : Int) (c2 : Int) (s2 : Int) (n2 : Nat) (x2 : Nat → Nat → Dt) (l2 : Nat) (y2 : Nat → Nat → Dt) : Bool := (t1 == t2 && (a1 == a2 && (p1 == p2 && (v1.toList == v2.toList && (m1.toList == m2.toList && (b1 == b2 && (c1 == c2 && (s1 == s2 && (Nat.ble n1 1000000 && elB n1 x1 n2 x2))))))))) && (Nat.ble l1 1000000 && ekB l1 y1 l2 y2)
theorem sx27 : (mkCx Try.prog (spOf [t15, t60]) (inlOf []) extD).Ok InvD := cx_of [] (by kernel_rfl) (by
  intro p hp
  simp only [List.mem_cons, List.not_mem_nil, or_false] at hp
  rcases hp with rfl | rfl
  · exact t15_ok
  · exact t60_ok)
def t27 : Ent := ⟨27, fun
  | [.agg [.int .i64 t1, .int .i64 a1, .int .i64 p1, .str v1, .str m1, .int .i64 b1, .int .i64 c1, .int .i64 s1, .isz n1 [.str, .str] x1, .isz l1 [.int .i64, .int .i64] y1], .agg [.int .i64 t2, .int .i64 a2, .int .i64 p2, .str v2, .str m2, .int .i64 b2, .int .i64 c2, .int .i64 s2, .isz n2 [.str, .str] x2, .isz l2 [.int .i64, .int .i64] y2]] => .chk (esB t1 a1 p1 v1 m1 b1 c1 s1 n1 x1 l1 y1 t2 a2 p2 v2 m2 b2 c2 s2 n2 x2 l2 y2) (.leaf (.ret (.bool true)))
  | _ => .non⟩
theorem vtt27 (t1 : Int) (a1 : Int) (p1 : Int) (v1 : ByteArray) (m1 : ByteArray) (b1 : Int) (c1 : Int) (s1 : Int) (n1 : Nat) (x1 : Nat → Nat → Dt) (l1 : Nat) (y1 : Nat → Nat → Dt) (t2 : Int) (a2 : Int) (p2 : Int) (v2 : ByteArray) (m2 : ByteArray) (b2 : Int) (c2 : Int) (s2 : Int) (n2 : Nat) (x2 : Nat → Nat → Dt) (l2 : Nat) (y2 : Nat → Nat → Dt) : evFn Try.prog (spOf [t15, t60]) (inlOf []) extD (cKD [t15, t60] []) (lp27) Try.f27 [.agg [.int .i64 t1, .int .i64 a1, .int .i64 p1, .str v1, .str m1, .int .i64 b1, .int .i64 c1, .int .i64 s1, .isz n1 SL x1, .isz l1 SK y1], .agg [.int .i64 t2, .int .i64 a2, .int .i64 p2, .str v2, .str m2, .int .i64 b2, .int .i64 c2, .int .i64 s2, .isz n2 SL x2, .isz l2 SK y2]] [] (fun r _ => some r) =
    (bif (l1 : Int) != (l2 : Int) then RB false else bif true && (true && (true && ok27 t1 a1 p1 v1 m1 b1 c1 s1 n1 x1 l1 y1 t2 a2 p2 v2 m2 b2 c2 s2 n2 x2 l2 y2 false)) then bif (sc27 t1 a1 p1 v1 m1 b1 c1 s1 n1 x1 l1 y1 t2 a2 p2 v2 m2 b2 c2 s2 n2 x2 l2 y2 (Int.toNat 0)).isNone then bif cpI t1 a1 t2 a2 == 0 then bif p1 == p2 then bif v1.toList == v2.toList then bif m1.toList == m2.toList then bif b1 == b2 then bif c1 == c2 then bif s1 == s2 then
  bif Nat.ble n1 1000000 && elB n1 x1 n2 x2 then RB true else none else RB false else RB false else RB false else RB false else RB false else RB false else RB false else RB false else none : Option Res) := by kernel_rfl
set_option maxRecDepth 4000 in
theorem t27_ok : SpecHolds Try.prog InvD 27 fun a => (t27.2 a).run := by
  refine specD sx27 Try.func27 (c := codeOf Try.prog 27) (by kernel_rfl) (lp27) (fun p hp => by
    have hl : loops (codeOf Try.prog 27) = [(0, bodyOf Try.prog 27 0)] := by kernel_rfl
    rw [hl, List.mem_singleton] at hp
    subst hp
    exact sum27) fun args r hh => ?_
  simp only [t27] at hh
  split at hh
  · rename_i t1 a1 p1 v1 m1 b1 c1 s1 n1 x1 l1 y1 t2 a2 p2 v2 m2 b2 c2 s2 n2 x2 l2 y2
    obtain ⟨hg, hh⟩ := chk_run hh
    refine ⟨by kernel_rfl, tr_ok (by rfl) hh, ?_⟩
    refine (vtt27 t1 a1 p1 v1 m1 b1 c1 s1 n1 x1 l1 y1 t2 a2 p2 v2 m2 b2 c2 s2 n2 x2 l2 y2).trans (Eq.trans ?_ hh)
    have hg' := hg
    unfold esB at hg'
    simp only [Bool.and_eq_true, beq_iff_eq] at hg'
    obtain ⟨⟨rfl, rfl, rfl, e4, e5, rfl, rfl, rfl, e9⟩, e10⟩ := hg'
    have hk : ok27 t1 a1 p1 v1 m1 b1 c1 s1 n1 x1 l1 y1 t1 a1 p1 v2 m2 b1 c1 s1 n2 x2 l2 y2 false = true := by unfold ok27; rw [e10.1, e10.2]; rfl
    obtain ⟨rfl, _⟩ := ekB_get e10.2
    have hs : sc27 t1 a1 p1 v1 m1 b1 c1 s1 n1 x1 l1 y1 t1 a1 p1 v2 m2 b1 c1 s1 n2 x2 l1 y2 (Int.toNat 0) = none := scan_nil _ _
    rw [hk, hs, cpI_self, e4, e5, e9.1, e9.2]
    simp only [beq_self_eq_true, bne_self_eq_false, cond_true, cond_false, Bool.and_self, Option.isNone_none, Tr.run]
  · simp [Tr.run] at hh
end Go.Proofs.Ytfgniheefiefjaa

/- Rows of spans: too great ones, and those that are the same: contracts. Conditions: none beyond the context's. -/
namespace Go.Proofs.Ytfgniheefiefjaa
open Go.Evl Go.RowKit

def gsG (x : Nat → Nat → Dt) (k : Nat) : Bool := gsB (x k 3).s (x k 4).s (x k 8).len (x k 8).el (x k 9).len
def lnB (n : Nat) (x : Nat → Nat → Dt) : Bool := (List.range n).all fun k => Nat.ble (x k 8).len 9223372036854775807
theorem lnB_get {n : Nat} {x : Nat → Nat → Dt} (h : lnB n x = true) {k : Nat} (hk : k < n) : Nat.ble (x k 8).len 9223372036854775807 = true := List.all_eq_true.1 h k (List.mem_range.2 hk)
def esG (x y : Nat → Nat → Dt) (k : Nat) : Bool := esB (x k 0).n (x k 1).n (x k 2).n (x k 3).s (x k 4).s (x k 5).n (x k 6).n (x k 7).n (x k 8).len (x k 8).el (x k 9).len (x k 9).el (y k 0).n (y k 1).n (y k 2).n (y k 3).s (y k 4).s (y k 5).n (y k 6).n (y k 7).n (y k 8).len (y k 8).el (y k 9).len (y k 9).el
/-- rows of spans that read alike -/
def erB (n : Nat) (x : Nat → Nat → Dt) (m : Nat) (y : Nat → Nat → Dt) : Bool := Nat.beq n m && (List.range n).all fun k => esG x y k
theorem erB_get {n m : Nat} {x y : Nat → Nat → Dt} (h : erB n x m y = true) : n = m ∧ ∀ k, k < n → esG x y k = true := by
  unfold erB at h
  rw [Bool.and_eq_true] at h
  exact ⟨by simpa using h.1, fun k hk => List.all_eq_true.1 h.2 k (List.mem_range.2 hk)⟩
abbrev keep16 : List Nat := [0, 2, 3]
abbrev vs16 (n : Nat) (x : Nat → Nat → Dt) (z : Bool) (i : Int) : List AV := [.isz n SS x, .bool z, .int .i64 i]
def g16 (_n : Nat) (x : Nat → Nat → Dt) (k : Nat) : Option Unit := if gsG x k = true then some () else none
def sc16 (n : Nat) (x : Nat → Nat → Dt) (k : Nat) : Option (Unit × Nat) := scan (g16 n x) (n - k) k
def ok16 (n : Nat) (x : Nat → Nat → Dt) (_z : Bool) : Bool := Nat.ble n 9223372036854775807 && lnB n x
def f16s : List AV → List Ob → Tr (Ex × List AV × List Ob)
  | [.isz n [.int .i64, .int .i64, .int .i64, .str, .str, .int .i64, .int .i64, .int .i64, .row [.str, .str], .row [.int .i64, .int .i64]] x, .bool z, .int .i64 i], [] => .chk (decide (0 ≤ i) && (decide (i ≤ (n : Int)) && (true && ok16 n x z)))
      (.node (sc16 n x i.toNat).isNone (.leaf (.exit 0, vs16 n x z (n : Int), [])) (.leaf (.ret, vs16 n x (true) (((sc16 n x i.toNat).getD ((), 0)).2 : Int), [])))
  | _, _ => .non
abbrev lp16 (_ : Nat) : LT := .sum keep16 f16s
def rnd16 (n : Nat) (x : Nat → Nat → Dt) (z : Bool) (i : Int) : Option (Ex × List AV × List Ob) :=
  bif decide (i < (n : Int)) then bif decide (0 ≤ i) && decide (i < (n : Int)) then bif Nat.ble (x i.toNat 8).len 9223372036854775807 then bif gsG x i.toNat then some (.ret, vs16 n x true i, []) else some (.normal, vs16 n x z (IntKind.i64.wrap (i + 1)), []) else none else none else some (.exit 0, vs16 n x z i, [])
theorem loop16 (n : Nat) (x : Nat → Nat → Dt) (z : Bool) (i : Int) : evC (β := Ex × List AV × List Ob) Try.prog (spOf [t10]) (inlOf []) extD (cKD [t10] []) lp16 (bodyOf Try.prog 16 0) ⟨mkF Try.f16.ntmps keep16 (vs16 n x z i), []⟩ (fun e st => (cutBack keep16 0 st).map fun q => (e, q.1, q.2)) = rnd16 n x z i := by kernel_rfl
theorem sum16 : LoopOkT Try.prog (spOf [t10]) (inlOf []) extD (cKD [t10] []) lp16 Try.f16.ntmps (bodyOf Try.prog 16 0) (.sum keep16 f16s) := by
  dsimp only [LoopOkT]
  refine ⟨by decide, by decide, ?_⟩
  refine sum_scan (Par := (Nat) × (Nat → Nat → Dt) × (Bool)) (α := Unit) (id := 0) (fun p => p.1) (fun p => ok16 p.1 p.2.1 p.2.2 = true) (fun p k => vs16 p.1 p.2.1 p.2.2 (k : Int)) (fun p => []) (fun p => g16 p.1 p.2.1) (fun p e k => vs16 p.1 p.2.1 (true) (k : Int))
    (fun vs H => match vs, H with | [.isz n [.int .i64, .int .i64, .int .i64, .str, .str, .int .i64, .int .i64, .int .i64, .row [.str, .str], .row [.int .i64, .int .i64]] x, .bool z, .int .i64 i], [] => n - i.toNat | _, _ => 0) (fun p k => rfl) (fun vs H R hR => ?_) (fun p k hp hk => ?_) (fun p k hp hk => ?_) (fun p hp => ?_)
  · unfold f16s at hR
    split at hR
    · rename_i n x z i
      obtain ⟨hc, _⟩ := chk_run hR
      simp only [Bool.and_eq_true, decide_eq_true_eq] at hc
      obtain ⟨h0, h1, hx, hok⟩ := hc
      obtain ⟨k, rfl⟩ : ∃ k : Nat, i = (k : Int) := ⟨i.toNat, by omega⟩
      clear hx
      exact ⟨(n, x, z), k, hok, by show k ≤ n; omega, rfl, rfl⟩
    · simp [Tr.run] at hR
  · show (f16s (vs16 p.1 p.2.1 p.2.2 (k : Int)) []).run = _
    simp only [f16s, Tr.run, Int.toNat_natCast, Bool.true_and, hp]
    rw [decide_eq_true (show (0 : Int) ≤ (k : Int) by omega), decide_eq_true (show (k : Int) ≤ (p.1 : Int) by omega)]
    simp only [Bool.and_self, cond_true, sc16]
    cases scan (g16 p.1 p.2.1) (p.1 - k) k with
    | none => rfl
    | some q => rfl
  · obtain ⟨n, x, z⟩ := p
    refine (loop16 n x z (k : Int)).trans ?_
    simp only at hk hp
    have hk' : (k : Int) < (n : Int) := by omega
    unfold ok16 at hp
    simp only [Bool.and_eq_true, Nat.ble_eq] at hp
    unfold rnd16 g16
    rw [decide_eq_true hk', decide_eq_true (show (0 : Int) ≤ (k : Int) by omega), Int.toNat_natCast, wrapI (show -9223372036854775808 ≤ (k : Int) + 1 by omega) (by omega), lnB_get hp.2 hk]
    by_cases c1 : gsG x k = true
    · rw [c1, if_pos rfl]; rfl
    · rw [bnx c1, if_neg (by simp)]; rfl
  · obtain ⟨n, x, z⟩ := p
    refine (loop16 n x z (n : Int)).trans ?_
    simp only [rnd16]
    rw [decide_eq_false (by omega)]
    rfl
abbrev keep32 : List Nat := [0, 1, 4, 5]
abbrev vs32 (n : Nat) (x : Nat → Nat → Dt) (m : Nat) (y : Nat → Nat → Dt) (z : Bool) (i : Int) : List AV := [.isz n SS x, .isz m SS y, .bool z, .int .i64 i]
def g32 (n : Nat) (x : Nat → Nat → Dt) (m : Nat) (y : Nat → Nat → Dt) (k : Nat) : Option Unit := (fun (_ : Nat) (_ : Nat → Nat → Dt) (_ : Nat) (_ : Nat → Nat → Dt) (_ : Nat) => (none : Option Unit)) n x m y k
def sc32 (n : Nat) (x : Nat → Nat → Dt) (m : Nat) (y : Nat → Nat → Dt) (k : Nat) : Option (Unit × Nat) := scan (g32 n x m y) (n - k) k
def ok32 (n : Nat) (x : Nat → Nat → Dt) (m : Nat) (y : Nat → Nat → Dt) (_z : Bool) : Bool := Nat.ble n 1000000 && erB n x m y
def f32s : List AV → List Ob → Tr (Ex × List AV × List Ob)
  | [.isz n [.int .i64, .int .i64, .int .i64, .str, .str, .int .i64, .int .i64, .int .i64, .row [.str, .str], .row [.int .i64, .int .i64]] x, .isz m [.int .i64, .int .i64, .int .i64, .str, .str, .int .i64, .int .i64, .int .i64, .row [.str, .str], .row [.int .i64, .int .i64]] y, .bool z, .int .i64 i], [] => .chk (decide (0 ≤ i) && (decide (i ≤ (n : Int)) && (true && ok32 n x m y z)))
      (.node (sc32 n x m y i.toNat).isNone (.leaf (.exit 0, vs32 n x m y z (n : Int), [])) (.leaf (.ret, vs32 n x m y (false) (((sc32 n x m y i.toNat).getD ((), 0)).2 : Int), [])))
  | _, _ => .non
abbrev lp32 (_ : Nat) : LT := .sum keep32 f32s
def rnd32 (n : Nat) (x : Nat → Nat → Dt) (m : Nat) (y : Nat → Nat → Dt) (z : Bool) (i : Int) : Option (Ex × List AV × List Ob) :=
  bif decide (i < (n : Int)) then bif decide (0 ≤ i) && decide (i < (n : Int)) then bif decide (0 ≤ i) && decide (i < (m : Int)) then bif esG x y i.toNat then some (.normal, vs32 n x m y z (IntKind.i64.wrap (i + 1)), []) else none else none else none else some (.exit 0, vs32 n x m y z i, [])
theorem loop32 (n : Nat) (x : Nat → Nat → Dt) (m : Nat) (y : Nat → Nat → Dt) (z : Bool) (i : Int) : evC (β := Ex × List AV × List Ob) Try.prog (spOf [t27]) (inlOf []) extD (cKD [t27] []) lp32 (bodyOf Try.prog 32 0) ⟨mkF Try.f32.ntmps keep32 (vs32 n x m y z i), []⟩ (fun e st => (cutBack keep32 0 st).map fun q => (e, q.1, q.2)) = rnd32 n x m y z i := by kernel_rfl
theorem sum32 : LoopOkT Try.prog (spOf [t27]) (inlOf []) extD (cKD [t27] []) lp32 Try.f32.ntmps (bodyOf Try.prog 32 0) (.sum keep32 f32s) := by
  dsimp only [LoopOkT]
  refine ⟨by decide, by decide, ?_⟩
  refine sum_scan (Par := (Nat) × (Nat → Nat → Dt) × (Nat) × (Nat → Nat → Dt) × (Bool)) (α := Unit) (id := 0) (fun p => p.1) (fun p => ok32 p.1 p.2.1 p.2.2.1 p.2.2.2.1 p.2.2.2.2 = true) (fun p k => vs32 p.1 p.2.1 p.2.2.1 p.2.2.2.1 p.2.2.2.2 (k : Int)) (fun p => []) (fun p => g32 p.1 p.2.1 p.2.2.1 p.2.2.2.1) (fun p e k => vs32 p.1 p.2.1 p.2.2.1 p.2.2.2.1 (false) (k : Int))
    (fun vs H => match vs, H with | [.isz n [.int .i64, .int .i64, .int .i64, .str, .str, .int .i64, .int .i64, .int .i64, .row [.str, .str], .row [.int .i64, .int .i64]] x, .isz m [.int .i64, .int .i64, .int .i64, .str, .str, .int .i64, .int .i64, .int .i64, .row [.str, .str], .row [.int .i64, .int .i64]] y, .bool z, .int .i64 i], [] => n - i.toNat | _, _ => 0) (fun p k => rfl) (fun vs H R hR => ?_) (fun p k hp hk => ?_) (fun p k hp hk => ?_) (fun p hp => ?_)
  · unfold f32s at hR
    split at hR
    · rename_i n x m y z i
      obtain ⟨hc, _⟩ := chk_run hR
      simp only [Bool.and_eq_true, decide_eq_true_eq] at hc
      obtain ⟨h0, h1, hx, hok⟩ := hc
      obtain ⟨k, rfl⟩ : ∃ k : Nat, i = (k : Int) := ⟨i.toNat, by omega⟩
      clear hx
      exact ⟨(n, x, m, y, z), k, hok, by show k ≤ n; omega, rfl, rfl⟩
    · simp [Tr.run] at hR
  · show (f32s (vs32 p.1 p.2.1 p.2.2.1 p.2.2.2.1 p.2.2.2.2 (k : Int)) []).run = _
    simp only [f32s, Tr.run, Int.toNat_natCast, Bool.true_and, hp]
    rw [decide_eq_true (show (0 : Int) ≤ (k : Int) by omega), decide_eq_true (show (k : Int) ≤ (p.1 : Int) by omega)]
    simp only [Bool.and_self, cond_true, sc32]
    cases scan (g32 p.1 p.2.1 p.2.2.1 p.2.2.2.1) (p.1 - k) k with
    | none => rfl
    | some q => rfl
  · obtain ⟨n, x, m, y, z⟩ := p
    refine (loop32 n x m y z (k : Int)).trans ?_
    simp only at hk hp
    have hk' : (k : Int) < (n : Int) := by omega
    unfold ok32 at hp
    simp only [Bool.and_eq_true, Nat.ble_eq] at hp
    obtain ⟨he, hall⟩ := erB_get hp.2
    unfold rnd32 g32
    rw [decide_eq_true hk', decide_eq_true (show (0 : Int) ≤ (k : Int) by omega), decide_eq_true (show (k : Int) < (m : Int) by omega), Int.toNat_natCast, wrapI (show -9223372036854775808 ≤ (k : Int) + 1 by omega) (by omega), hall k hk]
    rfl
  · obtain ⟨n, x, m, y, z⟩ := p
    refine (loop32 n x m y z (n : Int)).trans ?_
    simp only [rnd32]
    rw [decide_eq_false (by omega)]
    rfl
theorem sx16 : (mkCx Try.prog (spOf [t10]) (inlOf []) extD).Ok InvD := cx_of [] (by kernel_rfl) (by
  intro p hp
  simp only [List.mem_cons, List.not_mem_nil, or_false] at hp
  rcases hp with rfl
  · exact t10_ok)
theorem sx32 : (mkCx Try.prog (spOf [t27]) (inlOf []) extD).Ok InvD := cx_of [] (by kernel_rfl) (by
  intro p hp
  simp only [List.mem_cons, List.not_mem_nil, or_false] at hp
  rcases hp with rfl
  · exact t27_ok)
/-- are spans too many or too great? -/
def glB (n : Nat) (x : Nat → Nat → Dt) : Bool := !(sc16 n x 0).isNone || decide ((n : Int) > 12)
def t16 : Ent := ⟨16, fun
  | [.isz n [.int .i64, .int .i64, .int .i64, .str, .str, .int .i64, .int .i64, .int .i64, .row [.str, .str], .row [.int .i64, .int .i64]] x] => .chk (Nat.ble n 9223372036854775807 && lnB n x) (.leaf (.ret (.bool (glB n x))))
  | _ => .non⟩
theorem vtt16 (n : Nat) (x : Nat → Nat → Dt) : evFn Try.prog (spOf [t10]) (inlOf []) extD (cKD [t10] []) (lp16) Try.f16 [.isz n SS x] [] (fun r _ => some r) =
    (bif true && (true && (true && ok16 n x false)) then bif (sc16 n x (Int.toNat 0)).isNone then bif decide ((n : Int) > 12) then RB true else RB false else RB true else none : Option Res) := by kernel_rfl
set_option maxRecDepth 4000 in
theorem t16_ok : SpecHolds Try.prog InvD 16 fun a => (t16.2 a).run := by
  refine specD sx16 Try.func16 (c := codeOf Try.prog 16) (by kernel_rfl) (lp16) (fun p hp => by
    have hl : loops (codeOf Try.prog 16) = [(0, bodyOf Try.prog 16 0)] := by kernel_rfl
    rw [hl, List.mem_singleton] at hp
    subst hp
    exact sum16) fun args r hh => ?_
  simp only [t16] at hh
  split at hh
  · rename_i n x
    obtain ⟨hg, hh⟩ := chk_run hh
    refine ⟨by kernel_rfl, tr_ok (by rfl) hh, ?_⟩
    refine (vtt16 n x).trans (Eq.trans ?_ hh)
    have hk : ok16 n x false = true := hg
    rw [hk]
    simp only [Tr.run, glB, Int.toNat_zero, Bool.and_self, cond_true]
    cases (sc16 n x 0).isNone <;> cases decide ((n : Int) > 12) <;> rfl
  · simp [Tr.run] at hh
def t32 : Ent := ⟨32, fun
  | [.isz n [.int .i64, .int .i64, .int .i64, .str, .str, .int .i64, .int .i64, .int .i64, .row [.str, .str], .row [.int .i64, .int .i64]] x, .isz m [.int .i64, .int .i64, .int .i64, .str, .str, .int .i64, .int .i64, .int .i64, .row [.str, .str], .row [.int .i64, .int .i64]] y] => .chk (Nat.ble n 1000000 && erB n x m y) (.leaf (.ret (.bool true)))
  | _ => .non⟩
theorem vtt32 (n : Nat) (x : Nat → Nat → Dt) (m : Nat) (y : Nat → Nat → Dt) : evFn Try.prog (spOf [t27]) (inlOf []) extD (cKD [t27] []) (lp32) Try.f32 [.isz n SS x, .isz m SS y] [] (fun r _ => some r) =
    (bif (n : Int) != (m : Int) then RB false else bif true && (true && (true && ok32 n x m y false)) then bif (sc32 n x m y (Int.toNat 0)).isNone then RB true else RB false else none : Option Res) := by kernel_rfl
set_option maxRecDepth 4000 in
theorem t32_ok : SpecHolds Try.prog InvD 32 fun a => (t32.2 a).run := by
  refine specD sx32 Try.func32 (c := codeOf Try.prog 32) (by kernel_rfl) (lp32) (fun p hp => by
    have hl : loops (codeOf Try.prog 32) = [(0, bodyOf Try.prog 32 0)] := by kernel_rfl
    rw [hl, List.mem_singleton] at hp
    subst hp
    exact sum32) fun args r hh => ?_
  simp only [t32] at hh
  split at hh
  · rename_i n x m y
    obtain ⟨hg, hh⟩ := chk_run hh
    refine ⟨by kernel_rfl, tr_ok (by rfl) hh, ?_⟩
    refine (vtt32 n x m y).trans (Eq.trans ?_ hh)
    have hk : ok32 n x m y false = true := hg
    rw [Bool.and_eq_true] at hg
    obtain ⟨rfl, _⟩ := erB_get hg.2
    have hs : sc32 n x n y (Int.toNat 0) = none := scan_nil _ _
    rw [hk, hs, bne_self_eq_false]
    rfl
  · simp [Tr.run] at hh
end Go.Proofs.Ytfgniheefiefjaa
