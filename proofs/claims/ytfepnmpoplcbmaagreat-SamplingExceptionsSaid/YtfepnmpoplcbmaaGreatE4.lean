/- The tree's entries: their parents' places, the open path, the order of siblings. Plain laws; no condition. -/
import Derived.Test.YtfepnmpoplcbmaaGreatE3
namespace Go.Proofs.YtfepnmpoplcbmaaGreat.T
open Go.Evl Go.RowKit
theorem frsD {l : List Ent} {il : List FuncId} (hl : (mkCx Tryz.prog (spOf l) (inlOf il) extD).Ok InvD) {f : FuncId} {fn : Func} (hfn : Tryz.prog.funcs[f]? = some fn) {c : Code} (hb : fn.body = some c) (lp : Nat → LT)
    (hlp : ∀ p ∈ loops c, LoopOkT Tryz.prog (spOf l) (inlOf il) extD (cKD l il) lp fn.ntmps p.2 (lp p.1)) {args : List AV} {v : AV} {obs : List Ob}
    (h1 : Nat.ble args.length fn.ntmps = true) (h3 : evFn (β := Res × List Ob) Tryz.prog (spOf l) (inlOf il) extD (cKD l il) lp fn args [] (fun r H => some (r, H)) = some (.ret v, obs)) : FrsAt Tryz.prog InvD f args v obs :=
  frsAt_of_ev Tryz.prog (spOf l) (inlOf il) extD (cKD l il) (fun {β} => callK_eq (β := β) Tryz.prog (spOf l) (inlOf il) extD attD uD 20) hl stableD mixedD (callN_sound attD_ok hl stableD mixedD 20) hfn hb lp hlp h1 h3
theorem vt33a (cap : Nat) : evFn (β := Res × List Ob) Tryz.prog (spOf []) (inlOf []) extD (cKD [] []) (fun _ => .unroll 0) Tryz.f22 [.raw (.slice none 0 cap)] [] (fun r H => some (r, H)) = some (.ret .nsl, []) := by kernel_rfl
theorem vt33b (a : Addr) (cap : Nat) : evFn (β := Res × List Ob) Tryz.prog (spOf []) (inlOf []) extD (cKD [] []) (fun _ => .unroll 0) Tryz.f22 [.raw (.slice (some a) 0 cap)] [] (fun r H => some (r, H)) = some (.ret (.own 0 k0 0), [.own 44 SS 0 (appEl zeroEl 0 fun _ _ => .int 0)]) := by kernel_rfl
theorem vt33c (n : Nat) (x : Nat → Nat → Dt) : evFn (β := Res × List Ob) Tryz.prog (spOf []) (inlOf []) extD (cKD [] []) (fun _ => .unroll 0) Tryz.f22 [.isz n SS x] [] (fun r H => some (r, H)) =
    (bif Nat.blt 0 n then bif Nat.ble n 1000000 then some (.ret (.own 0 k0 (0 + n)), [.own 44 SS (0 + n) x]) else none else none) := by kernel_rfl
theorem fr33 (n : Nat) (x : Nat → Nat → Dt) (hn : n ≤ 1000000) : FrsAt Tryz.prog InvD 22 [.isz n SS x] (.own 0 k0 n) [.own 44 SS n x] := by
  refine frs_clone (fun cap => frsD cx0 Tryz.func22 (c := codeOf Tryz.prog 22) (by kernel_rfl) (fun _ => .unroll 0) (fun _ _ => trivial) (by kernel_rfl) (vt33a cap)) (fun a cap => ?_) (fun n x h0 h1 => ?_) n x hn
  · have := frsD cx0 Tryz.func22 (c := codeOf Tryz.prog 22) (by kernel_rfl) (fun _ => .unroll 0) (fun _ _ => trivial) (by kernel_rfl) (vt33b a cap)
    intro ρ A w vs hA hi hv
    refine (this ρ A w vs hA hi hv).mono ?_
    rintro e w' ⟨ρ', A', u, h1, h2, h3, rfl, h4⟩
    refine ⟨ρ', A', u, own_zero h1, h2, h3, rfl, h4.mono (fun i ⟨o, ho, _⟩ => ?_) (Nle.refl _ _) (fun _ h => h) (fun _ _ => rfl)⟩
    cases i with
    | zero => exact ⟨.own 44 SS 0 zeroEl, rfl, rfl⟩
    | succ i => simp at ho
  · refine frsD cx0 Tryz.func22 (c := codeOf Tryz.prog 22) (by kernel_rfl) (fun _ => .unroll 0) (fun _ _ => trivial) (by kernel_rfl) ((vt33c n x).trans ?_)
    rw [show Nat.blt 0 n = true by rw [Nat.blt_eq]; exact h0, Nat.ble_eq_true_of_le h1, Nat.zero_add]
    rfl
def h33 : HEnt := ⟨22, fun
  | [.isz n [.int .i64, .int .i64, .int .i64, .str, .str, .int .i64, .int .i64, .int .i64, .row [.str, .str], .row [.int .i64, .int .i64]] x] => .chk (Nat.ble n 1000000) (.leaf (.own 0 k0 n, [.own 44 SS n x]))
  | _ => .non⟩
set_option maxRecDepth 20000 in
theorem h33_ok : FrsHolds Tryz.prog InvD 22 fun a => (h33.2 a).run := by
  intro args v obs h
  unfold h33 at h
  simp only at h
  split at h
  · rename_i n x
    simp only [Tr.run] at h
    cases hn : Nat.ble n 1000000 with
    | false => rw [hn] at h; cases h
    | true =>
      rw [hn] at h
      obtain ⟨rfl, rfl⟩ := h
      exact fr33 n x (by simpa using hn)
  · cases h
open Go.Evl Go.RowKit
noncomputable abbrev cS4 {β : Type} : CallK β := callHK cS3 [h33]
noncomputable abbrev cfS0 : CallF := callN (mkCx Tryz.prog spS inS extD) attD uD 20
noncomputable abbrev cfS1 : CallF := callLN (mkCx Tryz.prog spS inS extD) cfS0 [(156, lpJ)]
noncomputable abbrev cfS2 : CallF := callLN (mkCx Tryz.prog spS inS extD) cfS1 [(132, fun _ => .unroll 3)]
noncomputable abbrev cfS3 : CallF := callLN (mkCx Tryz.prog spS inS extD) cfS2 [(89, fun _ => .unroll 3)]
noncomputable abbrev cfS4 : CallF := callHN cfS3 [h33]
theorem cS4_eq {β : Type} : CallEq (β := β) cS4 cfS4 := callHK_eq (callLK_eq _ _ _ _ (callLK_eq _ _ _ _ (callLK_eq _ _ _ _ (callK_eq Tryz.prog spS inS extD attD uD 20) _) _) _) _
set_option maxRecDepth 20000 in
theorem sndS3 : CallSound Tryz.prog InvD cfS3 := callLN_sound sxS stableD mixedD sndS2 lps_unroll
set_option maxRecDepth 20000 in
theorem sndS4 : CallSound Tryz.prog InvD cfS4 := callHN_sound sndS3 stableD fun f s hf => by
  simp only [List.mem_singleton] at hf
  obtain ⟨rfl, rfl⟩ := hf
  exact h33_ok
open Go.Evl Go.RowKit
def gD (y : Nat → Nat → Dt) (k : Nat) : Option Unit := if cpI (y (k - 1) 0).n (y (k - 1) 1).n (y k 0).n (y k 1).n = 0 then some () else none
structure S53 where
  n : Nat
  el : Nat → Nat → Dt
  m : Nat
  i : Int
abbrev keep53 : List Nat := [0, 2, 3, 4]
abbrev vs53 (s : S53) : List AV := [.own 0 k0 s.m, .nsl, .bool false, .int .i64 s.i]
abbrev hp53 (s : S53) : List Ob := [.own 44 SS s.n s.el]
def dec53 : List AV → List Ob → Option S53
  | [.own 0 (.int 0) m, .nsl, .bool false, .int .i64 i], [.own 44 [.int .i64, .int .i64, .int .i64, .str, .str, .int .i64, .int .i64, .int .i64, .row [.str, .str], .row [.int .i64, .int .i64]] n el] => some ⟨n, el, m, i⟩
  | _, _ => none
def dom53 (s : S53) : Bool := Nat.beq s.m s.n && (decide (1 ≤ s.i) && Nat.ble s.n 1000)
def fin53 (s : S53) : Tr (Ex × List AV × List Ob) := .node (scan (gD s.el) (s.n - s.i.toNat) s.i.toNat).isNone (.leaf (.exit 0, [.own 0 k0 s.n, .nsl, .bool false, .int .i64 ((max s.i.toNat s.n : Nat) : Int)], [.own 44 SS s.n s.el])) (.leaf (.ret, [.own 0 k0 s.n, .nsl, .bool false, .int .i64 (((scan (gD s.el) (s.n - s.i.toNat) s.i.toNat).getD ((), 0)).2 : Int)], [.own 44 SS s.n s.el]))
abbrev lp53 (_ : Nat) : LT := .sum keep53 (stF dec53 dom53 fin53)
def rnd53 (n : Nat) (el : Nat → Nat → Dt) (i : Int) : Option (Ex × List AV × List Ob) := bif n.beq n then bif decide (i < ↑n) then bif decide (0 ≤ IntKind.i64.wrap (i - 1)) && decide (IntKind.i64.wrap (i - 1) < ↑n) then bif n.beq n then bif n.beq n && (IntKind.i64.wrap (i - 1)).toNat.blt n then bif decide (0 ≤ i) && decide (i < ↑n) then bif n.beq n then bif n.beq n && i.toNat.blt n then bif cpI (el (IntKind.i64.wrap (i - 1)).toNat 0).n (el (IntKind.i64.wrap (i - 1)).toNat 1).n (el i.toNat 0).n (el i.toNat 1).n == 0 then some (.ret, [.own 0 k0 n, .nsl, .bool false, .int .i64 i], [.own 44 SS n el]) else some (.normal, [.own 0 k0 n, .nsl, .bool false, .int .i64 (IntKind.i64.wrap (i + 1))], [.own 44 SS n el]) else none else none else none else none else none else none else some (.exit 0, [.own 0 k0 n, .nsl, .bool false, .int .i64 i], [.own 44 SS n el]) else none
theorem loop53 (n : Nat) (el : Nat → Nat → Dt) (i : Int) : evC (β := Ex × List AV × List Ob) Tryz.prog spS inS extD cS4 lp53 (bodyOf Tryz.prog 45 0) ⟨mkF Tryz.f45.ntmps keep53 [.own 0 k0 n, .nsl, .bool false, .int .i64 i], [.own 44 SS n el]⟩ (fun e st => (cutBack keep53 1 st).map fun q => (e, q.1, q.2)) = rnd53 n el i := by kernel_rfl
set_option maxRecDepth 20000 in
theorem sum53 : LoopOkT Tryz.prog spS inS extD cS4 lp53 Tryz.f45.ntmps (bodyOf Tryz.prog 45 0) (.sum keep53 (stF dec53 dom53 fin53)) := by
  dsimp only [LoopOkT]
  refine ⟨by decide, by decide, ?_⟩
  refine sum_st dec53 dom53 fin53 vs53 hp53 (fun s => s.n - s.i.toNat) (fun vs H s hs => ?_) (fun s R hd hR => ?_)
  · unfold dec53 at hs
    split at hs
    · obtain rfl := Option.some.inj hs
      exact ⟨rfl, rfl⟩
    · cases hs
  · obtain ⟨n, el, m, i⟩ := s
    simp only [dom53, Bool.and_eq_true, decide_eq_true_eq, Nat.ble_eq, Nat.beq_eq] at hd
    obtain ⟨rfl, h1, h2⟩ := hd
    obtain ⟨i, rfl⟩ : ∃ k : Nat, i = (k : Int) := ⟨i.toNat, by omega⟩
    simp only [fin53, Int.toNat_natCast] at hR
    have ht := loop53 m el (i : Int)
    unfold rnd53 at ht
    by_cases hi : i < m
    · have w1 : IntKind.i64.wrap ((i : Int) - 1) = ((i - 1 : Nat) : Int) := by rw [wrapI (by omega) (by omega)]; omega
      have w2 : IntKind.i64.wrap ((i : Int) + 1) = ((i + 1 : Nat) : Int) := by rw [wrapI (by omega) (by omega)]; omega
      rw [w1, w2, Int.toNat_natCast, Int.toNat_natCast, condT (Nat.beq_refl m), condT (decide_eq_true (by omega)), condT (by simp only [Bool.and_eq_true, decide_eq_true_eq]; omega), condT (Nat.beq_refl m), condT (by simp only [Nat.beq_refl, Bool.true_and, Nat.blt_eq]; omega),
        condT (by simp only [Bool.and_eq_true, decide_eq_true_eq]; omega), condT (Nat.beq_refl m), condT (by simp only [Nat.beq_refl, Bool.true_and, Nat.blt_eq]; omega)] at ht
      obtain ⟨q, hq⟩ : ∃ q, m - i = q + 1 := ⟨m - i - 1, by omega⟩
      by_cases hc : cpI (el (i - 1) 0).n (el (i - 1) 1).n (el i 0).n (el i 1).n = 0
      · rw [condT (by simpa using hc)] at ht
        refine .inr ⟨?_, ht.trans ?_⟩
        · simp only [hq, scan, gD, hc, if_true, Option.isNone_some, Tr.run, cond_false, Option.some.injEq] at hR
          rw [← hR]; simp
        · simp only [hq, scan, gD, hc, if_true, Option.isNone_some, Tr.run, cond_false, Option.getD_some] at hR
          exact hR
      · rw [condF (by simpa using hc)] at ht
        refine .inl ⟨⟨m, el, m, ((i + 1 : Nat) : Int)⟩, ht, rfl, ?_, ?_, ?_⟩
        · simp only [dom53, Bool.and_eq_true, decide_eq_true_eq, Nat.ble_eq, Nat.beq_eq]; exact ⟨trivial, by omega, h2⟩
        · rw [← hR]
          simp only [fin53, Int.toNat_natCast, hq, scan, gD, hc, if_false, show m - (i + 1) = q by omega, show max (i + 1) m = max i m by omega]
        · simp only; omega
    · rw [condT (Nat.beq_refl m), condF (decide_eq_false (by omega))] at ht
      refine .inr ?_
      simp only [show m - i = 0 by omega, scan, Option.isNone_none, Tr.run, cond_true, Option.some.injEq, show max i m = i by omega] at hR
      subst hR
      exact ⟨by simp, ht⟩
open Go.Evl Go.RowKit
theorem scan_none {α : Type} {g : Nat → Option α} : ∀ {k i : Nat}, scan g k i = none → ∀ j, i ≤ j → j < i + k → g j = none
  | 0, i, _, j, h1, h2 => by omega
  | k + 1, i, h, j, h1, h2 => by
    simp only [scan] at h
    cases hg : g i with
    | some e => rw [hg] at h; cases h
    | none =>
      rw [hg] at h
      by_cases e : j = i
      · subst e; exact hg
      · exact scan_none h j (by omega) (by omega)
theorem gr_sm {n : Nat} {x : Nat → Nat → Dt} (h : grB n x = false) : smB n x = true := by
  unfold grB at h
  rw [Bool.or_eq_false_iff] at h
  have h1 : sc35 n x 0 = none := by
    have := h.1
    cases hs : sc35 n x 0 with
    | none => rfl
    | some q => rw [hs] at this; simp at this
  refine List.all_eq_true.2 fun k hk => ?_
  have hk' : k < n := List.mem_range.1 hk
  have h2 := scan_none (k := n - 0) (i := 0) h1 k (Nat.zero_le _) (by omega)
  unfold g35 at h2
  split at h2
  · cases h2
  · rename_i h3
    simp only [not_or] at h3
    exact Nat.ble_eq_true_of_le (by omega)
theorem gs_sm {v m : ByteArray} {n : Nat} {x : Nat → Nat → Dt} {k : Nat} (h : gsB v m n x k = false) : smB n x = true := by
  unfold gsB at h
  simp only [Bool.or_eq_false_iff] at h
  exact gr_sm h.2.2.2
open Go.Evl Go.RowKit
theorem vt53 (n : Nat) (x : Nat → Nat → Dt) : (evFnT Tryz.prog spS inS extD cS4 lp53 Tryz.f45 [.isz n SS x] [] (castT (.tup [.row SS, .any]))).run =
    (bif n.ble 1000000 then bif n.beq n then bif true && decide (IntKind.u64.wrap (n : Int) < 13) then bif decide (IntKind.i64.wrap ((n : Int) - 0) ≤ 12) then bif true && (true && (n.beq n && (decide ((n : Int) = (n : Int)) && (true && (decide (IntKind.i64.wrap 1 ≤ (n : Int) + 1) && n.ble 1000))))) then bif n.beq n && (true && n.ble 1000) then
      bif (scan (gD (isF (n - (IntKind.i64.wrap 1).toNat) (IntKind.i64.wrap 1).toNat x)) (n - (1 : Int).toNat) (1 : Int).toNat).isNone then bif n.beq n && true then some (.ret (.tup [.isz n SS (isF (n - (IntKind.i64.wrap 1).toNat) (IntKind.i64.wrap 1).toNat x), .bool true])) else none else some (.ret (.tup [.isz 0 SS fun _ _ => .int 0, .bool false])) else none else none
      else bif lnI (IntKind.u64.wrap (n : Int)) == 0 then none else none else none else none else none : Option Res) := by kernel_rfl
def dfB (n : Nat) (y : Nat → Nat → Dt) : Bool := (scan (gD y) (n - 1) 1).isNone
def t53 : Ent := ⟨45, fun
  | [.isz n [.int .i64, .int .i64, .int .i64, .str, .str, .int .i64, .int .i64, .int .i64, .row [.str, .str], .row [.int .i64, .int .i64]] x] => .chk (Nat.ble n 12) (.node (dfB n (soF n x)) (.leaf (.ret (.tup [.isz n SS (soF n x), .bool true]))) (.leaf (.ret (.tup [.isz 0 SS fun _ _ => .int 0, .bool false]))))
  | _ => .non⟩
set_option maxRecDepth 10000 in
theorem t53_ok : SpecHolds Tryz.prog InvD 45 fun a => (t53.2 a).run := by
  refine spec_of_evC Tryz.prog spS inS extD cS4 (fun {β} => cS4_eq (β := β)) sxS stableD mixedD sndS4 Tryz.func45 (c := codeOf Tryz.prog 45) (by kernel_rfl) lp53 (fun p hp => by
    have hl : loops (codeOf Tryz.prog 45) = [(0, bodyOf Tryz.prog 45 0)] := by kernel_rfl
    rw [hl, List.mem_singleton] at hp
    subst hp
    exact sum53) (.tup [.row SS, .any]) fun args r hh => ?_
  simp only [t53] at hh
  split at hh
  · rename_i n x
    obtain ⟨hg, hh⟩ := chk_run hh
    rw [Nat.ble_eq] at hg
    refine ⟨by kernel_rfl, (vt53 n x).trans ?_⟩
    have w1 : IntKind.i64.wrap 1 = 1 := by rw [wrapI (by omega) (by omega)]
    have w2 : IntKind.i64.wrap ((n : Int) - 0) = (n : Int) := by rw [wrapI (by omega) (by omega)]; omega
    have w3 : IntKind.u64.wrap (n : Int) = (n : Int) := by show (n : Int) % 18446744073709551616 = (n : Int); omega
    rw [w1, w2, w3, condT (Nat.ble_eq_true_of_le (by omega)), condT (Nat.beq_refl n), condT (by simp only [Bool.true_and, decide_eq_true_eq]; omega), condT (by simp only [decide_eq_true_eq]; omega),
      condT (by simp only [Bool.true_and, Nat.beq_refl, Bool.and_eq_true, decide_eq_true_eq, Nat.ble_eq, true_and]; omega), condT (by simp only [Bool.true_and, Nat.beq_refl, Nat.ble_eq]; omega), Nat.beq_refl]
    exact hh
  · simp [Tr.run] at hh
theorem dfB_iff (n : Nat) (x : Nat → Nat → Dt) : dfB n (soF n x) = true ↔ dsL n x := by
  rw [← dsL_perm (soF_ok n x).2, ← strict_of (soF_ok n x).1]
  unfold dfB
  constructor
  · intro h i h1 hi
    have := scan_none (g := gD (soF n x)) (k := n - 1) (i := 1) (by simpa using h) i h1 (by omega)
    unfold gD at this
    split at this
    · cases this
    · assumption
  · intro h
    have : scan (gD (soF n x)) (n - 1) 1 = none := by
      have hs : ∀ k i, 1 ≤ i → i + k ≤ n → scan (gD (soF n x)) k i = none := by
        intro k
        induction k with
        | zero => intro i _ _; rfl
        | succ k ih =>
          intro i h1 hi
          simp only [scan, gD]
          rw [if_neg (h i h1 (by omega))]
          exact ih (i + 1) (by omega) (by omega)
      rcases Nat.eq_zero_or_pos n with h0 | h0
      · subst h0; rfl
      · exact hs (n - 1) 1 (by omega) (by omega)
    rw [this]; rfl
open Go.Evl Go.RowKit
def skF (y x : Nat → Nat → Dt) (i : Nat) : Nat → Nat → Nat
  | 0, k => k
  | f + 1, k => if cpI (y k 0).n (y k 1).n (x i 0).n (x i 1).n < 0 then skF y x i f (k + 1) else k
def insR (y : Nat → Nat → Dt) (k : Nat) (e : Nat → Dt) : Nat → Nat → Dt := appEl (appEl (appEl zeroEl 0 fun i => y (i + Int.toNat 0)) (0 + (k - Int.toNat 0)) (dtFs [nmE e])) (0 + (k - Int.toNat 0) + 1) fun i => y (i + k)
def rsF (x : Nat → Nat → Dt) : Nat → Nat → (Nat → Nat → Dt) → Bool × Nat × (Nat → Nat → Dt)
  | 0, i, y => (true, i, y)
  | f + 1, i, y => if skF y x i i 0 < i ∧ cpI (y (skF y x i i 0) 0).n (y (skF y x i i 0) 1).n (x i 0).n (x i 1).n = 0 then (false, i, y) else rsF x f (i + 1) (insR y (skF y x i i 0) (x i))
structure S62i where
  n : Nat
  x : Nat → Nat → Dt
  m : Nat
  y : Nat → Nat → Dt
  i : Int
  k : Int
  e0 : Nat → Nat → Dt
abbrev keep62i : List Nat := [0, 2, 3, 4, 5, 6]
abbrev vs62i (s : S62i) : List AV := [.isz s.n SS s.x, .nsl, .bool false, .isz s.m SS s.y, .int .i64 s.i, .int .i64 s.k]
abbrev hp62i (s : S62i) : List Ob := [.frz 44 SS 0 s.e0]
def dec62i : List AV → List Ob → Option S62i
  | [.isz n [.int .i64, .int .i64, .int .i64, .str, .str, .int .i64, .int .i64, .int .i64, .row [.str, .str], .row [.int .i64, .int .i64]] x, .nsl, .bool false, .isz m [.int .i64, .int .i64, .int .i64, .str, .str, .int .i64, .int .i64, .int .i64, .row [.str, .str], .row [.int .i64, .int .i64]] y, .int .i64 i, .int .i64 k], [.frz 44 [.int .i64, .int .i64, .int .i64, .str, .str, .int .i64, .int .i64, .int .i64, .row [.str, .str], .row [.int .i64, .int .i64]] 0 e0] => some ⟨n, x, m, y, i, k, e0⟩
  | _, _ => none
def dom62i (s : S62i) : Bool := decide (0 ≤ s.i) && (decide (s.i < (s.n : Int)) && (decide (0 ≤ s.k) && (decide (s.k ≤ (s.m : Int)) && Nat.ble s.m 1000)))
def fin62i (s : S62i) : Tr (Ex × List AV × List Ob) := .leaf (.exit 2, [.isz s.n SS s.x, .nsl, .bool false, .isz s.m SS s.y, .int .i64 s.i, .int .i64 ((skF s.y s.x s.i.toNat (s.m - s.k.toNat) s.k.toNat : Nat) : Int)], hp62i s)
structure S62 where
  n : Nat
  x : Nat → Nat → Dt
  m : Nat
  y : Nat → Nat → Dt
  i : Int
  e0 : Nat → Nat → Dt
abbrev keep62 : List Nat := [0, 2, 3, 4, 5]
abbrev vs62 (s : S62) : List AV := [.isz s.n SS s.x, .nsl, .bool false, .isz s.m SS s.y, .int .i64 s.i]
abbrev hp62 (s : S62) : List Ob := [.frz 44 SS 0 s.e0]
def dec62 : List AV → List Ob → Option S62
  | [.isz n [.int .i64, .int .i64, .int .i64, .str, .str, .int .i64, .int .i64, .int .i64, .row [.str, .str], .row [.int .i64, .int .i64]] x, .nsl, .bool false, .isz m [.int .i64, .int .i64, .int .i64, .str, .str, .int .i64, .int .i64, .int .i64, .row [.str, .str], .row [.int .i64, .int .i64]] y, .int .i64 i], [.frz 44 [.int .i64, .int .i64, .int .i64, .str, .str, .int .i64, .int .i64, .int .i64, .row [.str, .str], .row [.int .i64, .int .i64]] 0 e0] => some ⟨n, x, m, y, i, e0⟩
  | _, _ => none
def dom62 (s : S62) : Bool := decide (0 ≤ s.i) && (Nat.beq s.m s.i.toNat && (decide (s.i ≤ (s.n : Int)) && Nat.ble s.n 100))
def fin62 (s : S62) : Tr (Ex × List AV × List Ob) := .node (rsF s.x (s.n - s.i.toNat) s.i.toNat s.y).1
  (.leaf (.exit 0, [.isz s.n SS s.x, .nsl, .bool false, .isz (rsF s.x (s.n - s.i.toNat) s.i.toNat s.y).2.1 SS (rsF s.x (s.n - s.i.toNat) s.i.toNat s.y).2.2, .int .i64 (s.n : Int)], hp62 s))
  (.leaf (.ret, [.isz s.n SS s.x, .isz (rsF s.x (s.n - s.i.toNat) s.i.toNat s.y).2.1 SS (rsF s.x (s.n - s.i.toNat) s.i.toNat s.y).2.2, .bool false, .isz (rsF s.x (s.n - s.i.toNat) s.i.toNat s.y).2.1 SS (rsF s.x (s.n - s.i.toNat) s.i.toNat s.y).2.2, .int .i64 ((rsF s.x (s.n - s.i.toNat) s.i.toNat s.y).2.1 : Int)], hp62 s))
abbrev lp62 (i : Nat) : LT := bif Nat.beq i 2 then .sum keep62i (stF dec62i dom62i fin62i) else bif Nat.beq i 1000002 then .ghost [.frz 4] else bif Nat.beq i 1000004 then .ghost [.frz 4] else .sum keep62 (stF dec62 dom62 fin62)
def rnd62i (n : Nat) (x : Nat → Nat → Dt) (m : Nat) (y : Nat → Nat → Dt) (i k : Int) (e0 : Nat → Nat → Dt) : Option (Ex × List AV × List Ob) := bif decide (k < ↑m) then bif decide (0 ≤ k) && decide (k < ↑m) then bif decide (0 ≤ i) && decide (i < ↑n) then bif decide (cpI (y k.toNat 0).n (y k.toNat 1).n (x i.toNat 0).n (x i.toNat 1).n < 0) then some (.normal, [.isz n SS x, .nsl, .bool false, .isz m SS y, .int .i64 i, .int .i64 (IntKind.i64.wrap (k + 1))], [.frz 44 SS 0 e0]) else some (.exit 2, [.isz n SS x, .nsl, .bool false, .isz m SS y, .int .i64 i, .int .i64 k], [.frz 44 SS 0 e0]) else none else none else some (.exit 2, [.isz n SS x, .nsl, .bool false, .isz m SS y, .int .i64 i, .int .i64 k], [.frz 44 SS 0 e0])
theorem loop62i (n : Nat) (x : Nat → Nat → Dt) (m : Nat) (y : Nat → Nat → Dt) (i k : Int) (e0 : Nat → Nat → Dt) : evC (β := Ex × List AV × List Ob) Tryz.prog (spOf [t15]) (inlOf []) extD (cKD [t15] []) lp62 (bodyOf Tryz.prog 64 2) ⟨mkF Tryz.f64.ntmps keep62i [.isz n SS x, .nsl, .bool false, .isz m SS y, .int .i64 i, .int .i64 k], [.frz 44 SS 0 e0]⟩ (fun e st => (cutBack keep62i 1 st).map fun q => (e, q.1, q.2)) = rnd62i n x m y i k e0 := by kernel_rfl
theorem skF_le (y x : Nat → Nat → Dt) (i : Nat) : ∀ f k, k ≤ skF y x i f k ∧ skF y x i f k ≤ k + f
  | 0, k => ⟨Nat.le_refl _, Nat.le_refl _⟩
  | f + 1, k => by
    simp only [skF]
    have := skF_le y x i f (k + 1)
    split <;> omega
set_option maxRecDepth 20000 in
theorem sum62i : LoopOkT Tryz.prog (spOf [t15]) (inlOf []) extD (cKD [t15] []) lp62 Tryz.f64.ntmps (bodyOf Tryz.prog 64 2) (.sum keep62i (stF dec62i dom62i fin62i)) := by
  dsimp only [LoopOkT]
  refine ⟨by decide, by decide, ?_⟩
  refine sum_st dec62i dom62i fin62i vs62i hp62i (fun s => s.m - s.k.toNat) (fun vs H s hs => ?_) (fun s R hd hR => ?_)
  · unfold dec62i at hs
    split at hs
    · obtain rfl := Option.some.inj hs
      exact ⟨rfl, rfl⟩
    · cases hs
  · obtain ⟨n, x, m, y, i, k, e0⟩ := s
    simp only [dom62i, Bool.and_eq_true, decide_eq_true_eq, Nat.ble_eq] at hd
    obtain ⟨h1, h2, h3, h4, h5⟩ := hd
    obtain ⟨i, rfl⟩ : ∃ q : Nat, i = (q : Int) := ⟨i.toNat, by omega⟩
    obtain ⟨k, rfl⟩ : ∃ q : Nat, k = (q : Int) := ⟨k.toNat, by omega⟩
    simp only [fin62i, Int.toNat_natCast, Tr.run, Option.some.injEq] at hR
    subst hR
    have ht := loop62i n x m y (i : Int) (k : Int) e0
    unfold rnd62i at ht
    rw [Int.toNat_natCast, Int.toNat_natCast] at ht
    by_cases hk : k < m
    · obtain ⟨q, hq⟩ : ∃ q, m - k = q + 1 := ⟨m - k - 1, by omega⟩
      rw [condT (decide_eq_true (by omega)), condT (by simp only [Bool.and_eq_true, decide_eq_true_eq]; omega), condT (by simp only [Bool.and_eq_true, decide_eq_true_eq]; omega)] at ht
      by_cases hc : cpI (y k 0).n (y k 1).n (x i 0).n (x i 1).n < 0
      · rw [condT (decide_eq_true hc), wrapI (by omega) (by omega)] at ht
        refine .inl ⟨⟨n, x, m, y, (i : Int), (k : Int) + 1, e0⟩, ht, rfl, ?_, ?_, ?_⟩
        · simp only [dom62i, Bool.and_eq_true, decide_eq_true_eq, Nat.ble_eq]; omega
        · have e1 : ((k : Int) + 1).toNat = k + 1 := by omega
          simp only [fin62i, Int.toNat_natCast, Tr.run, e1, hq, skF, hc, if_true, show m - (k + 1) = q by omega]
        · simp only; omega
      · rw [condF (decide_eq_false hc)] at ht
        refine .inr ⟨by simp, ?_⟩
        rw [hq]
        simp only [skF, hc, if_false]
        exact ht
    · rw [condF (decide_eq_false (by omega))] at ht
      refine .inr ⟨by simp, ?_⟩
      rw [show m - k = 0 by omega]
      exact ht
def nx62 (n : Nat) (x : Nat → Nat → Dt) (m : Nat) (y : Nat → Nat → Dt) (i : Int) (e0 : Nat → Nat → Dt) (K : Nat) : Option (Ex × List AV × List Ob) :=
  bif true && (true && decide ((K : Int) ≤ (m : Int))) then bif true && (true && (K - 0).ble 1000000) then bif decide (0 ≤ i) && decide (i < (n : Int)) then bif (0 + (K - 0)).beq (0 + (K - 0)) && ((0 + (K - 0)).ble 1000000 && true) then bif true && (decide ((K : Int) ≤ (m : Int)) && decide ((m : Int) ≤ (m : Int))) then
    bif (0 + (K - 0) + 1).beq (0 + (K - 0) + 1) && ((0 + (K - 0) + 1).ble 1000000 && (m - K).ble 1000000) then bif (0 + (K - 0) + 1 + (m - K)).beq (0 + (K - 0) + 1 + (m - K)) && true then
      some (.normal, [.isz n SS x, .nsl, .bool false, .isz (0 + (K - 0) + 1 + (m - K)) SS (insR y K (x i.toNat)), .int .i64 (IntKind.i64.wrap (i + 1))], [.frz 44 SS 0 e0]) else none else none else none else none else none else none else none
def rnd62 (n : Nat) (x : Nat → Nat → Dt) (m : Nat) (y : Nat → Nat → Dt) (i : Int) (e0 : Nat → Nat → Dt) : Option (Ex × List AV × List Ob) :=
  bif decide (i < (n : Int)) then bif decide (0 ≤ i) && (decide (i < (n : Int)) && (true && (true && m.ble 1000))) then bif decide (((skF y x i.toNat (m - 0) 0 : Nat) : Int) < (m : Int)) then bif true && decide (((skF y x i.toNat (m - 0) 0 : Nat) : Int) < (m : Int)) then bif decide (0 ≤ i) && decide (i < (n : Int)) then
    bif cpI (y (skF y x i.toNat (m - 0) 0) 0).n (y (skF y x i.toNat (m - 0) 0) 1).n (x i.toNat 0).n (x i.toNat 1).n == 0 then some (.ret, [.isz n SS x, .isz m SS y, .bool false, .isz m SS y, .int .i64 i], [.frz 44 SS 0 e0])
      else nx62 n x m y i e0 (skF y x i.toNat (m - 0) 0) else none else none else nx62 n x m y i e0 (skF y x i.toNat (m - 0) 0) else none
    else some (.exit 0, [.isz n SS x, .nsl, .bool false, .isz m SS y, .int .i64 i], [.frz 44 SS 0 e0])
theorem loop62 (n : Nat) (x : Nat → Nat → Dt) (m : Nat) (y : Nat → Nat → Dt) (i : Int) (e0 : Nat → Nat → Dt) : evC (β := Ex × List AV × List Ob) Tryz.prog (spOf [t15]) (inlOf []) extD (cKD [t15] []) lp62 (bodyOf Tryz.prog 64 0) ⟨mkF Tryz.f64.ntmps keep62 [.isz n SS x, .nsl, .bool false, .isz m SS y, .int .i64 i], [.frz 44 SS 0 e0]⟩ (fun e st => (cutBack keep62 1 st).map fun q => (e, q.1, q.2)) = rnd62 n x m y i e0 := by kernel_rfl
theorem nx62_run {n : Nat} {x : Nat → Nat → Dt} {m : Nat} {y : Nat → Nat → Dt} {i : Nat} {e0 : Nat → Nat → Dt} {K : Nat} (hK : K ≤ m) (hm : m ≤ 1000) (hi : i < n) (hn : n ≤ 1000) :
    nx62 n x m y (i : Int) e0 K = some (.normal, [.isz n SS x, .nsl, .bool false, .isz (m + 1) SS (insR y K (x i)), .int .i64 ((i : Int) + 1)], [.frz 44 SS 0 e0]) := by
  unfold nx62
  rw [condT (by simp only [Bool.true_and, decide_eq_true_eq] <;> omega), condT (by simp only [Bool.true_and, Nat.ble_eq] <;> omega), condT (by simp only [Bool.and_eq_true, decide_eq_true_eq] <;> omega), condT (by simp only [Bool.true_and, Bool.and_true, Nat.ble_eq, Nat.beq_refl] <;> omega), condT (by simp only [Bool.and_eq_true, Bool.true_and, decide_eq_true_eq] <;> omega), condT (by simp only [Bool.and_eq_true, Bool.true_and, Nat.ble_eq, Nat.beq_refl] <;> omega), condT (by simp only [Bool.and_true, Nat.beq_refl] <;> omega), Int.toNat_natCast, wrapI (by omega) (by omega), show 0 + (K - 0) + 1 + (m - K) = m + 1 by omega]
set_option maxRecDepth 4000 in
theorem sum62 : LoopOkT Tryz.prog (spOf [t15]) (inlOf []) extD (cKD [t15] []) lp62 Tryz.f64.ntmps (bodyOf Tryz.prog 64 0) (.sum keep62 (stF dec62 dom62 fin62)) := by
  dsimp only [LoopOkT]
  refine ⟨by decide, by decide, ?_⟩
  refine sum_st dec62 dom62 fin62 vs62 hp62 (fun s => s.n - s.i.toNat) (fun vs H s hs => ?_) (fun s R hd hR => ?_)
  · unfold dec62 at hs
    split at hs
    · obtain rfl := Option.some.inj hs
      exact ⟨rfl, rfl⟩
    · cases hs
  · obtain ⟨n, x, m, y, i, e0⟩ := s
    simp only [dom62, Bool.and_eq_true, decide_eq_true_eq, Nat.ble_eq, Nat.beq_eq] at hd
    obtain ⟨h1, rfl, h3, h4⟩ := hd
    obtain ⟨i, rfl⟩ : ∃ q : Nat, i = (q : Int) := ⟨i.toNat, by omega⟩
    simp only [Int.toNat_natCast] at hR h3 ⊢
    have ht := loop62 n x i y (i : Int) e0
    unfold rnd62 at ht
    rw [Int.toNat_natCast, Nat.sub_zero] at ht
    by_cases hi : i < n
    · obtain ⟨q, hq⟩ : ∃ q, n - i = q + 1 := ⟨n - i - 1, by omega⟩
      have hK := (skF_le y x i i 0).2
      rw [Nat.zero_add] at hK
      rw [condT (by simp only [decide_eq_true_eq] <;> omega), condT (by simp only [Bool.and_eq_true, Bool.true_and, decide_eq_true_eq, Nat.ble_eq] <;> omega)] at ht
      by_cases hk : skF y x i i 0 < i
      · rw [condT (by simp only [decide_eq_true_eq] <;> omega), condT (by simp only [Bool.true_and, decide_eq_true_eq] <;> omega), condT (by simp only [Bool.and_eq_true, decide_eq_true_eq] <;> omega)] at ht
        by_cases hc : cpI (y (skF y x i i 0) 0).n (y (skF y x i i 0) 1).n (x i 0).n (x i 1).n = 0
        · rw [condT (by simpa using hc)] at ht
          refine .inr ?_
          simp only [fin62, Int.toNat_natCast, hq, rsF] at hR
          rw [if_pos ⟨hk, hc⟩] at hR
          simp only [Tr.run, cond_false, Option.some.injEq] at hR
          subst hR
          exact ⟨by simp, ht⟩
        · rw [condF (by simpa using hc), nx62_run hK (by omega) hi (by omega)] at ht
          refine .inl ⟨⟨n, x, i + 1, insR y (skF y x i i 0) (x i), (i : Int) + 1, e0⟩, ht, rfl, ?_, ?_, ?_⟩
          · simp only [dom62, Bool.and_eq_true, decide_eq_true_eq, Nat.ble_eq, Nat.beq_eq]; omega
          · rw [← hR]
            have e1 : ((i : Int) + 1).toNat = i + 1 := by omega
            simp only [fin62, Int.toNat_natCast, e1, hq, rsF, show n - (i + 1) = q by omega]
            rw [if_neg (fun h => hc h.2)]
          · simp only; omega
      · rw [condF (decide_eq_false (by omega)), nx62_run hK (by omega) hi (by omega)] at ht
        refine .inl ⟨⟨n, x, i + 1, insR y (skF y x i i 0) (x i), (i : Int) + 1, e0⟩, ht, rfl, ?_, ?_, ?_⟩
        · simp only [dom62, Bool.and_eq_true, decide_eq_true_eq, Nat.ble_eq, Nat.beq_eq]; omega
        · rw [← hR]
          have e1 : ((i : Int) + 1).toNat = i + 1 := by omega
          simp only [fin62, Int.toNat_natCast, e1, hq, rsF, show n - (i + 1) = q by omega]
          rw [if_neg (fun h => hk h.1)]
        · simp only; omega
    · rw [condF (decide_eq_false (by omega))] at ht
      obtain rfl : i = n := by omega
      refine .inr ?_
      simp only [fin62, Int.toNat_natCast, Nat.sub_self, rsF, Tr.run, cond_true, Option.some.injEq] at hR
      subst hR
      exact ⟨by simp, ht⟩
theorem vt62 (n : Nat) (x : Nat → Nat → Dt) : evFn Tryz.prog (spOf [t15]) (inlOf []) extD (cKD [t15] []) lp62 Tryz.f64 [.isz n SS x] [] (fun r _ => some r) =
    (bif true && (true && (true && n.ble 100)) then bif (rsF x (n - 0) 0 zeroEl).1 then some (.ret (.tup [.isz (rsF x (n - 0) 0 zeroEl).2.1 SS (rsF x (n - 0) 0 zeroEl).2.2, .bool true])) else some (.ret (.tup [.isz (rsF x (n - 0) 0 zeroEl).2.1 SS (rsF x (n - 0) 0 zeroEl).2.2, .bool false])) else none : Option Res) := by kernel_rfl
def t62 : Ent := ⟨64, fun
  | [.isz n [.int .i64, .int .i64, .int .i64, .str, .str, .int .i64, .int .i64, .int .i64, .row [.str, .str], .row [.int .i64, .int .i64]] x] => .chk (Nat.ble n 100) (.node (rsF x n 0 zeroEl).1 (.leaf (.ret (.tup [.isz (rsF x n 0 zeroEl).2.1 SS (rsF x n 0 zeroEl).2.2, .bool true]))) (.leaf (.ret (.tup [.isz (rsF x n 0 zeroEl).2.1 SS (rsF x n 0 zeroEl).2.2, .bool false]))))
  | _ => .non⟩
theorem sx62 : (mkCx Tryz.prog (spOf [t15]) (inlOf []) extD).Ok InvD := cx_of [] (by kernel_rfl) (by
  intro p hp
  simp only [List.mem_cons, List.not_mem_nil, or_false] at hp
  rcases hp with rfl
  exact t15_ok)
set_option maxRecDepth 10000 in
theorem t62_ok : SpecHolds Tryz.prog InvD 64 fun a => (t62.2 a).run := by
  refine specD sx62 Tryz.func64 (c := codeOf Tryz.prog 64) (by kernel_rfl) lp62 (fun p hp => by
    have hl : loops (codeOf Tryz.prog 64) = [(0, bodyOf Tryz.prog 64 0), (2, bodyOf Tryz.prog 64 2)] := by kernel_rfl
    rw [hl] at hp
    simp only [List.mem_cons, List.not_mem_nil, or_false] at hp
    rcases hp with rfl | rfl
    · exact sum62
    · exact sum62i) fun args r hh => ?_
  simp only [t62] at hh
  split at hh
  · rename_i n x
    obtain ⟨hg, hh⟩ := chk_run hh
    refine ⟨by kernel_rfl, ?_, ?_⟩
    · simp only [Tr.run] at hh
      cases h : (rsF x n 0 zeroEl).1 <;> rw [h] at hh <;> (obtain rfl := Option.some.inj hh) <;> rfl
    · refine (vt62 n x).trans (Eq.trans ?_ hh)
      rw [condT (by simpa using hg), Nat.sub_zero]
      rfl
  · simp [Tr.run] at hh
open Go.Evl Go.RowKit
def upO (q : Nat → Option Nat) : Nat → Nat → Option Nat
  | 0, k => some k
  | t + 1, k => (upO q t k).bind q
theorem upO_add (q : Nat → Option Nat) (s : Nat) : ∀ t k, upO q (s + t) k = (upO q s k).bind (upO q t)
  | 0, k => by
    cases h : upO q s k with
    | none => simp [h]
    | some c => simp [upO]
  | t + 1, k => by
    show (upO q (s + t) k).bind q = _
    rw [upO_add q s t k]
    cases upO q s k with
    | none => rfl
    | some c => rfl
theorem upO_one (q : Nat → Option Nat) (t k : Nat) : upO q (t + 1) k = (q k).bind (upO q t) := by
  rw [Nat.add_comm, upO_add]
  rfl
theorem upO_none {q : Nat → Option Nat} {k s : Nat} (h : upO q s k = none) {t : Nat} (ht : s ≤ t) : upO q t k = none := by
  obtain ⟨d, rfl⟩ : ∃ d, t = s + d := ⟨t - s, by omega⟩
  rw [upO_add, h]
  rfl
theorem upO_lt {q : Nat → Option Nat} {n : Nat} (hq : ∀ k c, q k = some c → c < n) {k : Nat} (hk : k < n) : ∀ t c, upO q t k = some c → c < n
  | 0, c, h => by cases h; exact hk
  | t + 1, c, h => by
    obtain ⟨b, _, h2⟩ := Option.bind_eq_some_iff.1 h
    exact hq b c h2
def smN (f : Nat → Nat) : Nat → Nat
  | 0 => 0
  | d + 1 => smN f d + f d
theorem smN_shift (f : Nat → Nat) : ∀ d, smN f (d + 1) = f 0 + smN (fun t => f (t + 1)) d
  | 0 => by simp [smN]
  | d + 1 => by
    show smN f (d + 1) + f (d + 1) = _
    rw [smN_shift f d]
    simp only [smN]
    omega
theorem smN_congr {f g : Nat → Nat} : ∀ {d}, (∀ t, t < d → f t = g t) → smN f d = smN g d
  | 0, _ => rfl
  | d + 1, h => by
    simp only [smN]
    rw [smN_congr fun t ht => h t (by omega), h d (by omega)]
def hit (q : Nat → Option Nat) (k : Nat) (J : Option Nat) (t : Nat) : Nat := match upO q t k with
  | some c => if q c = J then 1 else 0
  | none => 0
def subT (ch : Option Nat → List Nat) : Nat → Option Nat → List Nat
  | 0, _ => []
  | d + 1, J => (ch J).flatMap fun c => c :: subT ch d (some c)
set_option maxRecDepth 20000 in
theorem sum_one {l : List Nat} (hl : l.Nodup) (o : Option Nat) : (l.map fun c => if o = some c then 1 else 0).sum = (match o with
    | some c => if c ∈ l then 1 else 0
    | none => 0) := by
  induction l with
  | nil => cases o <;> rfl
  | cons a r ih =>
    rw [List.nodup_cons] at hl
    rw [List.map_cons, List.sum_cons, ih hl.2]
    cases o with
    | none => simp
    | some c =>
      by_cases h : c = a
      · subst h
        simp [hl.1]
      · simp [h]
set_option maxRecDepth 20000 in
theorem sum_smN {l : List Nat} (F : Nat → Nat → Nat) : ∀ d, (l.map fun c => smN (F c) d).sum = smN (fun t => (l.map fun c => F c t).sum) d
  | 0 => by
    induction l with
    | nil => rfl
    | cons a r ih => rw [List.map_cons, List.sum_cons, ih]; rfl
  | d + 1 => by
    have h := sum_smN (l := l) F d
    simp only [smN]
    rw [← h]
    clear h
    induction l with
    | nil => rfl
    | cons a r ih => simp only [List.map_cons, List.sum_cons, ih]; omega
structure Fam (q : Nat → Option Nat) (n : Nat) (ch : Option Nat → List Nat) : Prop where
  q_lt : ∀ k c, q k = some c → c < n
  nodup : ∀ J, (ch J).Nodup
  mem : ∀ J c, c ∈ ch J ↔ c < n ∧ q c = J
theorem subT_count {q : Nat → Option Nat} {n : Nat} {ch : Option Nat → List Nat} (hf : Fam q n ch) {k : Nat} (hk : k < n) : ∀ d J, (subT ch d J).count k = smN (hit q k J) d
  | 0, J => rfl
  | d + 1, J => by
    rw [smN_shift]
    simp only [subT]
    rw [List.count_flatMap]
    have e1 : (List.count k ∘ fun c => c :: subT ch d (some c)) = fun c => (if (some k : Option Nat) = some c then 1 else 0) + smN (hit q k (some c)) d := by
      funext c
      simp only [Function.comp, List.count_cons, subT_count hf hk d (some c)]
      rw [Nat.add_comm]
      congr 1
      by_cases h : c = k
      · subst h; simp
      · rw [if_neg (by simpa using h), if_neg (by simpa using fun z : k = c => h z.symm)]
    rw [e1]
    have e2 : ∀ (l : List Nat) (A B : Nat → Nat), (l.map fun c => A c + B c).sum = (l.map A).sum + (l.map B).sum := by
      intro l A B
      induction l with
      | nil => rfl
      | cons a r ih => simp only [List.map_cons, List.sum_cons, ih]; omega
    rw [e2, sum_one (hf.nodup J), sum_smN]
    congr 1
    · show (if k ∈ ch J then 1 else 0) = hit q k J 0
      simp only [hit, upO, hf.mem]
      by_cases h : q k = J
      · rw [if_pos ⟨hk, h⟩, if_pos h]
      · rw [if_neg fun z => h z.2, if_neg h]
    · refine smN_congr fun t _ => ?_
      have e3 : (fun c => hit q k (some c) t) = fun c => if upO q (t + 1) k = some c then 1 else 0 := by
        funext c
        simp only [hit, upO]
        rcases Option.eq_none_or_eq_some (upO q t k) with h | ⟨b, h⟩
        · simp [h]
        · simp [h]
      rw [e3, sum_one (hf.nodup J)]
      simp only [hit]
      cases h : upO q (t + 1) k with
      | none => rfl
      | some c =>
        have := upO_lt hf.q_lt hk _ _ h
        simp only [hf.mem]
        by_cases e : q c = J
        · rw [if_pos ⟨this, e⟩, if_pos e]
        · rw [if_neg fun z => e z.2, if_neg e]
theorem subT_lt {q : Nat → Option Nat} {n : Nat} {ch : Option Nat → List Nat} (hf : Fam q n ch) : ∀ d J k, k ∈ subT ch d J → k < n
  | 0, _, _, h => by cases h
  | d + 1, J, k, h => by
    simp only [subT, List.mem_flatMap, List.mem_cons] at h
    obtain ⟨c, hc, rfl | h⟩ := h
    · exact ((hf.mem J k).1 hc).1
    · exact subT_lt hf d (some c) k h
def Ends (q : Nat → Option Nat) (n : Nat) : Prop := ∀ k, k < n → ∃ t, upO q t k = none
theorem nodup_le : ∀ (n : Nat) (l : List Nat), l.Nodup → (∀ k ∈ l, k < n) → l.length ≤ n
  | 0, l, _, h => by
    cases l with
    | nil => exact Nat.le_refl _
    | cons a r => have := h a (List.mem_cons_self ..); omega
  | n + 1, l, hl, h => by
    have h1 : (l.erase n).length ≤ n := nodup_le n _ (hl.erase n) fun k hk => by
      have := h k (List.mem_of_mem_erase hk)
      have : k ≠ n := fun e => by
        subst e
        exact hl.not_mem_erase hk
      omega
    have h2 := List.length_erase (a := n) (l := l)
    rw [h2] at h1
    split at h1 <;> omega
theorem up_inj {q : Nat → Option Nat} {n : Nat} (he : Ends q n) {k : Nat} (hk : k < n) {s t : Nat} (hst : s < t) {c : Nat} (h1 : upO q s k = some c) (h2 : upO q t k = some c) : False := by
  obtain ⟨e, he⟩ := he k hk
  have h3 : ∀ m, upO q (s + m * (t - s)) k = some c := by
    intro m
    induction m with
    | zero => simpa using h1
    | succ m ih =>
      have : s + (m + 1) * (t - s) = s + m * (t - s) + (t - s) := by rw [Nat.add_mul]; omega
      rw [this, upO_add, ih]
      show upO q (t - s) c = some c
      have := upO_add q s (t - s) k
      rw [show s + (t - s) = t by omega, h2, h1] at this
      exact this.symm
  have h4 := h3 (e + 1)
  rw [upO_none he (t := s + (e + 1) * (t - s)) (by
    have : (e + 1) * 1 ≤ (e + 1) * (t - s) := Nat.mul_le_mul_left _ (by omega)
    omega)] at h4
  cases h4
theorem up_bound {q : Nat → Option Nat} {n : Nat} (hq : ∀ k c, q k = some c → c < n) (he : Ends q n) {k : Nat} (hk : k < n) : upO q n k = none := by
  cases h : upO q n k with
  | none => rfl
  | some c =>
    exfalso
    have hs : ∀ t, t ≤ n → ∃ b, upO q t k = some b := by
      intro t ht
      cases e : upO q t k with
      | none => rw [upO_none e ht] at h; cases h
      | some b => exact ⟨b, rfl⟩
    have hl : ((List.range (n + 1)).map fun t => (upO q t k).getD 0).Nodup := by
      rw [List.nodup_iff_pairwise_ne, List.pairwise_map]
      refine List.Pairwise.imp_of_mem ?_ (List.pairwise_lt_range (n := n + 1))
      intro a b ha hb hab e
      rw [List.mem_range] at ha hb
      obtain ⟨u, hu⟩ := hs a (by omega)
      obtain ⟨v, hv⟩ := hs b (by omega)
      rw [hu, hv] at e
      simp only [Option.getD_some] at e
      subst e
      exact up_inj he hk hab hu hv
    have := nodup_le n _ hl (by
      intro j hj
      rw [List.mem_map] at hj
      obtain ⟨t, ht, rfl⟩ := hj
      rw [List.mem_range] at ht
      obtain ⟨u, hu⟩ := hs t (by omega)
      rw [hu]
      exact upO_lt hq hk _ _ hu)
    rw [List.length_map, List.length_range] at this
    omega
theorem hit_root {q : Nat → Option Nat} {k : Nat} : ∀ d, upO q d k = none → smN (hit q k none) d = 1
  | 0, h => by cases h
  | d + 1, h => by
    simp only [smN]
    cases e : upO q d k with
    | none => rw [hit_root d e]; simp [hit, e]
    | some c =>
      have h1 : q c = none := by simpa [upO, e] using h
      have h2 : smN (hit q k none) d = 0 := by
        have : ∀ m, m ≤ d → smN (hit q k none) m = 0 := by
          intro m
          induction m with
          | zero => intro _; rfl
          | succ m ih =>
            intro hm
            simp only [smN]
            rw [ih (by omega)]
            simp only [hit]
            cases e2 : upO q m k with
            | none => rfl
            | some b =>
              have : q b ≠ none := by
                intro z
                have : upO q (m + 1) k = none := by simp [upO, e2, z]
                rw [upO_none this hm] at e
                cases e
              simp [this]
        exact this d (Nat.le_refl _)
      rw [h2]
      simp [hit, e, h1]
theorem subT_perm {q : Nat → Option Nat} {n : Nat} {ch : Option Nat → List Nat} (hf : Fam q n ch) (he : Ends q n) {d : Nat} (hd : n ≤ d) : (subT ch d none).Perm (List.range n) := by
  rw [List.perm_iff_count]
  intro k
  by_cases hk : k < n
  · rw [subT_count hf hk, hit_root d (upO_none (up_bound hf.q_lt he hk) hd), List.count_range]
    simp [hk]
  · rw [List.count_eq_zero.2 fun h => hk (subT_lt hf _ _ _ h), List.count_eq_zero.2 (by simpa using hk)]
open Go.Evl Go.RowKit
def stS (st : Nat → Nat → Dt) (a : Nat) (v : Int) : Nat → Nat → Dt := setEl st a 0 [.int v]
theorem stS_at (st : Nat → Nat → Dt) (a : Nat) (v : Int) (k : Nat) : (stS st a v k 0).n = if k = a then v else (st k 0).n := by
  unfold stS setEl
  by_cases h : k = a
  · subst h
    rw [Nat.beq_refl, if_pos rfl]; rfl
  · rw [if_neg h, show Nat.beq k a = false by rw [Bool.eq_false_iff]; simp only [ne_eq, Nat.beq_eq]; exact h]; rfl
def cnt (st : Nat → Nat → Dt) (v : Int) : Nat → Nat
  | 0 => 0
  | n + 1 => cnt st v n + if (st n 0).n = v then 1 else 0
theorem cnt_congr {st st' : Nat → Nat → Dt} {v : Int} : ∀ {n : Nat}, (∀ k, k < n → ((st k 0).n = v ↔ (st' k 0).n = v)) → cnt st v n = cnt st' v n
  | 0, _ => rfl
  | n + 1, h => by
    simp only [cnt]
    rw [cnt_congr (fun k hk => h k (by omega))]
    have := h n (by omega)
    by_cases e : (st n 0).n = v
    · rw [if_pos e, if_pos (this.1 e)]
    · rw [if_neg e, if_neg fun z => e (this.2 z)]
theorem cnt_set {st : Nat → Nat → Dt} {u v : Int} {a : Nat} (hu : (st a 0).n = u) (hv : v ≠ u) : ∀ {n : Nat}, a < n → cnt st u n = cnt (stS st a v) u n + 1
  | 0, h => by omega
  | n + 1, h => by
    simp only [cnt]
    by_cases e : a = n
    · subst e
      rw [if_pos hu, stS_at, if_pos rfl, if_neg hv, cnt_congr (st := st) (st' := stS st a v) fun k hk => by rw [stS_at, if_neg (by omega)]]
    · have hs : (stS st a v n 0).n = (st n 0).n := by rw [stS_at, if_neg (fun z => e z.symm)]
      rw [cnt_set hu hv (show a < n by omega), hs]
      omega
def trF (u v : Int) (pa : Nat → Nat → Dt) : Nat → (Nat → Nat → Dt) → Int → (Nat → Nat → Dt) × Int
  | 0, st, a => (st, a)
  | f + 1, st, a => if 0 ≤ a ∧ (st a.toNat 0).n = u then trF u v pa f (stS st a.toNat v) (pa a.toNat 0).n else (st, a)
def tr (u v : Int) (n : Nat) (pa st : Nat → Nat → Dt) (a : Int) : (Nat → Nat → Dt) × Int := trF u v pa (cnt st u n + 1) st a
theorem tr_step {u v : Int} {n : Nat} {pa st : Nat → Nat → Dt} {a : Nat} (ha : a < n) (hs : (st a 0).n = u) (hv : v ≠ u) : tr u v n pa st (a : Int) = tr u v n pa (stS st a v) (pa a 0).n := by
  unfold tr
  rw [cnt_set hs hv ha]
  simp only [trF, Int.toNat_natCast]
  rw [if_pos ⟨by omega, hs⟩]
theorem tr_stop {u v : Int} {n : Nat} {pa st : Nat → Nat → Dt} {a : Int} (h : ¬ (0 ≤ a ∧ (st a.toNat 0).n = u)) : tr u v n pa st a = (st, a) := by
  unfold tr
  simp only [trF]
  rw [if_neg h]
def miI (l x : Int) : Int := bif decide (x < l) then x else l
def mnF (pa : Nat → Nat → Dt) (a : Int) : Nat → Int → Int → Option Int
  | 0, l, x => if x = a then some l else none
  | f + 1, l, x => if x = a then some l else if x < 0 then none else mnF pa a f (miI l x) (pa x.toNat 0).n
theorem mnF_mono {pa : Nat → Nat → Dt} {a : Int} : ∀ {f : Nat} {l x r : Int}, mnF pa a f l x = some r → mnF pa a (f + 1) l x = some r
  | 0, l, x, r, h => by
    simp only [mnF] at h ⊢
    split at h
    · rename_i e; rw [if_pos e]; exact h
    · cases h
  | f + 1, l, x, r, h => by
    rw [mnF] at h ⊢
    split at h
    · rename_i e; rw [if_pos e]; exact h
    · rename_i e
      rw [if_neg e]
      split at h
      · cases h
      · rename_i e2
        rw [if_neg e2]
        exact mnF_mono h
def ctS (n : Nat) (pa st : Nat → Nat → Dt) (i : Nat) : Option ((Nat → Nat → Dt) × (Nat → Nat → Dt)) :=
  match (if 0 ≤ (tr 0 1 n pa st i).2 ∧ ((tr 0 1 n pa st i).1 (tr 0 1 n pa st i).2.toNat 0).n = 1 then mnF pa (tr 0 1 n pa st i).2 n (tr 0 1 n pa st i).2 (pa (tr 0 1 n pa st i).2.toNat 0).n else some (-1)) with
  | none => none
  | some l => some (if 0 ≤ l then stS pa l.toNat (-1) else pa, (tr 1 2 n pa (tr 0 1 n pa st i).1 i).1)
def ctO (n : Nat) : Nat → Nat → (Nat → Nat → Dt) → (Nat → Nat → Dt) → Option ((Nat → Nat → Dt) × (Nat → Nat → Dt))
  | 0, _, pa, st => some (pa, st)
  | f + 1, i, pa, st => match ctS n pa st i with
    | none => none
    | some q => ctO n f (i + 1) q.1 q.2
def paB (n : Nat) (pa : Nat → Nat → Dt) : Bool := (List.range n).all fun k => decide (-1 ≤ (pa k 0).n) && decide ((pa k 0).n < (n : Int))
theorem paB_get {n : Nat} {pa : Nat → Nat → Dt} (h : paB n pa = true) {k : Nat} (hk : k < n) : -1 ≤ (pa k 0).n ∧ (pa k 0).n < (n : Int) := by
  have := List.all_eq_true.1 h k (List.mem_range.2 hk)
  simpa using this
theorem paB_set {n : Nat} {pa : Nat → Nat → Dt} (h : paB n pa = true) (a : Nat) : paB n (stS pa a (-1)) = true := by
  refine List.all_eq_true.2 fun k hk => ?_
  have := paB_get h (List.mem_range.1 hk)
  rw [stS_at]
  simp only [Bool.and_eq_true, decide_eq_true_eq]
  split <;> omega
open Go.Evl Go.RowKit
def oi (a : Int) : Option Nat := if 0 ≤ a then some a.toNat else none
theorem oi_nat (k : Nat) : oi (k : Int) = some k := by unfold oi; rw [if_pos (by omega)]; rfl
theorem oi_neg {a : Int} (h : a < 0) : oi a = none := by unfold oi; rw [if_neg (by omega)]
theorem oi_some {a : Int} {k : Nat} (h : oi a = some k) : a = (k : Int) := by
  unfold oi at h
  split at h
  · have := Option.some.inj h; omega
  · cases h
def parO (pa : Nat → Nat → Dt) (k : Nat) : Option Nat := oi (pa k 0).n
theorem parO_lt {n : Nat} {pa : Nat → Nat → Dt} (hp : paB n pa = true) {k : Nat} (hk : k < n) {c : Nat} (h : parO pa k = some c) : c < n := by
  have := (paB_get hp hk).2
  have := oi_some h
  omega
def upI (pa : Nat → Nat → Dt) (t : Nat) (a : Int) : Option Nat := (oi a).bind (upO (parO pa) t)
theorem upI_succ (pa : Nat → Nat → Dt) (t k : Nat) : upI pa (t + 1) (k : Int) = upI pa t (pa k 0).n := by
  unfold upI
  rw [oi_nat]
  show upO (parO pa) (t + 1) k = _
  rw [upO_one]
  rfl
theorem upI_nat (pa : Nat → Nat → Dt) (t k : Nat) : upI pa t (k : Int) = upO (parO pa) t k := by
  unfold upI
  rw [oi_nat]
  rfl
structure Trail (n : Nat) (pa st st' : Nat → Nat → Dt) (u v a b : Int) (r : Nat) : Prop where
  on : ∀ t, t < r → ∃ k, k < n ∧ upI pa t a = some k ∧ (st k 0).n = u
  ne : ∀ t t', t < t' → t' < r → upI pa t a ≠ upI pa t' a
  hit : ∀ t k, t < r → upI pa t a = some k → (st' k 0).n = v
  off : ∀ k, (∀ t, t < r → upI pa t a ≠ some k) → (st' k 0).n = (st k 0).n
  stop : oi b = upI pa r a
  lt : b < (n : Int)
  no : ¬ (0 ≤ b ∧ (st' b.toNat 0).n = u)
theorem trail_ex {n : Nat} {pa : Nat → Nat → Dt} (hp : paB n pa = true) {u v : Int} (huv : v ≠ u) : ∀ (f : Nat) (st : Nat → Nat → Dt) (a : Int), a < (n : Int) → cnt st u n < f → ∃ r, Trail n pa st (trF u v pa f st a).1 u v a (trF u v pa f st a).2 r
  | 0, _, _, _, h => by omega
  | f + 1, st, a, ha, h => by
    by_cases hc : 0 ≤ a ∧ (st a.toNat 0).n = u
    · obtain ⟨h0, hs⟩ := hc
      obtain ⟨a, rfl⟩ : ∃ k : Nat, a = (k : Int) := ⟨a.toNat, by omega⟩
      rw [Int.toNat_natCast] at hs
      have ha' : a < n := by omega
      have e : trF u v pa (f + 1) st (a : Int) = trF u v pa f (stS st a v) (pa a 0).n := by
        simp only [trF, Int.toNat_natCast]
        rw [if_pos ⟨by omega, hs⟩]
      rw [e]
      have hcn := cnt_set (n := n) hs huv ha'
      obtain ⟨r, hr⟩ := trail_ex hp huv f (stS st a v) (pa a 0).n (paB_get hp ha').2 (by omega)
      have hu0 : upI pa 0 (a : Int) = some a := by rw [upI_nat]; rfl
      refine ⟨r + 1, fun t ht => ?_, fun t t' h1 h2 => ?_, fun t k ht hk => ?_, fun k hk => ?_, ?_, hr.lt, hr.no⟩
      · cases t with
        | zero => exact ⟨a, ha', hu0, hs⟩
        | succ t =>
          obtain ⟨k, k1, k2, k3⟩ := hr.on t (by omega)
          rw [stS_at] at k3
          split at k3
          · exact absurd k3 huv
          · exact ⟨k, k1, by rw [upI_succ]; exact k2, k3⟩
      · cases t' with
        | zero => omega
        | succ t' =>
          rw [upI_succ]
          cases t with
          | zero =>
            rw [hu0]
            intro z
            obtain ⟨k, k1, k2, k3⟩ := hr.on t' (by omega)
            rw [k2] at z
            obtain rfl := Option.some.inj z
            rw [stS_at, if_pos rfl] at k3
            exact huv k3
          | succ t =>
            rw [upI_succ]
            exact hr.ne t t' (by omega) (by omega)
      · cases t with
        | zero =>
          rw [hu0] at hk
          obtain rfl := Option.some.inj hk
          by_cases hx : ∃ t, t < r ∧ upI pa t (pa a 0).n = some a
          · obtain ⟨t, t1, t2⟩ := hx
            exact hr.hit t _ t1 t2
          · rw [hr.off a fun t t1 t2 => hx ⟨t, t1, t2⟩, stS_at, if_pos rfl]
        | succ t =>
          rw [upI_succ] at hk
          exact hr.hit t k (by omega) hk
      · rw [hr.off k fun t t1 t2 => hk (t + 1) (by omega) (by rw [upI_succ]; exact t2), stS_at]
        split
        · rename_i e2
          subst e2
          exact absurd hu0 (hk 0 (by omega))
        · rfl
      · rw [upI_succ]
        exact hr.stop
    · have e : trF u v pa (f + 1) st a = (st, a) := by
        simp only [trF]
        rw [if_neg hc]
      rw [e]
      refine ⟨0, fun t ht => by omega, fun t t' _ ht => by omega, fun t k ht => by omega, fun k _ => rfl, ?_, ha, hc⟩
      show oi a = (oi a).bind (upO (parO pa) 0)
      cases oi a <;> rfl
theorem tr_trail {n : Nat} {pa : Nat → Nat → Dt} (hp : paB n pa = true) {u v : Int} (huv : v ≠ u) (st : Nat → Nat → Dt) {a : Int} (ha : a < (n : Int)) : ∃ r, Trail n pa st (tr u v n pa st a).1 u v a (tr u v n pa st a).2 r :=
  trail_ex hp huv _ st a ha (by omega)
theorem mnF_ok {pa : Nat → Nat → Dt} {b p : Nat} (hb : upO (parO pa) p b = some b) (hne : ∀ t, 0 < t → t < p → upO (parO pa) t b ≠ some b) : ∀ (f t : Nat) (l : Int), 0 < t → t ≤ p → p ≤ t + f → ∀ x : Int, oi x = upO (parO pa) t b → ∃ l', mnF pa (b : Int) f l x = some l' ∧ l' ≤ l ∧ (l' = l ∨ ∃ s, t ≤ s ∧ s < p ∧ oi l' = upO (parO pa) s b) ∧ ∀ s k, t ≤ s → s < p → upO (parO pa) s b = some k → l' ≤ (k : Int)
  | f, t, l, h0, h1, h2, x, hx => by
    by_cases ht : t = p
    · subst ht
      have := oi_some (hx.trans hb)
      refine ⟨l, ?_, Int.le_refl _, .inl rfl, fun s k h3 h4 => by omega⟩
      cases f <;> simp only [mnF] <;> rw [if_pos this]
    · obtain ⟨k, hk⟩ : ∃ k, upO (parO pa) t b = some k := by
        cases e : upO (parO pa) t b with
        | none => rw [upO_none e h1] at hb; cases hb
        | some k => exact ⟨k, rfl⟩
      rw [hk] at hx
      obtain rfl := oi_some hx
      have hkb : (k : Int) ≠ (b : Int) := fun z => hne t h0 (by omega) (by rw [hk]; congr 1; omega)
      cases f with
      | zero => omega
      | succ f =>
        simp only [mnF]
        rw [if_neg hkb, if_neg (by omega), Int.toNat_natCast]
        have hx' : oi (pa k 0).n = upO (parO pa) (t + 1) b := by
          show _ = (upO (parO pa) t b).bind (parO pa)
          rw [hk]; rfl
        obtain ⟨l', e1, e2, e3, e4⟩ := mnF_ok hb hne f (t + 1) (miI l k) (by omega) (by omega) (by omega) _ hx'
        have hmi : miI l k ≤ l ∧ miI l k ≤ (k : Int) ∧ (miI l k = l ∨ miI l k = (k : Int)) := by
          unfold miI
          by_cases h : (k : Int) < l
          · rw [decide_eq_true h]; exact ⟨by show (k : Int) ≤ l; omega, Int.le_refl _, .inr rfl⟩
          · rw [decide_eq_false h]; exact ⟨Int.le_refl _, by show l ≤ (k : Int); omega, .inl rfl⟩
        refine ⟨l', e1, by omega, ?_, fun s j h3 h4 h5 => ?_⟩
        · rcases e3 with e3 | ⟨s, s1, s2, s3⟩
          · rcases hmi.2.2 with h | h
            · exact .inl (e3.trans h)
            · exact .inr ⟨t, Nat.le_refl _, by omega, by rw [e3, h, hk, oi_nat]⟩
          · exact .inr ⟨s, by omega, s2, s3⟩
        · by_cases hs : s = t
          · subst hs
            rw [hk] at h5
            obtain rfl := Option.some.inj h5
            omega
          · exact e4 s j (by omega) h4 h5
open Go.Evl Go.RowKit
theorem per_mul {q : Nat → Option Nat} {k p : Nat} (h : upO q p k = some k) : ∀ m, upO q (m * p) k = some k
  | 0 => by rw [Nat.zero_mul]; rfl
  | m + 1 => by
    rw [Nat.add_mul, Nat.one_mul, upO_add, per_mul h m]
    exact h
theorem per_some {q : Nat → Option Nat} {k p : Nat} (h : upO q p k = some k) (hp : 0 < p) (t : Nat) : ∃ c, upO q t k = some c := by
  cases e : upO q t k with
  | some c => exact ⟨c, rfl⟩
  | none =>
    have : t * 1 ≤ t * p := Nat.mul_le_mul_left _ hp
    have := upO_none e (t := t * p) (by omega)
    rw [per_mul h] at this
    cases this
theorem per_mod {q : Nat → Option Nat} {k p : Nat} (h : upO q p k = some k) (t : Nat) : upO q t k = upO q (t % p) k := by
  conv => lhs; rw [← Nat.div_add_mod t p, Nat.mul_comm, upO_add, per_mul h]
  rfl
theorem parO_set (pa : Nat → Nat → Dt) (l k : Nat) : parO (stS pa l (-1)) k = if k = l then none else parO pa k := by
  unfold parO
  rw [stS_at]
  split
  · rfl
  · rfl
theorem up_cut {pa : Nat → Nat → Dt} {l : Nat} : ∀ m k, upO (parO pa) m k = some l → ∃ t, upO (parO (stS pa l (-1))) t k = none
  | 0, k, h => by
    cases h
    exact ⟨1, by show parO _ _ = none; rw [parO_set, if_pos rfl]⟩
  | m + 1, k, h => by
    by_cases hk : k = l
    · subst hk
      exact ⟨1, by show parO _ _ = none; rw [parO_set, if_pos rfl]⟩
    · rw [upO_one] at h
      obtain ⟨c, h1, h2⟩ := Option.bind_eq_some_iff.1 h
      obtain ⟨t, ht⟩ := up_cut m c h2
      refine ⟨t + 1, ?_⟩
      rw [upO_one, parO_set, if_neg hk, h1]
      exact ht
theorem up_same {pa : Nat → Nat → Dt} {l k : Nat} (h : ∀ t, upO (parO pa) t k ≠ some l) : ∀ t, upO (parO (stS pa l (-1))) t k = upO (parO pa) t k
  | 0 => rfl
  | t + 1 => by
    show (upO (parO (stS pa l (-1))) t k).bind _ = (upO (parO pa) t k).bind _
    rw [up_same h t]
    cases e : upO (parO pa) t k with
    | none => rfl
    | some c =>
      show parO _ c = parO _ c
      rw [parO_set, if_neg fun z => h t (by rw [e, z])]
structure CInv (n : Nat) (q0 : Nat → Option Nat) (pa st : Nat → Nat → Dt) : Prop where
  hpa : paB n pa = true
  hst : ∀ k, k < n → (st k 0).n = 0 ∨ (st k 0).n = 2
  hcl : ∀ k, k < n → (st k 0).n = 2 → ∀ c, parO pa k = some c → (st c 0).n = 2
  hen : ∀ k, k < n → (st k 0).n = 2 → ∃ t, upO (parO pa) t k = none
  hcut : ∀ k, k < n → parO pa k = q0 k ∨ (parO pa k = none ∧ (∃ t, upO q0 (t + 1) k = some k) ∧ ∀ s j, upO q0 s k = some j → k ≤ j)
theorem up_lt {n : Nat} {pa : Nat → Nat → Dt} (hp : paB n pa = true) {k : Nat} (hk : k < n) : ∀ t c, upO (parO pa) t k = some c → c < n
  | 0, c, h => by cases h; exact hk
  | t + 1, c, h => by
    obtain ⟨b, h1, h2⟩ := Option.bind_eq_some_iff.1 h
    exact parO_lt hp (up_lt hp hk t b h1) h2
theorem known_up {n : Nat} {q0 : Nat → Option Nat} {pa st : Nat → Nat → Dt} (h : CInv n q0 pa st) {k : Nat} (hk : k < n) (hs : (st k 0).n = 2) : ∀ t c, upO (parO pa) t k = some c → (st c 0).n = 2
  | 0, c, e => by cases e; exact hs
  | t + 1, c, e => by
    obtain ⟨b, h1, h2⟩ := Option.bind_eq_some_iff.1 e
    exact h.hcl b (up_lt h.hpa hk t b h1) (known_up h hk hs t b h1) c h2
set_option maxRecDepth 20000 in
theorem ctS_ok {n : Nat} {q0 : Nat → Option Nat} {pa st : Nat → Nat → Dt} (h : CInv n q0 pa st) {i : Nat} (hi : i < n) : ∃ pa' st', ctS n pa st i = some (pa', st') ∧ CInv n q0 pa' st' ∧ (st' i 0).n = 2 ∧ ∀ k, k < n → (st k 0).n = 2 → (st' k 0).n = 2 := by
  obtain ⟨r, h1⟩ := tr_trail h.hpa (u := 0) (v := 1) (by decide) st (a := (i : Int)) (by omega)
  obtain ⟨r2, h2⟩ := tr_trail h.hpa (u := 1) (v := 2) (by decide) (tr 0 1 n pa st i).1 (a := (i : Int)) (by omega)
  unfold ctS
  generalize (tr 0 1 n pa st i).1 = st1 at *
  generalize (tr 0 1 n pa st i).2 = b at *
  generalize (tr 1 2 n pa st1 i).1 = st2 at *
  generalize (tr 1 2 n pa st1 i).2 = b2 at *
  have hT : ∀ k, k < n → (st1 k 0).n = 1 → ∃ t, t < r ∧ upI pa t i = some k := by
    intro k hk e
    by_cases hx : ∃ t, t < r ∧ upI pa t i = some k
    · exact hx
    · have := h1.off k fun t t1 t2 => hx ⟨t, t1, t2⟩
      have := h.hst k hk
      omega
  have hr : r ≤ r2 := by
    by_cases hx : r ≤ r2
    · exact hx
    · exfalso
      obtain ⟨k, k1, k2, k3⟩ := h1.on r2 (by omega)
      have hb2 := oi_some (h2.stop.trans k2)
      refine h2.no ⟨by omega, ?_⟩
      rw [hb2, Int.toNat_natCast, h2.off k fun t t1 t2 => h1.ne t r2 t1 (by omega) (t2.trans k2.symm)]
      exact h1.hit r2 k (by omega) k2
  have hon : ∀ k t, t < r → upI pa t i = some k → (st2 k 0).n = 2 := fun k t ht hk => h2.hit t k (by omega) hk
  have hoff : ∀ k, k < n → (∀ t, t < r → upI pa t i ≠ some k) → (st2 k 0).n = (st k 0).n := by
    intro k hk hx
    rw [h2.off k fun t t1 t2 => ?_, h1.off k hx]
    obtain ⟨k', k1, k2, k3⟩ := h2.on t t1
    rw [t2] at k2
    obtain rfl := Option.some.inj k2
    obtain ⟨t', t1', t2'⟩ := hT k hk k3
    exact hx t' t1' t2'
  have hst2 : ∀ k, k < n → (st2 k 0).n = 2 ∨ ((st2 k 0).n = (st k 0).n ∧ ∀ t, t < r → upI pa t i ≠ some k) := by
    intro k hk
    by_cases hx : ∃ t, t < r ∧ upI pa t i = some k
    · obtain ⟨t, t1, t2⟩ := hx
      exact .inl (hon k t t1 t2)
    · exact .inr ⟨hoff k hk fun t t1 t2 => hx ⟨t, t1, t2⟩, fun t t1 t2 => hx ⟨t, t1, t2⟩⟩
  have hkeep : ∀ k, k < n → (st k 0).n = 2 → (st2 k 0).n = 2 := by
    intro k hk e
    rcases hst2 k hk with h3 | ⟨h3, _⟩ <;> omega
  have hgood : ∀ k, k < n → (st2 k 0).n = 0 ∨ (st2 k 0).n = 2 := by
    intro k hk
    have := h.hst k hk
    rcases hst2 k hk with h3 | ⟨h3, _⟩ <;> omega
  have hi2 : (st2 i 0).n = 2 := by
    have hu0 : upI pa 0 (i : Int) = some i := by rw [upI_nat]; rfl
    cases r with
    | succ r => exact hon i 0 (by omega) hu0
    | zero =>
      have hb : b = (i : Int) := oi_some (h1.stop.trans hu0)
      have h3 := h1.no
      rw [hb, Int.toNat_natCast, h1.off i fun t ht => by omega] at h3
      have := h.hst i hi
      exact hkeep i hi (by
        rcases this with h4 | h4
        · exact absurd ⟨by omega, h4⟩ h3
        · exact h4)
  have hnext : ∀ t k, upI pa t (i : Int) = some k → ∀ c, parO pa k = some c → upI pa (t + 1) (i : Int) = some c := by
    intro t k hk c hc
    rw [upI_nat] at hk ⊢
    show (upO (parO pa) t i).bind (parO pa) = _
    rw [hk]; exact hc
  have hup : ∀ t k, t ≤ r → upI pa t (i : Int) = some k → upO (parO pa) (r - t) k = oi b := by
    intro t k ht hk
    rw [upI_nat] at hk
    rw [h1.stop, upI_nat]
    have := upO_add (parO pa) t (r - t) i
    rw [hk, show t + (r - t) = r by omega] at this
    exact this.symm
  by_cases hb : 0 ≤ b ∧ (st1 b.toNat 0).n = 1
  · rw [if_pos hb]
    obtain ⟨hb0, hb1⟩ := hb
    have hblt := h1.lt
    have hbs := h1.stop
    obtain ⟨b, rfl⟩ : ∃ k : Nat, b = (k : Int) := ⟨b.toNat, by omega⟩
    rw [Int.toNat_natCast] at hb1
    rw [oi_nat] at hbs
    obtain ⟨s, hs1, hs2⟩ := hT b (by omega) hb1
    have hbi : ∀ t, upI pa (s + t) i = upO (parO pa) t b := by
      intro t
      rw [upI_nat, upO_add, ← upI_nat, hs2]
      rfl
    have hper : upO (parO pa) (r - s) b = some b := by
      rw [← hbi, show s + (r - s) = r by omega, ← hbs]
    have hne : ∀ t, 0 < t → t < r - s → upO (parO pa) t b ≠ some b := by
      intro t t0 t1 e
      rw [← hbi] at e
      exact h1.ne s (s + t) (by omega) (by omega) (hs2.trans e.symm)
    have hrn : r ≤ n := by
      have hl : ((List.range r).map fun t => (upI pa t (i : Int)).getD 0).Nodup := by
        rw [List.nodup_iff_pairwise_ne, List.pairwise_map]
        refine List.Pairwise.imp_of_mem ?_ (List.pairwise_lt_range (n := r))
        intro x y hx hy hxy e
        rw [List.mem_range] at hx hy
        obtain ⟨u, _, hu, _⟩ := h1.on x hx
        obtain ⟨v, _, hv, _⟩ := h1.on y hy
        rw [hu, hv] at e
        simp only [Option.getD_some] at e
        exact h1.ne x y hxy hy (by rw [hu, hv, e])
      have := nodup_le n _ hl (by
        intro j hj
        rw [List.mem_map] at hj
        obtain ⟨t, ht, rfl⟩ := hj
        rw [List.mem_range] at ht
        obtain ⟨u, hu1, hu2, _⟩ := h1.on t ht
        rw [hu2]
        exact hu1)
      rw [List.length_map, List.length_range] at this
      exact this
    obtain ⟨l', l1, l2, l3, l4⟩ := mnF_ok hper hne n 1 (b : Int) (by omega) (by omega) (by omega) (pa b 0).n (by rw [upO_one]; show parO pa b = (parO pa b).bind (upO (parO pa) 0); cases parO pa b <;> rfl)
    have hlk : ∃ lk s', s' < r - s ∧ upO (parO pa) s' b = some lk ∧ l' = (lk : Int) := by
      rcases l3 with l3 | ⟨s', s1, s2, s3⟩
      · exact ⟨b, 0, by omega, rfl, l3⟩
      · obtain ⟨c, hc⟩ := per_some hper (by omega) s'
        exact ⟨c, s', s2, hc, oi_some (s3.trans hc)⟩
    obtain ⟨lk, s', s1, s2, rfl⟩ := hlk
    rw [Int.toNat_natCast, l1]
    simp only
    rw [if_pos (by omega), Int.toNat_natCast]
    have hlt : lk < n := up_lt h.hpa (by omega) s' lk s2
    have hlT : upI pa (s + s') i = some lk := by rw [hbi]; exact s2
    have hl0 : (st lk 0).n = 0 := by
      obtain ⟨k, k1, k2, k3⟩ := h1.on (s + s') (by omega)
      rw [hlT] at k2
      obtain rfl := Option.some.inj k2
      exact k3
    refine ⟨_, _, rfl, ⟨paB_set h.hpa lk, hgood, fun k hk e c hc => ?_, fun k hk e => ?_, fun k hk => ?_⟩, hi2, hkeep⟩
    · rw [parO_set] at hc
      split at hc
      · cases hc
      have hcn := parO_lt h.hpa hk hc
      by_cases hx : ∃ t, t < r ∧ upI pa t i = some k
      · obtain ⟨t, t1, t2⟩ := hx
        have h3 := hnext t k t2 c hc
        by_cases ht : t + 1 < r
        · exact hon c (t + 1) ht h3
        · rw [show t + 1 = r by omega, ← hbs] at h3
          obtain rfl := Option.some.inj h3
          exact hon b s hs1 hs2
      · have h3 := hoff k hk fun t t1 t2 => hx ⟨t, t1, t2⟩
        exact hkeep c hcn (h.hcl k hk (by omega) c hc)
    · by_cases hx : ∃ t, t < r ∧ upI pa t i = some k
      · obtain ⟨t, t1, t2⟩ := hx
        refine up_cut (r - t + s') k ?_
        rw [upO_add, hup t k (by omega) t2, oi_nat]
        exact s2
      · have h3 := hoff k hk fun t t1 t2 => hx ⟨t, t1, t2⟩
        obtain ⟨t, ht⟩ := h.hen k hk (by omega)
        refine ⟨t, ?_⟩
        rw [up_same fun t' e' => ?_]
        · exact ht
        · have := known_up h hk (by omega) t' lk e'
          omega
    · rw [parO_set]
      by_cases e : k = lk
      · subst e
        rw [if_pos rfl]
        have hpos : 0 < r - s := Nat.sub_pos_of_lt hs1
        have hp2 : ∀ t, upO (parO pa) t k = upO (parO pa) ((s' + t) % (r - s)) b := by
          intro t
          rw [← per_mod hper, upO_add, s2]
          rfl
        have hpk : upO (parO pa) (r - s) k = some k := by
          rw [hp2, Nat.add_mod_right, Nat.mod_eq_of_lt s1, s2]
        have hq : ∀ t, upO q0 t k = upO (parO pa) t k := by
          intro t
          induction t with
          | zero => rfl
          | succ t ih =>
            show (upO q0 t k).bind q0 = (upO (parO pa) t k).bind (parO pa)
            rw [ih]
            obtain ⟨c, hc⟩ := per_some hpk (by omega) t
            obtain ⟨d, hd⟩ := per_some hpk (by omega) (t + 1)
            rw [hc]
            have hd : parO pa c = some d := by
              have : upO (parO pa) (t + 1) k = (upO (parO pa) t k).bind (parO pa) := rfl
              rw [hd, hc] at this
              exact this.symm
            show q0 c = parO pa c
            rcases h.hcut c (up_lt h.hpa hk t c hc) with h3 | ⟨h3, _⟩
            · exact h3.symm
            · rw [hd] at h3; cases h3
        refine .inr ⟨rfl, ⟨r - s - 1, by rw [hq, Nat.sub_add_cancel hpos]; exact hpk⟩, fun t j hj => ?_⟩
        rw [hq, hp2] at hj
        have hm : (s' + t) % (r - s) < r - s := Nat.mod_lt _ (by omega)
        by_cases h0 : (s' + t) % (r - s) = 0
        · rw [h0] at hj
          cases hj
          omega
        · have := l4 _ j (by omega) hm hj
          omega
      · rw [if_neg e]
        exact h.hcut k hk
  · rw [if_neg hb]
    have hT2 : ∀ c, c < n → oi b = some c → (st c 0).n = 2 := by
      intro c hc e
      have e2 := oi_some e
      subst e2
      have h3 := h1.no
      rw [Int.toNat_natCast] at h3 hb
      have h4 := h1.off c fun t t1 t2 => hb ⟨by omega, h1.hit t c t1 t2⟩
      have := h.hst c hc
      rcases this with h5 | h5
      · exact absurd ⟨by omega, by omega⟩ h3
      · exact h5
    refine ⟨pa, st2, by simp, ⟨h.hpa, hgood, fun k hk e c hc => ?_, fun k hk e => ?_, h.hcut⟩, hi2, hkeep⟩
    · have hcn := parO_lt h.hpa hk hc
      by_cases hx : ∃ t, t < r ∧ upI pa t i = some k
      · obtain ⟨t, t1, t2⟩ := hx
        have h3 := hnext t k t2 c hc
        by_cases ht : t + 1 < r
        · exact hon c (t + 1) ht h3
        · rw [show t + 1 = r by omega, ← h1.stop] at h3
          exact hkeep c hcn (hT2 c hcn h3)
      · have h3 := hoff k hk fun t t1 t2 => hx ⟨t, t1, t2⟩
        exact hkeep c hcn (h.hcl k hk (by omega) c hc)
    · by_cases hx : ∃ t, t < r ∧ upI pa t i = some k
      · obtain ⟨t, t1, t2⟩ := hx
        have h3 := hup t k (by omega) t2
        cases e2 : oi b with
        | none => exact ⟨r - t, by rw [h3, e2]⟩
        | some c =>
          rw [e2] at h3
          have hcn := up_lt h.hpa hk _ _ h3
          obtain ⟨t', ht'⟩ := h.hen c hcn (hT2 c hcn e2)
          refine ⟨r - t + t', ?_⟩
          rw [upO_add, h3]
          exact ht'
      · have h3 := hoff k hk fun t t1 t2 => hx ⟨t, t1, t2⟩
        exact h.hen k hk (by omega)
open Go.Evl Go.RowKit
set_option maxRecDepth 20000 in
theorem ctO_ok {n : Nat} {q0 : Nat → Option Nat} : ∀ (f i : Nat) (pa st : Nat → Nat → Dt), i + f = n → CInv n q0 pa st → (∀ k, k < i → (st k 0).n = 2) → ∃ pa' st', ctO n f i pa st = some (pa', st') ∧ CInv n q0 pa' st' ∧ ∀ k, k < n → (st' k 0).n = 2
  | 0, i, pa, st, hi, h, hs => ⟨pa, st, rfl, h, fun k hk => hs k (by omega)⟩
  | f + 1, i, pa, st, hi, h, hs => by
    obtain ⟨pa1, st1, e1, h1, h2, h3⟩ := ctS_ok h (show i < n by omega)
    obtain ⟨pa2, st2, e2, h4, h5⟩ := ctO_ok f (i + 1) pa1 st1 (by omega) h1 fun k hk => by
      by_cases e : k = i
      · subst e; exact h2
      · exact h3 k (by omega) (hs k (by omega))
    refine ⟨pa2, st2, ?_, h4, h5⟩
    simp only [ctO, e1]
    exact e2
theorem cut_all {n : Nat} {pa : Nat → Nat → Dt} (hp : paB n pa = true) : ∃ pc st, ctO n n 0 pa zeroEl = some (pc, st) ∧ paB n pc = true ∧ (∀ k, k < n → ∃ t, upO (parO pc) t k = none) ∧ ∀ k, k < n → parO pc k = parO pa k ∨ (parO pc k = none ∧ (∃ t, upO (parO pa) (t + 1) k = some k) ∧ ∀ s j, upO (parO pa) s k = some j → k ≤ j) := by
  obtain ⟨pc, st, e, h, h2⟩ := ctO_ok (q0 := parO pa) n 0 pa zeroEl (by omega) ⟨hp, fun k _ => .inl rfl, fun k _ e => absurd (show (0 : Int) = 2 from e) (by decide), fun k _ e => absurd (show (0 : Int) = 2 from e) (by decide), fun k _ => .inl rfl⟩ fun k hk => by omega
  exact ⟨pc, st, e, h.hpa, fun k hk => h.hen k hk (h2 k hk), h.hcut⟩
open Go.Evl Go.RowKit
def bfL (ks ki : Int → Int) (a b : Int) : Prop := ks a < ks b ∨ (ks a = ks b ∧ ki a < ki b)
def sinkG (lt : Int → Int → Bool) : Nat → (Nat → Int) → (Nat → Int)
  | 0, v => v
  | j + 1, v => if lt (v (j + 1)) (v j) then sinkG lt j (fun i => if i = j then v (j + 1) else if i = j + 1 then v j else v i) else v
def isG (lt : Int → Int → Bool) : Nat → Nat → (Nat → Int) → (Nat → Int)
  | 0, _, v => v
  | k + 1, i, v => isG lt k (i + 1) (sinkG lt i v)
def liG (n : Nat) (v : Nat → Int) : List Int := (List.range n).map v
theorem liG_succ (n : Nat) (v : Nat → Int) : liG (n + 1) v = liG n v ++ [v n] := by simp [liG, List.range_succ]
theorem liG_congr {n : Nat} {x y : Nat → Int} (h : ∀ i, i < n → x i = y i) : liG n x = liG n y := List.map_congr_left fun i hi => h i (List.mem_range.1 hi)
theorem liG_swap (v : Nat → Int) {j n : Nat} (h : j + 1 < n) : (liG n (fun i => if i = j then v (j + 1) else if i = j + 1 then v j else v i)).Perm (liG n v) := by
  obtain ⟨d, rfl⟩ : ∃ d, n = j + 2 + d := ⟨n - j - 2, by omega⟩
  induction d with
  | zero =>
    show (liG (j + 1 + 1) _).Perm (liG (j + 1 + 1) _)
    rw [liG_succ, liG_succ, liG_succ, liG_succ]
    rw [liG_congr (x := fun i => if i = j then v (j + 1) else if i = j + 1 then v j else v i) (y := v) fun i hi => by rw [if_neg (by omega), if_neg (by omega)]]
    simp only [if_true, Nat.succ_ne_self, if_false, List.append_assoc]
    exact (List.Perm.swap _ _ _).append_left _
  | succ d ih =>
    rw [show j + 2 + (d + 1) = j + 2 + d + 1 by omega, liG_succ, liG_succ]
    rw [show (if j + 2 + d = j then v (j + 1) else if j + 2 + d = j + 1 then v j else v (j + 2 + d)) = v (j + 2 + d) by rw [if_neg (by omega), if_neg (by omega)]]
    exact (ih (by omega)).append_right _
set_option maxRecDepth 20000 in
theorem sinkG_ok {ks ki : Int → Int} {lt : Int → Int → Bool} (hlt : ∀ a b, lt a b = true ↔ bfL ks ki a b) {m : Nat} : ∀ (j : Nat) (v : Nat → Int), j < m → (∀ a b, a < b → b < m → a ≠ j → b ≠ j → ¬ bfL ks ki (v b) (v a)) → (∀ b, j < b → b < m → ¬ bfL ks ki (v b) (v j)) →
    (∀ a b, a < b → b < m → ¬ bfL ks ki (sinkG lt j v b) (sinkG lt j v a)) ∧ (∀ n, m ≤ n → (liG n (sinkG lt j v)).Perm (liG n v)) ∧ ∀ i, m ≤ i → sinkG lt j v i = v i
  | 0, v, hj, h1, h2 => by
    refine ⟨fun a b hab hb => ?_, fun n _ => List.Perm.refl _, fun i _ => rfl⟩
    simp only [sinkG]
    by_cases e : a = 0
    · subst e; exact h2 b hab hb
    · exact h1 a b hab hb e (by omega)
  | j + 1, v, hj, h1, h2 => by
    simp only [sinkG]
    by_cases hl : lt (v (j + 1)) (v j) = true
    · rw [if_pos hl]
      have hlx := (hlt _ _).1 hl
      obtain ⟨g1, g2, g3⟩ := sinkG_ok hlt (m := m) j (fun i => if i = j then v (j + 1) else if i = j + 1 then v j else v i) (by omega) (fun a b hab hb na nb => by
        rw [if_neg nb, if_neg na]
        by_cases e1 : b = j + 1
        · rw [if_pos e1, if_neg (by omega)]
          exact h1 a j (by omega) (by omega) (by omega) (by omega)
        · rw [if_neg e1]
          by_cases e2 : a = j + 1
          · rw [if_pos e2]
            exact h1 j b (by omega) hb (by omega) (by omega)
          · rw [if_neg e2]
            exact h1 a b hab hb e2 e1) (fun b hjb hb => by
        rw [if_neg (by omega), if_pos rfl]
        by_cases e1 : b = j + 1
        · rw [if_pos e1]
          unfold bfL at hlx ⊢
          omega
        · rw [if_neg e1]
          exact h2 b (by omega) hb)
      refine ⟨g1, fun n hn => (g2 n hn).trans (liG_swap v (by omega)), fun i hi => ?_⟩
      rw [g3 i hi, if_neg (by omega), if_neg (by omega)]
    · rw [if_neg hl]
      have hlx : ¬ bfL ks ki (v (j + 1)) (v j) := fun h => hl ((hlt _ _).2 h)
      refine ⟨fun a b hab hb => ?_, fun n _ => List.Perm.refl _, fun i _ => rfl⟩
      by_cases e1 : a = j + 1
      · subst e1; exact h2 b hab hb
      · by_cases e2 : b = j + 1
        · subst e2
          by_cases e3 : a = j
          · subst e3; exact hlx
          · have := h1 a j (by omega) (by omega) (by omega) (by omega)
            unfold bfL at hlx this ⊢
            omega
        · exact h1 a b hab hb e1 e2
set_option maxRecDepth 20000 in
theorem isG_ok {ks ki : Int → Int} {lt : Int → Int → Bool} (hlt : ∀ a b, lt a b = true ↔ bfL ks ki a b) {n : Nat} : ∀ (k i : Nat) (v : Nat → Int), 0 < i → i + k = n → (∀ a b, a < b → b < i → ¬ bfL ks ki (v b) (v a)) →
    (∀ a b, a < b → b < n → ¬ bfL ks ki (isG lt k i v b) (isG lt k i v a)) ∧ (liG n (isG lt k i v)).Perm (liG n v)
  | 0, i, v, _, hn, h => by
    obtain rfl : i = n := by omega
    exact ⟨h, List.Perm.refl _⟩
  | k + 1, i, v, hi, hn, h => by
    obtain ⟨g1, g2, _⟩ := sinkG_ok hlt (m := i + 1) i v (Nat.lt_succ_self i) (fun a b hab hb _ nb => h a b hab (by omega)) (fun b h1 h2 => by omega)
    obtain ⟨f1, f2⟩ := isG_ok hlt (n := n) k (i + 1) (sinkG lt i v) (Nat.succ_pos i) (by omega) g1
    exact ⟨f1, f2.trans (g2 n (by omega))⟩
def swI (o : Nat → Nat → Dt) (a b : Nat) : Nat → Nat → Dt := setEl (setEl o a 0 [.int (o b 0).n]) b 0 [.int (o a 0).n]
theorem swI_at (o : Nat → Nat → Dt) (a b k : Nat) : (swI o a b k 0).n = if k = b then (o a 0).n else if k = a then (o b 0).n else (o k 0).n := by
  show (stS (stS o a (o b 0).n) b (o a 0).n k 0).n = _
  rw [stS_at, stS_at]
def sinkI (lt : Int → Int → Bool) : Nat → (Nat → Nat → Dt) → (Nat → Nat → Dt) × Nat
  | 0, o => (o, 0)
  | j + 1, o => if lt (o (j + 1) 0).n (o j 0).n then sinkI lt j (swI o (j + 1) j) else (o, j + 1)
def isI (lt : Int → Int → Bool) : Nat → Nat → (Nat → Nat → Dt) → (Nat → Nat → Dt)
  | 0, _, o => o
  | k + 1, i, o => isI lt k (i + 1) (sinkI lt i o).1
theorem sinkI_G (lt : Int → Int → Bool) : ∀ (j : Nat) (o : Nat → Nat → Dt), (fun k => ((sinkI lt j o).1 k 0).n) = sinkG lt j fun k => (o k 0).n
  | 0, o => rfl
  | j + 1, o => by
    simp only [sinkI, sinkG]
    by_cases h : lt (o (j + 1) 0).n (o j 0).n = true
    · rw [if_pos h, if_pos h, sinkI_G lt j]
      congr 1
      funext k
      exact swI_at o (j + 1) j k
    · rw [if_neg h, if_neg h]
theorem isI_G (lt : Int → Int → Bool) : ∀ (k i : Nat) (o : Nat → Nat → Dt), (fun q => (isI lt k i o q 0).n) = isG lt k i fun q => (o q 0).n
  | 0, _, _ => rfl
  | k + 1, i, o => by
    simp only [isI, isG]
    rw [isI_G lt k, sinkI_G]
open Go.Evl Go.RowKit
noncomputable abbrev cP0 {β : Type} : CallK β := callK Tryz.prog (spOf []) (inlOf [134]) extD attD uD 20
structure S78a where
  c : Nat
  mf : Ky → Option Dt
  n : Nat
  pa : Nat → Nat → Dt
  m : Nat
  st : Nat → Nat → Dt
  v : Nat
  u : Nat
  i : Int
  a : Int
  l : Int
  x : Int
abbrev keep78a : List Nat := [0, 2, 3, 4, 11, 12]
abbrev vs78a (s : S78a) : List AV := [.own 1 k0 s.v, .own 2 k0 s.u, .int .i64 s.i, .int .i64 s.a, .int .i64 s.l, .int .i64 s.x]
abbrev hp78a (s : S78a) : List Ob := [.mapF (.int .i64) s.c (.dat (.int .i64) s.mf), .own 3 [.int .i64] s.n s.pa, .own 3 [.int .i64] s.m s.st]
def dec78a : List AV → List Ob → Option S78a
  | [.own 1 (.int 0) v, .own 2 (.int 0) u, .int .i64 i, .int .i64 a, .int .i64 l, .int .i64 x], [.mapF (.int .i64) c (.dat (.int .i64) mf), .own 3 [.int .i64] n pa, .own 3 [.int .i64] m st] => some ⟨c, mf, n, pa, m, st, v, u, i, a, l, x⟩
  | _, _ => none
def dom78a (s : S78a) : Bool := Nat.beq s.m s.n && (Nat.beq s.v s.n && (Nat.beq s.u s.n && (Nat.ble s.n 1000 && (decide (s.a < (s.n : Int)) && paB s.n s.pa))))
def fin78a (s : S78a) : Tr (Ex × List AV × List Ob) := .leaf (.exit 2, [.own 1 k0 s.v, .own 2 k0 s.u, .int .i64 s.i, .int .i64 (tr 0 1 s.n s.pa s.st s.a).2, .int .i64 s.l, .int .i64 s.x], [.mapF (.int .i64) s.c (.dat (.int .i64) s.mf), .own 3 [.int .i64] s.n (s.pa), .own 3 [.int .i64] s.m (tr 0 1 s.n s.pa s.st s.a |>.1)])
structure S78b where
  c : Nat
  mf : Ky → Option Dt
  n : Nat
  pa : Nat → Nat → Dt
  m : Nat
  st : Nat → Nat → Dt
  v : Nat
  u : Nat
  i : Int
  a : Int
  e : Int
  y : Int
  l : Int
  x : Int
abbrev keep78b : List Nat := [0, 2, 3, 4, 5, 6, 11, 12]
abbrev vs78b (s : S78b) : List AV := [.own 1 k0 s.v, .own 2 k0 s.u, .int .i64 s.i, .int .i64 s.a, .int .i64 s.e, .int .i64 s.y, .int .i64 s.l, .int .i64 s.x]
abbrev hp78b (s : S78b) : List Ob := [.mapF (.int .i64) s.c (.dat (.int .i64) s.mf), .own 3 [.int .i64] s.n s.pa, .own 3 [.int .i64] s.m s.st]
def dec78b : List AV → List Ob → Option S78b
  | [.own 1 (.int 0) v, .own 2 (.int 0) u, .int .i64 i, .int .i64 a, .int .i64 e, .int .i64 y, .int .i64 l, .int .i64 x], [.mapF (.int .i64) c (.dat (.int .i64) mf), .own 3 [.int .i64] n pa, .own 3 [.int .i64] m st] => some ⟨c, mf, n, pa, m, st, v, u, i, a, e, y, l, x⟩
  | _, _ => none
def dom78b (s : S78b) : Bool := Nat.beq s.m s.n && (Nat.beq s.v s.n && (Nat.beq s.u s.n && (Nat.ble s.n 1000 && (decide (s.y < (s.n : Int)) && (paB s.n s.pa && (mnF s.pa s.a s.n s.e s.y).isSome)))))
def fin78b (s : S78b) : Tr (Ex × List AV × List Ob) := .leaf (.exit 4, [.own 1 k0 s.v, .own 2 k0 s.u, .int .i64 s.i, .int .i64 s.a, .int .i64 ((mnF s.pa s.a s.n s.e s.y).getD 0), .int .i64 s.a, .int .i64 s.l, .int .i64 s.x], [.mapF (.int .i64) s.c (.dat (.int .i64) s.mf), .own 3 [.int .i64] s.n (s.pa), .own 3 [.int .i64] s.m (s.st)])
structure S78c where
  c : Nat
  mf : Ky → Option Dt
  n : Nat
  pa : Nat → Nat → Dt
  m : Nat
  st : Nat → Nat → Dt
  v : Nat
  u : Nat
  i : Int
  a : Int
  e : Int
  l : Int
  x : Int
abbrev keep78c : List Nat := [0, 2, 3, 4, 5, 11, 12]
abbrev vs78c (s : S78c) : List AV := [.own 1 k0 s.v, .own 2 k0 s.u, .int .i64 s.i, .int .i64 s.a, .int .i64 s.e, .int .i64 s.l, .int .i64 s.x]
abbrev hp78c (s : S78c) : List Ob := [.mapF (.int .i64) s.c (.dat (.int .i64) s.mf), .own 3 [.int .i64] s.n s.pa, .own 3 [.int .i64] s.m s.st]
def dec78c : List AV → List Ob → Option S78c
  | [.own 1 (.int 0) v, .own 2 (.int 0) u, .int .i64 i, .int .i64 a, .int .i64 e, .int .i64 l, .int .i64 x], [.mapF (.int .i64) c (.dat (.int .i64) mf), .own 3 [.int .i64] n pa, .own 3 [.int .i64] m st] => some ⟨c, mf, n, pa, m, st, v, u, i, a, e, l, x⟩
  | _, _ => none
def dom78c (s : S78c) : Bool := Nat.beq s.m s.n && (Nat.beq s.v s.n && (Nat.beq s.u s.n && (Nat.ble s.n 1000 && (decide (s.a < (s.n : Int)) && paB s.n s.pa))))
def fin78c (s : S78c) : Tr (Ex × List AV × List Ob) := .leaf (.exit 6, [.own 1 k0 s.v, .own 2 k0 s.u, .int .i64 s.i, .int .i64 (tr 1 2 s.n s.pa s.st s.a).2, .int .i64 s.e, .int .i64 s.l, .int .i64 s.x], [.mapF (.int .i64) s.c (.dat (.int .i64) s.mf), .own 3 [.int .i64] s.n (s.pa), .own 3 [.int .i64] s.m (tr 1 2 s.n s.pa s.st s.a |>.1)])
structure S78 where
  c : Nat
  mf : Ky → Option Dt
  n : Nat
  pa : Nat → Nat → Dt
  m : Nat
  st : Nat → Nat → Dt
  v : Nat
  u : Nat
  l : Int
  x : Int
abbrev keep78 : List Nat := [0, 2, 11, 12]
abbrev vs78 (s : S78) : List AV := [.own 1 k0 s.v, .own 2 k0 s.u, .int .i64 s.l, .int .i64 s.x]
abbrev hp78 (s : S78) : List Ob := [.mapF (.int .i64) s.c (.dat (.int .i64) s.mf), .own 3 [.int .i64] s.n s.pa, .own 3 [.int .i64] s.m s.st]
def dec78 : List AV → List Ob → Option S78
  | [.own 1 (.int 0) v, .own 2 (.int 0) u, .int .i64 l, .int .i64 x], [.mapF (.int .i64) c (.dat (.int .i64) mf), .own 3 [.int .i64] n pa, .own 3 [.int .i64] m st] => some ⟨c, mf, n, pa, m, st, v, u, l, x⟩
  | _, _ => none
def dom78 (s : S78) : Bool := Nat.beq s.m s.n && (Nat.beq s.v s.n && (Nat.beq s.u s.n && (Nat.ble s.n 1000 && (decide (0 ≤ s.x) && (decide (s.x ≤ (s.n : Int)) && (decide (s.l = (s.n : Int)) && (paB s.n s.pa && (ctO s.n (s.n - s.x.toNat) s.x.toNat s.pa s.st).isSome)))))))
def fin78 (s : S78) : Tr (Ex × List AV × List Ob) := .leaf (.exit 0, [.own 1 k0 s.v, .own 2 k0 s.u, .int .i64 s.l, .int .i64 (s.n : Int)], [.mapF (.int .i64) s.c (.dat (.int .i64) s.mf), .own 3 [.int .i64] s.n ((ctO s.n (s.n - s.x.toNat) s.x.toNat s.pa s.st).getD (s.pa, s.st) |>.1), .own 3 [.int .i64] s.m ((ctO s.n (s.n - s.x.toNat) s.x.toNat s.pa s.st).getD (s.pa, s.st) |>.2)])
abbrev lp78 (i : Nat) : LT := bif Nat.beq i 2 then .sum keep78a (stF dec78a dom78a fin78a) else bif Nat.beq i 4 then .sum keep78b (stF dec78b dom78b fin78b) else bif Nat.beq i 6 then .sum keep78c (stF dec78c dom78c fin78c) else .sum keep78 (stF dec78 dom78 fin78)
open Go.Evl Go.RowKit
def rnd78a (c : Nat) (mf : Ky → Option Dt) (n : Nat) (pa st : Nat → Nat → Dt) (i a l x : Int) : Option (Ex × List AV × List Ob) := bif decide (a ≥ 0) then bif decide (0 ≤ a) && decide (a < (n : Int)) then bif n.beq n then bif n.beq n && a.toNat.blt n then bif (st a.toNat 0).n == 0 then bif decide (0 ≤ a) && decide (a < (n : Int)) then bif n.beq n then bif n.beq n && a.toNat.blt n then bif decide (0 ≤ a) && decide (a < (n : Int)) then bif n.beq n then bif n.beq n && a.toNat.blt n then some (.normal, [.own 1 k0 n, .own 2 k0 n, .int .i64 i, .int .i64 (pa a.toNat 0).n, .int .i64 l, .int .i64 x], [.mapF (.int .i64) c (.dat (.int .i64) mf), .own 3 [.int .i64] n pa, .own 3 [.int .i64] n (setEl st a.toNat 0 [.int 1])]) else none else none else none else none else none else none else some (.exit 2, [.own 1 k0 n, .own 2 k0 n, .int .i64 i, .int .i64 a, .int .i64 l, .int .i64 x], [.mapF (.int .i64) c (.dat (.int .i64) mf), .own 3 [.int .i64] n pa, .own 3 [.int .i64] n st]) else none else none else none else some (.exit 2, [.own 1 k0 n, .own 2 k0 n, .int .i64 i, .int .i64 a, .int .i64 l, .int .i64 x], [.mapF (.int .i64) c (.dat (.int .i64) mf), .own 3 [.int .i64] n pa, .own 3 [.int .i64] n st])
theorem loop78a (c : Nat) (mf : Ky → Option Dt) (n : Nat) (pa st : Nat → Nat → Dt) (i a l x : Int) : evC (β := Ex × List AV × List Ob) Tryz.prog (spOf []) (inlOf [134]) extD cP0 lp78 (bodyOf Tryz.prog 134 2) ⟨mkF Tryz.f134.ntmps keep78a [.own 1 k0 n, .own 2 k0 n, .int .i64 i, .int .i64 a, .int .i64 l, .int .i64 x], [.mapF (.int .i64) c (.dat (.int .i64) mf), .own 3 [.int .i64] n pa, .own 3 [.int .i64] n st]⟩ (fun e st => (cutBack keep78a 3 st).map fun q => (e, q.1, q.2)) = rnd78a c mf n pa st i a l x := by kernel_rfl
def rnd78b (c : Nat) (mf : Ky → Option Dt) (n : Nat) (pa st : Nat → Nat → Dt) (i a e y l x : Int) : Option (Ex × List AV × List Ob) := bif y != a then bif decide (0 ≤ y) && decide (y < (n : Int)) then bif n.beq n then bif n.beq n && y.toNat.blt n then some (.normal, [.own 1 k0 n, .own 2 k0 n, .int .i64 i, .int .i64 a, .int .i64 (bif decide (y < e) then y else e), .int .i64 (pa y.toNat 0).n, .int .i64 l, .int .i64 x], [.mapF (.int .i64) c (.dat (.int .i64) mf), .own 3 [.int .i64] n pa, .own 3 [.int .i64] n st]) else none else none else none else some (.exit 4, [.own 1 k0 n, .own 2 k0 n, .int .i64 i, .int .i64 a, .int .i64 e, .int .i64 y, .int .i64 l, .int .i64 x], [.mapF (.int .i64) c (.dat (.int .i64) mf), .own 3 [.int .i64] n pa, .own 3 [.int .i64] n st])
theorem loop78b (c : Nat) (mf : Ky → Option Dt) (n : Nat) (pa st : Nat → Nat → Dt) (i a e y l x : Int) : evC (β := Ex × List AV × List Ob) Tryz.prog (spOf []) (inlOf [134]) extD cP0 lp78 (bodyOf Tryz.prog 134 4) ⟨mkF Tryz.f134.ntmps keep78b [.own 1 k0 n, .own 2 k0 n, .int .i64 i, .int .i64 a, .int .i64 e, .int .i64 y, .int .i64 l, .int .i64 x], [.mapF (.int .i64) c (.dat (.int .i64) mf), .own 3 [.int .i64] n pa, .own 3 [.int .i64] n st]⟩ (fun e st => (cutBack keep78b 3 st).map fun q => (e, q.1, q.2)) = rnd78b c mf n pa st i a e y l x := by kernel_rfl
def rnd78c (c : Nat) (mf : Ky → Option Dt) (n : Nat) (pa st : Nat → Nat → Dt) (i a e l x : Int) : Option (Ex × List AV × List Ob) := bif decide (a ≥ 0) then bif decide (0 ≤ a) && decide (a < (n : Int)) then bif n.beq n then bif n.beq n && a.toNat.blt n then bif (st a.toNat 0).n == 1 then bif decide (0 ≤ a) && decide (a < (n : Int)) then bif n.beq n then bif n.beq n && a.toNat.blt n then bif decide (0 ≤ a) && decide (a < (n : Int)) then bif n.beq n then bif n.beq n && a.toNat.blt n then some (.normal, [.own 1 k0 n, .own 2 k0 n, .int .i64 i, .int .i64 (pa a.toNat 0).n, .int .i64 e, .int .i64 l, .int .i64 x], [.mapF (.int .i64) c (.dat (.int .i64) mf), .own 3 [.int .i64] n pa, .own 3 [.int .i64] n (setEl st a.toNat 0 [.int 2])]) else none else none else none else none else none else none else some (.exit 6, [.own 1 k0 n, .own 2 k0 n, .int .i64 i, .int .i64 a, .int .i64 e, .int .i64 l, .int .i64 x], [.mapF (.int .i64) c (.dat (.int .i64) mf), .own 3 [.int .i64] n pa, .own 3 [.int .i64] n st]) else none else none else none else some (.exit 6, [.own 1 k0 n, .own 2 k0 n, .int .i64 i, .int .i64 a, .int .i64 e, .int .i64 l, .int .i64 x], [.mapF (.int .i64) c (.dat (.int .i64) mf), .own 3 [.int .i64] n pa, .own 3 [.int .i64] n st])
theorem loop78c (c : Nat) (mf : Ky → Option Dt) (n : Nat) (pa st : Nat → Nat → Dt) (i a e l x : Int) : evC (β := Ex × List AV × List Ob) Tryz.prog (spOf []) (inlOf [134]) extD cP0 lp78 (bodyOf Tryz.prog 134 6) ⟨mkF Tryz.f134.ntmps keep78c [.own 1 k0 n, .own 2 k0 n, .int .i64 i, .int .i64 a, .int .i64 e, .int .i64 l, .int .i64 x], [.mapF (.int .i64) c (.dat (.int .i64) mf), .own 3 [.int .i64] n pa, .own 3 [.int .i64] n st]⟩ (fun e st => (cutBack keep78c 3 st).map fun q => (e, q.1, q.2)) = rnd78c c mf n pa st i a e l x := by kernel_rfl
set_option maxRecDepth 4000 in
theorem sum78a : LoopOkT Tryz.prog (spOf []) (inlOf [134]) extD cP0 lp78 Tryz.f134.ntmps (bodyOf Tryz.prog 134 2) (.sum keep78a (stF dec78a dom78a fin78a)) := by
  dsimp only [LoopOkT]
  refine ⟨by decide, by decide, ?_⟩
  refine sum_st dec78a dom78a fin78a vs78a hp78a (fun s => cnt s.st 0 s.n) (fun vs H s hs => ?_) (fun s R hd hR => ?_)
  · unfold dec78a at hs
    split at hs
    · obtain rfl := Option.some.inj hs
      exact ⟨rfl, rfl⟩
    · cases hs
  · obtain ⟨c, mf, n, pa, m, st, v, u, i, a, l, x⟩ := s
    simp only [dom78a, Bool.and_eq_true, decide_eq_true_eq, Nat.ble_eq, Nat.beq_eq] at hd
    obtain ⟨e1, e2, e3, h1, h2, h3⟩ := hd
    obtain rfl := e1.symm
    obtain rfl := e2.symm
    obtain rfl := e3.symm
    simp only [fin78a, Tr.run, Option.some.injEq] at hR
    subst hR
    have ht := loop78a c mf n pa st i a l x
    unfold rnd78a at ht
    by_cases ha : 0 ≤ a
    · obtain ⟨a, rfl⟩ : ∃ p : Nat, a = (p : Int) := ⟨a.toNat, by omega⟩
      rw [condT (decide_eq_true (by omega)), Int.toNat_natCast, condT (by simp only [Bool.and_eq_true, decide_eq_true_eq]; omega), condT (Nat.beq_refl n), condT (by simp only [Nat.beq_refl, Bool.true_and, Nat.blt_eq]; omega)] at ht
      by_cases hs : (st a 0).n = 0
      · rw [condT (by simpa using hs), condT (by simp only [Bool.and_eq_true, decide_eq_true_eq]; omega), condT (Nat.beq_refl n), condT (by simp only [Nat.beq_refl, Bool.true_and, Nat.blt_eq]; omega), condT (by simp only [Bool.and_eq_true, decide_eq_true_eq]; omega), condT (Nat.beq_refl n), condT (by simp only [Nat.beq_refl, Bool.true_and, Nat.blt_eq]; omega)] at ht
        have hp := paB_get h3 (show a < n by omega)
        refine .inl ⟨⟨c, mf, n, pa, n, stS st a 1, n, n, i, (pa a 0).n, l, x⟩, ht, rfl, ?_, ?_, ?_⟩
        · simp only [dom78a, Bool.and_eq_true, decide_eq_true_eq, Nat.ble_eq, Nat.beq_eq, true_and]
          exact ⟨h1, hp.2, h3⟩
        · simp only [fin78a, Tr.run]
          rw [tr_step (by omega) hs (by decide)]
        · simp only
          rw [cnt_set (v := 1) hs (by decide) (show a < n by omega)]
          omega
      · rw [condF (by simpa using hs)] at ht
        refine .inr ⟨by simp, ?_⟩
        rw [tr_stop (by simpa using hs)]
        exact ht
    · rw [condF (decide_eq_false (by omega))] at ht
      refine .inr ⟨by simp, ?_⟩
      rw [tr_stop (fun h => ha h.1)]
      exact ht
set_option maxRecDepth 4000 in
theorem sum78c : LoopOkT Tryz.prog (spOf []) (inlOf [134]) extD cP0 lp78 Tryz.f134.ntmps (bodyOf Tryz.prog 134 6) (.sum keep78c (stF dec78c dom78c fin78c)) := by
  dsimp only [LoopOkT]
  refine ⟨by decide, by decide, ?_⟩
  refine sum_st dec78c dom78c fin78c vs78c hp78c (fun s => cnt s.st 1 s.n) (fun vs H s hs => ?_) (fun s R hd hR => ?_)
  · unfold dec78c at hs
    split at hs
    · obtain rfl := Option.some.inj hs
      exact ⟨rfl, rfl⟩
    · cases hs
  · obtain ⟨c, mf, n, pa, m, st, v, u, i, a, e, l, x⟩ := s
    simp only [dom78c, Bool.and_eq_true, decide_eq_true_eq, Nat.ble_eq, Nat.beq_eq] at hd
    obtain ⟨e1, e2, e3, h1, h2, h3⟩ := hd
    obtain rfl := e1.symm
    obtain rfl := e2.symm
    obtain rfl := e3.symm
    simp only [fin78c, Tr.run, Option.some.injEq] at hR
    subst hR
    have ht := loop78c c mf n pa st i a e l x
    unfold rnd78c at ht
    by_cases ha : 0 ≤ a
    · obtain ⟨a, rfl⟩ : ∃ p : Nat, a = (p : Int) := ⟨a.toNat, by omega⟩
      rw [condT (decide_eq_true (by omega)), Int.toNat_natCast, condT (by simp only [Bool.and_eq_true, decide_eq_true_eq]; omega), condT (Nat.beq_refl n), condT (by simp only [Nat.beq_refl, Bool.true_and, Nat.blt_eq]; omega)] at ht
      by_cases hs : (st a 0).n = 1
      · rw [condT (by simpa using hs), condT (by simp only [Bool.and_eq_true, decide_eq_true_eq]; omega), condT (Nat.beq_refl n), condT (by simp only [Nat.beq_refl, Bool.true_and, Nat.blt_eq]; omega), condT (by simp only [Bool.and_eq_true, decide_eq_true_eq]; omega), condT (Nat.beq_refl n), condT (by simp only [Nat.beq_refl, Bool.true_and, Nat.blt_eq]; omega)] at ht
        have hp := paB_get h3 (show a < n by omega)
        refine .inl ⟨⟨c, mf, n, pa, n, stS st a 2, n, n, i, (pa a 0).n, e, l, x⟩, ht, rfl, ?_, ?_, ?_⟩
        · simp only [dom78c, Bool.and_eq_true, decide_eq_true_eq, Nat.ble_eq, Nat.beq_eq, true_and]
          exact ⟨h1, hp.2, h3⟩
        · simp only [fin78c, Tr.run]
          rw [tr_step (by omega) hs (by decide)]
        · simp only
          rw [cnt_set (v := 2) hs (by decide) (show a < n by omega)]
          omega
      · rw [condF (by simpa using hs)] at ht
        refine .inr ⟨by simp, ?_⟩
        rw [tr_stop (by simpa using hs)]
        exact ht
    · rw [condF (decide_eq_false (by omega))] at ht
      refine .inr ⟨by simp, ?_⟩
      rw [tr_stop (fun h => ha h.1)]
      exact ht
theorem mnF_pos {pa : Nat → Nat → Dt} {a : Int} {f : Nat} {l x : Int} (h : (mnF pa a f l x).isSome = true) (hx : x ≠ a) : 0 ≤ x ∧ ∃ g, f = g + 1 ∧ mnF pa a f l x = mnF pa a g (miI l x) (pa x.toNat 0).n := by
  cases f with
  | zero => simp [mnF, hx] at h
  | succ f =>
    rw [mnF, if_neg hx] at h
    by_cases h0 : x < 0
    · rw [if_pos h0] at h; cases h
    · exact ⟨by omega, f, rfl, by rw [mnF, if_neg hx, if_neg h0]⟩
def mnS (pa : Nat → Nat → Dt) (a : Int) : Nat → Int → Nat
  | 0, _ => 0
  | f + 1, x => if x = a then 0 else mnS pa a f (pa x.toNat 0).n + 1
theorem mnS_mono {pa : Nat → Nat → Dt} {a : Int} : ∀ {f : Nat} {l x r : Int}, mnF pa a f l x = some r → ∀ g, f ≤ g → mnS pa a g x = mnS pa a f x
  | 0, l, x, r, h, g, _ => by
    have : x = a := by
      simp only [mnF] at h
      split at h
      · assumption
      · cases h
    subst this
    cases g <;> simp [mnS]
  | f + 1, l, x, r, h, 0, hg => by omega
  | f + 1, l, x, r, h, g + 1, hg => by
    simp only [mnS]
    by_cases e : x = a
    · rw [if_pos e, if_pos e]
    · rw [if_neg e, if_neg e]
      rw [mnF, if_neg e] at h
      split at h
      · cases h
      · rw [mnS_mono h g (by omega)]
set_option maxRecDepth 4000 in
theorem sum78b : LoopOkT Tryz.prog (spOf []) (inlOf [134]) extD cP0 lp78 Tryz.f134.ntmps (bodyOf Tryz.prog 134 4) (.sum keep78b (stF dec78b dom78b fin78b)) := by
  dsimp only [LoopOkT]
  refine ⟨by decide, by decide, ?_⟩
  refine sum_st dec78b dom78b fin78b vs78b hp78b (fun s => mnS s.pa s.a s.n s.y) (fun vs H s hs => ?_) (fun s R hd hR => ?_)
  · unfold dec78b at hs
    split at hs
    · obtain rfl := Option.some.inj hs
      exact ⟨rfl, rfl⟩
    · cases hs
  · obtain ⟨c, mf, n, pa, m, st, v, u, i, a, e, y, l, x⟩ := s
    simp only [dom78b, Bool.and_eq_true, decide_eq_true_eq, Nat.ble_eq, Nat.beq_eq] at hd
    obtain ⟨e1, e2, e3, h1, h2, h3, h4⟩ := hd
    obtain rfl := e1.symm
    obtain rfl := e2.symm
    obtain rfl := e3.symm
    simp only [fin78b, Tr.run, Option.some.injEq] at hR
    subst hR
    have ht := loop78b c mf n pa st i a e y l x
    unfold rnd78b at ht
    by_cases hy : y = a
    · subst hy
      rw [condF (by simp)] at ht
      refine .inr ⟨by simp, ?_⟩
      have : mnF pa y n e y = some e := by cases n <;> simp [mnF]
      rw [this]
      exact ht
    · obtain ⟨g1, f, rfl, g2⟩ := mnF_pos h4 hy
      obtain ⟨y, rfl⟩ : ∃ p : Nat, y = (p : Int) := ⟨y.toNat, by omega⟩
      rw [condT (by simpa using hy), Int.toNat_natCast, condT (by simp only [Bool.and_eq_true, decide_eq_true_eq]; omega), condT (Nat.beq_refl (f + 1)), condT (by simp only [Nat.beq_refl, Bool.true_and, Nat.blt_eq]; omega)] at ht
      rw [g2, Int.toNat_natCast] at h4
      rw [Int.toNat_natCast] at g2
      have hp := paB_get h3 (show y < f + 1 by omega)
      obtain ⟨r, hr⟩ := Option.isSome_iff_exists.1 h4
      have hr1 := mnF_mono hr
      refine .inl ⟨⟨c, mf, f + 1, pa, f + 1, st, f + 1, f + 1, i, a, miI e (y : Int), (pa y 0).n, l, x⟩, ht, rfl, ?_, ?_, ?_⟩
      · simp only [dom78b, Bool.and_eq_true, decide_eq_true_eq, Nat.ble_eq, Nat.beq_eq, true_and]
        exact ⟨h1, hp.2, h3, by rw [hr1]; rfl⟩
      · simp only [fin78b, Tr.run]
        rw [g2, hr, hr1]
      · simp only
        rw [mnS_mono hr (f + 1) (Nat.le_succ f)]
        simp only [mnS, Int.toNat_natCast, hy, if_false]
        omega
def tl78 (c : Nat) (mf : Ky → Option Dt) (n : Nat) (pa _st : Nat → Nat → Dt) (x : Int) (W : (Nat → Nat → Dt)) (e : Int) : Option (Ex × List AV × List Ob) :=
  bif n.beq n && (n.beq n && (n.beq n && (n.ble 1000 && (decide (x < (n : Int)) && paB n pa)))) then
    bif decide (e ≥ 0) then bif decide (0 ≤ e) && decide (e < (n : Int)) then bif n.beq n then bif n.beq n && e.toNat.blt n then
      some (.normal, [.own 1 k0 n, .own 2 k0 n, .int .i64 (n : Int), .int .i64 (IntKind.i64.wrap (x + 1))], [.mapF (.int .i64) c (.dat (.int .i64) mf), .own 3 [.int .i64] n (stS pa e.toNat (-1)), .own 3 [.int .i64] n (tr 1 2 n pa W x).1]) else none else none else none
    else some (.normal, [.own 1 k0 n, .own 2 k0 n, .int .i64 (n : Int), .int .i64 (IntKind.i64.wrap (x + 1))], [.mapF (.int .i64) c (.dat (.int .i64) mf), .own 3 [.int .i64] n pa, .own 3 [.int .i64] n (tr 1 2 n pa W x).1]) else none
def rnd78 (c : Nat) (mf : Ky → Option Dt) (n : Nat) (pa st : Nat → Nat → Dt) (x : Int) : Option (Ex × List AV × List Ob) :=
  bif decide (x < (n : Int)) then bif n.beq n && (n.beq n && (n.beq n && (n.ble 1000 && (decide (x < (n : Int)) && paB n pa)))) then
    bif decide ((tr 0 1 n pa st x).2 ≥ 0) then bif decide (0 ≤ (tr 0 1 n pa st x).2) && decide ((tr 0 1 n pa st x).2 < (n : Int)) then bif n.beq n then bif n.beq n && (tr 0 1 n pa st x).2.toNat.blt n then
      bif ((tr 0 1 n pa st x).1 (tr 0 1 n pa st x).2.toNat 0).n == 1 then bif decide (0 ≤ (tr 0 1 n pa st x).2) && decide ((tr 0 1 n pa st x).2 < (n : Int)) then bif n.beq n then bif n.beq n && (tr 0 1 n pa st x).2.toNat.blt n then
        bif n.beq n && (n.beq n && (n.beq n && (n.ble 1000 && (decide ((pa (tr 0 1 n pa st x).2.toNat 0).n < (n : Int)) && (paB n pa && (mnF pa (tr 0 1 n pa st x).2 n (tr 0 1 n pa st x).2 (pa (tr 0 1 n pa st x).2.toNat 0).n).isSome))))) then
          tl78 c mf n pa st x (tr 0 1 n pa st x).1 ((mnF pa (tr 0 1 n pa st x).2 n (tr 0 1 n pa st x).2 (pa (tr 0 1 n pa st x).2.toNat 0).n).getD 0) else none else none else none else none
      else tl78 c mf n pa st x (tr 0 1 n pa st x).1 (-1) else none else none else none
    else tl78 c mf n pa st x (tr 0 1 n pa st x).1 (-1) else none
  else some (.exit 0, [.own 1 k0 n, .own 2 k0 n, .int .i64 (n : Int), .int .i64 x], [.mapF (.int .i64) c (.dat (.int .i64) mf), .own 3 [.int .i64] n pa, .own 3 [.int .i64] n st])
theorem loop78 (c : Nat) (mf : Ky → Option Dt) (n : Nat) (pa st : Nat → Nat → Dt) (x : Int) : evC (β := Ex × List AV × List Ob) Tryz.prog (spOf []) (inlOf [134]) extD cP0 lp78 (bodyOf Tryz.prog 134 0) ⟨mkF Tryz.f134.ntmps keep78 [.own 1 k0 n, .own 2 k0 n, .int .i64 (n : Int), .int .i64 x], [.mapF (.int .i64) c (.dat (.int .i64) mf), .own 3 [.int .i64] n pa, .own 3 [.int .i64] n st]⟩ (fun e st => (cutBack keep78 3 st).map fun q => (e, q.1, q.2)) = rnd78 c mf n pa st x := by kernel_rfl
open Go.Evl Go.RowKit
theorem trF_lt {u v : Int} {n : Nat} {pa : Nat → Nat → Dt} (h : paB n pa = true) : ∀ (f : Nat) (st : Nat → Nat → Dt) (a : Int), a < (n : Int) → (trF u v pa f st a).2 < (n : Int)
  | 0, st, a, ha => ha
  | f + 1, st, a, ha => by
    simp only [trF]
    split
    · rename_i h1
      exact trF_lt h f _ _ (paB_get h (show a.toNat < n by omega)).2
    · exact ha
theorem tr_lt {u v : Int} {n : Nat} {pa st : Nat → Nat → Dt} {a : Int} (h : paB n pa = true) (ha : a < (n : Int)) : (tr u v n pa st a).2 < (n : Int) := trF_lt h _ _ _ ha
theorem mnF_rng {n : Nat} {pa : Nat → Nat → Dt} {a : Int} (h : paB n pa = true) : ∀ {f : Nat} {l x r : Int}, 0 ≤ l → l < (n : Int) → x < (n : Int) → mnF pa a f l x = some r → 0 ≤ r ∧ r < (n : Int)
  | 0, l, x, r, h1, h2, _, hr => by
    simp only [mnF] at hr
    split at hr
    · obtain rfl := Option.some.inj hr; exact ⟨h1, h2⟩
    · cases hr
  | f + 1, l, x, r, h1, h2, h3, hr => by
    rw [mnF] at hr
    split at hr
    · obtain rfl := Option.some.inj hr; exact ⟨h1, h2⟩
    · split at hr
      · cases hr
      · have hm : 0 ≤ miI l x ∧ miI l x < (n : Int) := by
          unfold miI
          cases decide (x < l) <;> simp only [cond_true, cond_false] <;> omega
        exact mnF_rng h hm.1 hm.2 (paB_get h (show x.toNat < n by omega)).2 hr
theorem tl78_run {c : Nat} {mf : Ky → Option Dt} {n : Nat} {pa st W : Nat → Nat → Dt} {x : Nat} {e : Int} (hn : n ≤ 1000) (hx : x < n) (hp : paB n pa = true) (he : e < (n : Int)) :
    tl78 c mf n pa st (x : Int) W e = some (.normal, [.own 1 k0 n, .own 2 k0 n, .int .i64 (n : Int), .int .i64 ((x : Int) + 1)], [.mapF (.int .i64) c (.dat (.int .i64) mf), .own 3 [.int .i64] n (if 0 ≤ e then stS pa e.toNat (-1) else pa), .own 3 [.int .i64] n (tr 1 2 n pa W x).1]) := by
  unfold tl78
  rw [condT (by rw [hp, Nat.beq_refl, Nat.ble_eq_true_of_le hn, decide_eq_true (by omega)]; rfl), wrapI (by omega) (by omega)]
  by_cases h0 : 0 ≤ e
  · rw [condT (decide_eq_true (by omega)), condT (by simp only [Bool.and_eq_true, decide_eq_true_eq]; omega), condT (Nat.beq_refl n), condT (by simp only [Nat.beq_refl, Bool.true_and, Nat.blt_eq]; omega), if_pos h0]
  · rw [condF (decide_eq_false (by omega)), if_neg h0]
theorem rnd78_run {c : Nat} {mf : Ky → Option Dt} {n : Nat} {pa st : Nat → Nat → Dt} {x : Nat} {q : (Nat → Nat → Dt) × (Nat → Nat → Dt)} (hn : n ≤ 1000) (hx : x < n) (hp : paB n pa = true) (hq : ctS n pa st x = some q) :
    rnd78 c mf n pa st (x : Int) = some (.normal, [.own 1 k0 n, .own 2 k0 n, .int .i64 (n : Int), .int .i64 ((x : Int) + 1)], [.mapF (.int .i64) c (.dat (.int .i64) mf), .own 3 [.int .i64] n q.1, .own 3 [.int .i64] n q.2]) := by
  have hlt := tr_lt (u := 0) (v := 1) (st := st) hp (show ((x : Int)) < (n : Int) by omega)
  unfold rnd78
  unfold ctS at hq
  generalize hW : tr 0 1 n pa st (x : Int) = W at hlt hq ⊢
  obtain ⟨s1, a⟩ := W
  simp only at hlt hq ⊢
  rw [condT (decide_eq_true (by omega)), condT (by rw [hp, Nat.beq_refl, Nat.ble_eq_true_of_le hn, decide_eq_true (by omega)]; rfl)]
  by_cases ha : 0 ≤ a
  · rw [condT (decide_eq_true (by omega)), condT (by simp only [Bool.and_eq_true, decide_eq_true_eq]; omega), condT (Nat.beq_refl n), condT (by simp only [Nat.beq_refl, Bool.true_and, Nat.blt_eq]; omega)]
    by_cases h1 : (s1 a.toNat 0).n = 1
    · rw [if_pos ⟨ha, h1⟩] at hq
      cases hm : mnF pa a n a (pa a.toNat 0).n with
      | none => rw [hm] at hq; cases hq
      | some l =>
        rw [hm] at hq
        obtain rfl := Option.some.inj hq
        have hpl := (paB_get hp (show a.toNat < n by omega)).2
        obtain ⟨l0, l1⟩ := mnF_rng hp ha hlt hpl hm
        rw [condT (by simpa using h1), condT (by simp only [Bool.and_eq_true, decide_eq_true_eq]; omega), condT (Nat.beq_refl n), condT (by simp only [Nat.beq_refl, Bool.true_and, Nat.blt_eq]; omega), condT (by rw [hp, Nat.beq_refl, Nat.ble_eq_true_of_le hn, decide_eq_true hpl]; rfl)]
        exact tl78_run hn hx hp l1
    · rw [if_neg (fun z => h1 z.2)] at hq
      obtain rfl := Option.some.inj hq
      rw [condF (by simpa using h1)]
      exact tl78_run hn hx hp (by omega)
  · rw [if_neg (fun z => ha z.1)] at hq
    obtain rfl := Option.some.inj hq
    rw [condF (decide_eq_false (by omega))]
    exact tl78_run hn hx hp (by omega)
theorem ctS_pa {n : Nat} {pa st : Nat → Nat → Dt} {x : Nat} {q : (Nat → Nat → Dt) × (Nat → Nat → Dt)} (hp : paB n pa = true) (hq : ctS n pa st x = some q) : paB n q.1 = true := by
  unfold ctS at hq
  split at hq
  · cases hq
  · obtain rfl := Option.some.inj hq
    simp only
    split
    · exact paB_set hp _
    · exact hp
set_option maxRecDepth 10000 in
theorem sum78 : LoopOkT Tryz.prog (spOf []) (inlOf [134]) extD cP0 lp78 Tryz.f134.ntmps (bodyOf Tryz.prog 134 0) (.sum keep78 (stF dec78 dom78 fin78)) := by
  dsimp only [LoopOkT]
  refine ⟨by decide, by decide, ?_⟩
  refine sum_st dec78 dom78 fin78 vs78 hp78 (fun s => s.n - s.x.toNat) (fun vs H s hs => ?_) (fun s R hd hR => ?_)
  · unfold dec78 at hs
    split at hs
    · obtain rfl := Option.some.inj hs
      exact ⟨rfl, rfl⟩
    · cases hs
  · obtain ⟨c, mf, n, pa, m, st, v, u, l, x⟩ := s
    simp only [dom78, Bool.and_eq_true, decide_eq_true_eq, Nat.ble_eq, Nat.beq_eq] at hd
    obtain ⟨e1, e2, e3, h1, h2, h3, rfl, h4, h5⟩ := hd
    obtain rfl := e1.symm
    obtain rfl := e2.symm
    obtain rfl := e3.symm
    obtain ⟨x, rfl⟩ : ∃ p : Nat, x = (p : Int) := ⟨x.toNat, by omega⟩
    simp only [fin78, Int.toNat_natCast, Tr.run, Option.some.injEq] at hR
    rw [Int.toNat_natCast] at h5
    have ht := loop78 c mf n pa st (x : Int)
    by_cases hx : x < n
    · obtain ⟨p, hp⟩ : ∃ p, n - x = p + 1 := ⟨n - x - 1, by omega⟩
      rw [hp] at h5 hR
      simp only [ctO] at h5 hR
      cases hq : ctS n pa st x with
      | none => rw [hq] at h5; cases h5
      | some q =>
        rw [hq] at h5 hR
        rw [rnd78_run h1 hx h4 hq] at ht
        refine .inl ⟨⟨c, mf, n, q.1, n, q.2, n, n, (n : Int), (x : Int) + 1⟩, ht, rfl, ?_, ?_, ?_⟩
        · have e4 : ((x : Int) + 1).toNat = x + 1 := by omega
          simp only [dom78, e4, Bool.and_eq_true, decide_eq_true_eq, Nat.ble_eq, Nat.beq_eq, true_and]
          exact ⟨h1, by omega, by omega, ctS_pa h4 hq, by rw [show n - (x + 1) = p by omega]; exact h5⟩
        · rw [← hR]
          have e4 : ((x : Int) + 1).toNat = x + 1 := by omega
          obtain ⟨r, hr⟩ := Option.isSome_iff_exists.1 h5
          simp only [fin78, Tr.run, e4, show n - (x + 1) = p by omega, hr, Option.getD_some]
        · simp only; omega
    · obtain rfl : x = n := by omega
      unfold rnd78 at ht
      rw [condF (decide_eq_false (by omega))] at ht
      refine .inr ?_
      simp only [Nat.sub_self, ctO, Option.getD_some] at hR
      subst hR
      exact ⟨by simp, ht⟩
open Go.Evl Go.RowKit
noncomputable abbrev cP1 {β : Type} : CallK β := callLK Tryz.prog (spOf []) (inlOf [134]) extD cP0 [(134, lp78)]
def plF (x : Nat → Nat → Dt) : Nat → Nat → Nat → (Ky → Option Dt) → Nat × (Ky → Option Dt)
  | 0, _, c, mf => (c, mf)
  | f + 1, i, c, mf => plF x f (i + 1) (bif (mf (.int (x i 1).n)).isSome then c else c + 1) (putK mf (.int (x i 1).n) (some (.int (i : Int))))
def pfF (x : Nat → Nat → Dt) (mf : Ky → Option Dt) : Nat → Nat → (Nat → Nat → Dt) → Nat → Nat → Dt
  | 0, _, pa => pa
  | f + 1, i, pa => pfF x mf f (i + 1) (bif (mf (.int (x i 2).n)).isSome then stS (stS pa i (-1)) i ((mf (.int (x i 2).n)).getD (.int 0)).n else stS pa i (-1))
structure S69 where
  n : Nat
  x : Nat → Nat → Dt
  l : Int
  i : Int
  r : Nat
  y : Nat → Nat → Dt
  c : Nat
  mf : Ky → Option Dt
abbrev keep69 : List Nat := [0, 3, 12, 13, 14]
abbrev vs69 (s : S69) : List AV := [.isz s.r SS s.y, .map 0, .isz s.n SS s.x, .int .i64 s.l, .int .i64 s.i]
abbrev hp69 (s : S69) : List Ob := [.mapF (.int .i64) s.c (.dat (.int .i64) s.mf)]
def dec69 : List AV → List Ob → Option S69
  | [.isz r [.int .i64, .int .i64, .int .i64, .str, .str, .int .i64, .int .i64, .int .i64, .row [.str, .str], .row [.int .i64, .int .i64]] y, .map 0, .isz n [.int .i64, .int .i64, .int .i64, .str, .str, .int .i64, .int .i64, .int .i64, .row [.str, .str], .row [.int .i64, .int .i64]] x, .int .i64 l, .int .i64 i], [.mapF (.int .i64) c (.dat (.int .i64) mf)] => some ⟨n, x, l, i, r, y, c, mf⟩
  | _, _ => none
def dom69 (s : S69) : Bool := decide (0 ≤ s.i) && (decide (s.i ≤ (s.n : Int)) && (decide (s.l = (s.n : Int)) && Nat.ble s.n 1000))
def fin69 (s : S69) : Tr (Ex × List AV × List Ob) := .leaf (.exit 0, [.isz s.r SS s.y, .map 0, .isz s.n SS s.x, .int .i64 s.l, .int .i64 (s.n : Int)], [.mapF (.int .i64) (plF s.x (s.n - s.i.toNat) s.i.toNat s.c s.mf).1 (.dat (.int .i64) (plF s.x (s.n - s.i.toNat) s.i.toNat s.c s.mf).2)])
structure S69b where
  n : Nat
  x : Nat → Nat → Dt
  l : Int
  i : Int
  v : Nat
  m : Nat
  pa : Nat → Nat → Dt
  c : Nat
  mf : Ky → Option Dt
abbrev keep69b : List Nat := [3, 6, 27, 28, 29]
abbrev vs69b (s : S69b) : List AV := [.map 0, .own 1 k0 s.v, .isz s.n SS s.x, .int .i64 s.l, .int .i64 s.i]
abbrev hp69b (s : S69b) : List Ob := [.mapF (.int .i64) s.c (.dat (.int .i64) s.mf), .own 3 [.int .i64] s.m s.pa]
def dec69b : List AV → List Ob → Option S69b
  | [.map 0, .own 1 (.int 0) v, .isz n [.int .i64, .int .i64, .int .i64, .str, .str, .int .i64, .int .i64, .int .i64, .row [.str, .str], .row [.int .i64, .int .i64]] x, .int .i64 l, .int .i64 i], [.mapF (.int .i64) c (.dat (.int .i64) mf), .own 3 [.int .i64] m pa] => some ⟨n, x, l, i, v, m, pa, c, mf⟩
  | _, _ => none
def dom69b (s : S69b) : Bool := decide (0 ≤ s.i) && (decide (s.i ≤ (s.n : Int)) && (decide (s.l = (s.n : Int)) && (Nat.beq s.m s.n && (Nat.beq s.v s.n && Nat.ble s.n 1000))))
def fin69b (s : S69b) : Tr (Ex × List AV × List Ob) := .leaf (.exit 2, [.map 0, .own 1 k0 s.v, .isz s.n SS s.x, .int .i64 s.l, .int .i64 (s.n : Int)], [.mapF (.int .i64) s.c (.dat (.int .i64) s.mf), .own 3 [.int .i64] s.m (pfF s.x s.mf (s.n - s.i.toNat) s.i.toNat s.pa)])
abbrev lp69 (i : Nat) : LT := bif Nat.beq i 2000001 then .ghost [.mapD 3 (.int .i64) (.int .i64)] else bif Nat.beq i 2 then .sum keep69b (stF dec69b dom69b fin69b) else .sum keep69 (stF dec69 dom69 fin69)
open Go.Evl Go.RowKit
noncomputable abbrev cfP0 : CallF := callN (mkCx Tryz.prog (spOf []) (inlOf [134]) extD) attD uD 20
noncomputable abbrev cfP1 : CallF := callLN (mkCx Tryz.prog (spOf []) (inlOf [134]) extD) cfP0 [(134, lp78)]
theorem cP1_eq {β : Type} : CallEq (β := β) cP1 cfP1 := callLK_eq _ _ _ _ (callK_eq Tryz.prog (spOf []) (inlOf [134]) extD attD uD 20) _
theorem sxP : (mkCx Tryz.prog (spOf []) (inlOf [134]) extD).Ok InvD := cx_of [134] (by kernel_rfl) (by intro p hp; cases hp)
set_option maxRecDepth 10000 in
theorem lpsP1 : LpsOk (mkCx Tryz.prog (spOf []) (inlOf [134]) extD) cfP0 [(134, lp78)] := by
  intro f lp hf fn c hfn hc
  simp only [List.mem_singleton, Prod.mk.injEq] at hf
  obtain ⟨rfl, rfl⟩ := hf
  have e1 : fn = Tryz.f134 := Option.some.inj (hfn.symm.trans Tryz.func134)
  subst e1
  have e2 : c = codeOf Tryz.prog 134 := Option.some.inj (hc.symm.trans (by kernel_rfl))
  subst e2
  refine loopsOk_of Tryz.prog (spOf []) (inlOf [134]) extD cP0 (fun {β} => callK_eq (β := β) Tryz.prog (spOf []) (inlOf [134]) extD attD uD 20) fun p hp => ?_
  have hl : loops (codeOf Tryz.prog 134) = [(0, bodyOf Tryz.prog 134 0), (2, bodyOf Tryz.prog 134 2), (4, bodyOf Tryz.prog 134 4), (6, bodyOf Tryz.prog 134 6)] := by kernel_rfl
  rw [hl] at hp
  simp only [List.mem_cons, List.not_mem_nil, or_false] at hp
  rcases hp with rfl | rfl | rfl | rfl
  · exact sum78
  · exact sum78a
  · exact sum78b
  · exact sum78c
set_option maxRecDepth 20000 in
theorem sndP1 : CallSound Tryz.prog InvD cfP1 := callLN_sound sxP stableD mixedD (callN_sound attD_ok sxP stableD mixedD 20) lpsP1
def rnd69 (n : Nat) (x : Nat → Nat → Dt) (i : Int) (r : Nat) (y : Nat → Nat → Dt) (c : Nat) (mf : Ky → Option Dt) : Option (Ex × List AV × List Ob) := bif decide (i < (n : Int)) then bif decide (0 ≤ i) && decide (i < (n : Int)) then some (.normal, [.isz r SS y, .map 0, .isz n SS x, .int .i64 (n : Int), .int .i64 (IntKind.i64.wrap (i + 1))], [.mapF (.int .i64) (bif (mf (.int (x i.toNat 1).n)).isSome then c else c + 1) (.dat (.int .i64) (putK mf (.int (x i.toNat 1).n) (some (.int i))))]) else none else some (.exit 0, [.isz r SS y, .map 0, .isz n SS x, .int .i64 (n : Int), .int .i64 i], [.mapF (.int .i64) c (.dat (.int .i64) mf)])
theorem loop69 (n : Nat) (x : Nat → Nat → Dt) (i : Int) (r : Nat) (y : Nat → Nat → Dt) (c : Nat) (mf : Ky → Option Dt) : evC (β := Ex × List AV × List Ob) Tryz.prog (spOf []) (inlOf [134]) extD cP1 lp69 (bodyOf Tryz.prog 93 0) ⟨mkF Tryz.f93.ntmps keep69 [.isz r SS y, .map 0, .isz n SS x, .int .i64 (n : Int), .int .i64 i], [.mapF (.int .i64) c (.dat (.int .i64) mf)]⟩ (fun e st => (cutBack keep69 1 st).map fun q => (e, q.1, q.2)) = rnd69 n x i r y c mf := by kernel_rfl
def rnd69b (n : Nat) (x : Nat → Nat → Dt) (i : Int) (pa : Nat → Nat → Dt) (c : Nat) (mf : Ky → Option Dt) : Option (Ex × List AV × List Ob) := bif decide (i < (n : Int)) then bif decide (0 ≤ i) && decide (i < (n : Int)) then bif decide (0 ≤ i) && decide (i < (n : Int)) then bif n.beq n then bif n.beq n && i.toNat.blt n then bif (mf (.int (x i.toNat 2).n)).isSome then bif decide (0 ≤ i) && decide (i < (n : Int)) then bif n.beq n then bif n.beq n && i.toNat.blt n then some (.normal, [.map 0, .own 1 k0 n, .isz n SS x, .int .i64 (n : Int), .int .i64 (IntKind.i64.wrap (i + 1))], [.mapF (.int .i64) c (.dat (.int .i64) mf), .own 3 [.int .i64] n (setEl (setEl pa i.toNat 0 [.int (-1)]) i.toNat 0 [.int ((mf (.int (x i.toNat 2).n)).getD (.int 0)).n])]) else none else none else none else some (.normal, [.map 0, .own 1 k0 n, .isz n SS x, .int .i64 (n : Int), .int .i64 (IntKind.i64.wrap (i + 1))], [.mapF (.int .i64) c (.dat (.int .i64) mf), .own 3 [.int .i64] n (setEl pa i.toNat 0 [.int (-1)])]) else none else none else none else none else some (.exit 2, [.map 0, .own 1 k0 n, .isz n SS x, .int .i64 (n : Int), .int .i64 i], [.mapF (.int .i64) c (.dat (.int .i64) mf), .own 3 [.int .i64] n pa])
theorem loop69b (n : Nat) (x : Nat → Nat → Dt) (i : Int) (pa : Nat → Nat → Dt) (c : Nat) (mf : Ky → Option Dt) : evC (β := Ex × List AV × List Ob) Tryz.prog (spOf []) (inlOf [134]) extD cP1 lp69 (bodyOf Tryz.prog 93 2) ⟨mkF Tryz.f93.ntmps keep69b [.map 0, .own 1 k0 n, .isz n SS x, .int .i64 (n : Int), .int .i64 i], [.mapF (.int .i64) c (.dat (.int .i64) mf), .own 3 [.int .i64] n pa]⟩ (fun e st => (cutBack keep69b 2 st).map fun q => (e, q.1, q.2)) = rnd69b n x i pa c mf := by kernel_rfl
set_option maxRecDepth 20000 in
theorem sum69 : LoopOkT Tryz.prog (spOf []) (inlOf [134]) extD cP1 lp69 Tryz.f93.ntmps (bodyOf Tryz.prog 93 0) (.sum keep69 (stF dec69 dom69 fin69)) := by
  dsimp only [LoopOkT]
  refine ⟨by decide, by decide, ?_⟩
  refine sum_st dec69 dom69 fin69 vs69 hp69 (fun s => s.n - s.i.toNat) (fun vs H s hs => ?_) (fun s R hd hR => ?_)
  · unfold dec69 at hs
    split at hs
    · obtain rfl := Option.some.inj hs
      exact ⟨rfl, rfl⟩
    · cases hs
  · obtain ⟨n, x, l, i, r, y, c, mf⟩ := s
    simp only [dom69, Bool.and_eq_true, decide_eq_true_eq, Nat.ble_eq] at hd
    obtain ⟨h1, h2, rfl, h3⟩ := hd
    obtain ⟨i, rfl⟩ : ∃ p : Nat, i = (p : Int) := ⟨i.toNat, by omega⟩
    simp only [fin69, Int.toNat_natCast, Tr.run, Option.some.injEq] at hR
    have ht := loop69 n x (i : Int) r y c mf
    unfold rnd69 at ht
    by_cases hi : i < n
    · obtain ⟨p, hp⟩ : ∃ p, n - i = p + 1 := ⟨n - i - 1, by omega⟩
      rw [condT (decide_eq_true (by omega)), condT (by simp only [Bool.and_eq_true, decide_eq_true_eq]; omega), wrapI (by omega) (by omega), Int.toNat_natCast] at ht
      refine .inl ⟨⟨n, x, (n : Int), (i : Int) + 1, r, y, bif (mf (.int (x i 1).n)).isSome then c else c + 1, putK mf (.int (x i 1).n) (some (.int (i : Int)))⟩, ht, rfl, ?_, ?_, ?_⟩
      · simp only [dom69, Bool.and_eq_true, decide_eq_true_eq, Nat.ble_eq, true_and]; omega
      · rw [← hR, hp]
        have e1 : ((i : Int) + 1).toNat = i + 1 := by omega
        simp only [fin69, Tr.run, e1, show n - (i + 1) = p by omega, plF]
      · simp only [Int.toNat_natCast]; omega
    · obtain rfl : i = n := by omega
      rw [condF (decide_eq_false (by omega))] at ht
      refine .inr ?_
      simp only [Nat.sub_self, plF] at hR
      subst hR
      exact ⟨by simp, ht⟩
set_option maxRecDepth 4000 in
theorem sum69b : LoopOkT Tryz.prog (spOf []) (inlOf [134]) extD cP1 lp69 Tryz.f93.ntmps (bodyOf Tryz.prog 93 2) (.sum keep69b (stF dec69b dom69b fin69b)) := by
  dsimp only [LoopOkT]
  refine ⟨by decide, by decide, ?_⟩
  refine sum_st dec69b dom69b fin69b vs69b hp69b (fun s => s.n - s.i.toNat) (fun vs H s hs => ?_) (fun s R hd hR => ?_)
  · unfold dec69b at hs
    split at hs
    · obtain rfl := Option.some.inj hs
      exact ⟨rfl, rfl⟩
    · cases hs
  · obtain ⟨n, x, l, i, v, m, pa, c, mf⟩ := s
    simp only [dom69b, Bool.and_eq_true, decide_eq_true_eq, Nat.ble_eq, Nat.beq_eq] at hd
    obtain ⟨h1, h2, rfl, e1, e2, h3⟩ := hd
    obtain rfl := e1.symm
    obtain rfl := e2.symm
    obtain ⟨i, rfl⟩ : ∃ p : Nat, i = (p : Int) := ⟨i.toNat, by omega⟩
    simp only [fin69b, Int.toNat_natCast, Tr.run, Option.some.injEq] at hR
    have ht := loop69b n x (i : Int) pa c mf
    unfold rnd69b at ht
    by_cases hi : i < n
    · obtain ⟨p, hp⟩ : ∃ p, n - i = p + 1 := ⟨n - i - 1, by omega⟩
      rw [Int.toNat_natCast, condT (decide_eq_true (by omega)), condT (by simp only [Bool.and_eq_true, decide_eq_true_eq]; omega), condT (by simp only [Bool.and_eq_true, decide_eq_true_eq]; omega), condT (Nat.beq_refl n), condT (by simp only [Nat.beq_refl, Bool.true_and, Nat.blt_eq]; omega), wrapI (by omega) (by omega)] at ht
      have e4 : ((i : Int) + 1).toNat = i + 1 := by omega
      by_cases hs : (mf (.int (x i 2).n)).isSome = true
      · rw [condT hs, condT (by simp only [Bool.and_eq_true, decide_eq_true_eq]; omega), condT (Nat.beq_refl n), condT (by simp only [Nat.beq_refl, Bool.true_and, Nat.blt_eq]; omega)] at ht
        refine .inl ⟨⟨n, x, (n : Int), (i : Int) + 1, n, n, _, c, mf⟩, ht, rfl, ?_, ?_, ?_⟩
        · simp only [dom69b, Bool.and_eq_true, decide_eq_true_eq, Nat.ble_eq, Nat.beq_eq, true_and]; omega
        · rw [← hR, hp]
          simp only [fin69b, Tr.run, e4, show n - (i + 1) = p by omega, pfF, hs, cond_true]
          rfl
        · simp only [Int.toNat_natCast]; omega
      · rw [condF (by simpa using hs)] at ht
        refine .inl ⟨⟨n, x, (n : Int), (i : Int) + 1, n, n, _, c, mf⟩, ht, rfl, ?_, ?_, ?_⟩
        · simp only [dom69b, Bool.and_eq_true, decide_eq_true_eq, Nat.ble_eq, Nat.beq_eq, true_and]; omega
        · rw [← hR, hp]
          simp only [fin69b, Tr.run, e4, show n - (i + 1) = p by omega, pfF, bnx hs, cond_false]
          rfl
        · simp only [Int.toNat_natCast]; omega
    · obtain rfl : i = n := by omega
      rw [condF (decide_eq_false (by omega))] at ht
      refine .inr ?_
      simp only [Nat.sub_self, pfF] at hR
      subst hR
      exact ⟨by simp, ht⟩
def plN (n : Nat) (x : Nat → Nat → Dt) : Ky → Option Dt := (plF x (n - 0) 0 0 fun _ => none).2
def p0N (n : Nat) (x : Nat → Nat → Dt) : Nat → Nat → Dt := pfF x (plN n x) (n - 0) 0 zeroEl
def pcN (n : Nat) (x : Nat → Nat → Dt) : Nat → Nat → Dt := ((ctO n (n - 0) 0 (p0N n x) zeroEl).getD (p0N n x, zeroEl)).1
def okP (n : Nat) (x : Nat → Nat → Dt) : Bool := paB n (p0N n x) && (ctO n (n - 0) 0 (p0N n x) zeroEl).isSome
theorem vt69 (n : Nat) (x : Nat → Nat → Dt) : (evFnT Tryz.prog (spOf []) (inlOf [134]) extD cP1 lp69 Tryz.f93 [.isz n SS x] [] (castT (.row [.int .i64]))).run =
    (bif true && (true && (decide ((n : Int) = (n : Int)) && n.ble 1000)) then bif true && (decide ((n : Int) ≤ (n : Int)) && decide ((n : Int) ≤ 1000000)) then bif true && (true && (decide ((n : Int) = (n : Int)) && (n.beq n && (n.beq n && n.ble 1000)))) then bif n.beq n then bif true && (decide ((n : Int) ≤ (n : Int)) && decide ((n : Int) ≤ 1000000)) then bif n.beq n then
      bif n.beq n && (n.beq n && (n.beq n && (n.ble 1000 && (true && (true && (decide ((n : Int) = (n : Int)) && okP n x)))))) then bif n.beq n then some (.ret (.isz n [.int .i64] (pcN n x))) else none else none else none else none else none else none else none else none : Option Res) := by kernel_rfl
def t69 : Ent := ⟨93, fun
  | [.isz n [.int .i64, .int .i64, .int .i64, .str, .str, .int .i64, .int .i64, .int .i64, .row [.str, .str], .row [.int .i64, .int .i64]] x] => .chk (Nat.ble n 1000 && okP n x) (.leaf (.ret (.isz n [.int .i64] (pcN n x))))
  | _ => .non⟩
set_option maxRecDepth 10000 in
theorem t69_ok : SpecHolds Tryz.prog InvD 93 fun a => (t69.2 a).run := by
  refine spec_of_evC Tryz.prog (spOf []) (inlOf [134]) extD cP1 (fun {β} => cP1_eq (β := β)) sxP stableD mixedD sndP1 Tryz.func93 (c := codeOf Tryz.prog 93) (by kernel_rfl) lp69 (fun p hp => by
    have hl : loops (codeOf Tryz.prog 93) = [(0, bodyOf Tryz.prog 93 0), (2, bodyOf Tryz.prog 93 2)] := by kernel_rfl
    rw [hl] at hp
    simp only [List.mem_cons, List.not_mem_nil, or_false] at hp
    rcases hp with rfl | rfl
    · exact sum69
    · exact sum69b) (.row [.int .i64]) fun args r hh => ?_
  simp only [t69] at hh
  split at hh
  · rename_i n x
    obtain ⟨hg, hh⟩ := chk_run hh
    rw [Bool.and_eq_true, Nat.ble_eq] at hg
    obtain ⟨h1, h2⟩ := hg
    refine ⟨by kernel_rfl, (vt69 n x).trans (Eq.trans ?_ hh)⟩
    rw [h2, Nat.beq_refl, decide_eq_true rfl, Nat.ble_eq_true_of_le h1, decide_eq_true (Int.le_refl _), decide_eq_true (show (n : Int) ≤ 1000000 by omega)]
    rfl
  · simp [Tr.run] at hh
open Go.Evl Go.RowKit
def cpX (x : Nat → Nat → Dt) (i j : Nat) : Int := cpI (x i 5).n (x i 1).n (x j 5).n (x j 1).n
def ltX (x : Nat → Nat → Dt) (a b : Int) : Bool := decide (cpX x a.toNat b.toNat < 0)
def odB (r n : Nat) (o : Nat → Nat → Dt) : Bool := (List.range n).all fun k => decide (0 ≤ (o k 0).n) && decide ((o k 0).n < (r : Int))
theorem odB_get {r n : Nat} {o : Nat → Nat → Dt} (h : odB r n o = true) {k : Nat} (hk : k < n) : 0 ≤ (o k 0).n ∧ (o k 0).n < (r : Int) := by
  have := List.all_eq_true.1 h k (List.mem_range.2 hk)
  simpa using this
theorem odB_swap {r n : Nat} {o : Nat → Nat → Dt} (h : odB r n o = true) {a b : Nat} (ha : a < n) (hb : b < n) : odB r n (swI o a b) = true := by
  refine List.all_eq_true.2 fun k hk => ?_
  have h1 := odB_get h (List.mem_range.1 hk)
  have h2 := odB_get h ha
  have h3 := odB_get h hb
  rw [swI_at]
  simp only [Bool.and_eq_true, decide_eq_true_eq]
  split
  · exact h2
  · split
    · exact h3
    · exact h1
theorem odB_sink {r n : Nat} {lt : Int → Int → Bool} : ∀ (j : Nat) (o : Nat → Nat → Dt), j < n → odB r n o = true → odB r n (sinkI lt j o).1 = true
  | 0, o, _, h => h
  | j + 1, o, hj, h => by
    simp only [sinkI]
    split
    · exact odB_sink j _ (by omega) (odB_swap h hj (by omega))
    · exact h
def t71 : Ent := ⟨95, fun
  | [.int .i64 i, .int .i64 j, .ipt [.isz r [.int .i64, .int .i64, .int .i64, .str, .str, .int .i64, .int .i64, .int .i64, .row [.str, .str], .row [.int .i64, .int .i64]] x]] => .chk (decide (0 ≤ i) && decide (i < (r : Int)) && (decide (0 ≤ j) && decide (j < (r : Int)))) (.leaf (.ret (.int .i64 (cpX x i.toNat j.toNat))))
  | _ => .non⟩
theorem sx71 : (mkCx Tryz.prog (spOf [t50, t51]) (inlOf []) extD).Ok InvD := cx_of [] (by kernel_rfl) (by
  intro p hp
  simp only [List.mem_cons, List.not_mem_nil, or_false] at hp
  rcases hp with rfl | rfl
  · exact t50_ok
  · exact t51_ok)
theorem vt71 (r : Nat) (x : Nat → Nat → Dt) (i j : Int) : evFn Tryz.prog (spOf [t50, t51]) (inlOf []) extD (cKD [t50, t51] []) (fun _ => .unroll 3) Tryz.f95 [.int .i64 i, .int .i64 j, .ipt [.isz r SS x]] [] (fun r _ => some r) =
    (bif decide (0 ≤ i) && decide (i < (r : Int)) then bif decide (0 ≤ j) && decide (j < (r : Int)) then bif decide (0 ≤ i) && decide (i < (r : Int)) then bif decide (0 ≤ j) && decide (j < (r : Int)) then RI (cpX x i.toNat j.toNat) else none else none else none else none : Option Res) := by kernel_rfl
set_option maxRecDepth 20000 in
theorem t71_ok : SpecHolds Tryz.prog InvD 95 fun a => (t71.2 a).run := by
  refine specD sx71 Tryz.func95 (c := codeOf Tryz.prog 95) (by kernel_rfl) (fun _ => .unroll 3) (fun _ _ => trivial) fun args r hh => ?_
  simp only [t71] at hh
  split at hh
  · rename_i i j r x
    obtain ⟨hg, hh⟩ := chk_run hh
    rw [Bool.and_eq_true] at hg
    refine ⟨by kernel_rfl, tr_ok (by rfl) hh, ?_⟩
    refine (vt71 r x i j).trans (Eq.trans ?_ hh)
    rw [hg.1, hg.2]; rfl
  · simp [Tr.run] at hh
abbrev spQ : Sp := spOf [t69, t71, t74]
abbrev inQ : FuncId → Bool := inlOf [94, 135, 166]
noncomputable abbrev cQ0 {β : Type} : CallK β := callK Tryz.prog spQ inQ extD attD uD 20
noncomputable abbrev cfQ0 : CallF := callN (mkCx Tryz.prog spQ inQ extD) attD uD 20
structure S91j where
  v : Nat
  a : Int
  b : Int
  i : Int
  j : Int
  r : Nat
  x : Nat → Nat → Dt
  n : Nat
  o : Nat → Nat → Dt
abbrev keep91j : List Nat := [0, 1, 2, 3, 8, 9]
abbrev vs91j (s : S91j) : List AV := [.own 1 k0 s.v, .int .i64 s.a, .int .i64 s.b, .fn (.func 95) [.ptr 0 0], .int .i64 s.i, .int .i64 s.j]
abbrev hp91j (s : S91j) : List Ob := [.cells [.isz s.r SS s.x] 24, .own 3 [.int .i64] s.n s.o]
def dec91j : List AV → List Ob → Option S91j
  | [.own 1 (.int 0) v, .int .i64 a, .int .i64 b, .fn (.func 95) [.ptr 0 0], .int .i64 i, .int .i64 j], [.cells [.isz r [.int .i64, .int .i64, .int .i64, .str, .str, .int .i64, .int .i64, .int .i64, .row [.str, .str], .row [.int .i64, .int .i64]] x] 24, .own 3 [.int .i64] n o] => some ⟨v, a, b, i, j, r, x, n, o⟩
  | _, _ => none
def dom91j (s : S91j) : Bool := decide (s.a = 0) && (Nat.beq s.v s.n && (decide (0 ≤ s.j) && (decide (s.j < (s.n : Int)) && (Nat.ble s.n 1000 && odB s.r s.n s.o))))
def fin91j (s : S91j) : Tr (Ex × List AV × List Ob) := .leaf (.exit 2, [.own 1 k0 s.v, .int .i64 0, .int .i64 s.b, .fn (.func 95) [.ptr 0 0], .int .i64 s.i, .int .i64 ((sinkI (ltX s.x) s.j.toNat s.o).2 : Int)], [.cells [.isz s.r SS s.x] 24, .own 3 [.int .i64] s.n (sinkI (ltX s.x) s.j.toNat s.o).1])
structure S91o where
  v : Nat
  a : Int
  b : Int
  i : Int
  r : Nat
  x : Nat → Nat → Dt
  n : Nat
  o : Nat → Nat → Dt
abbrev keep91o : List Nat := [0, 1, 2, 3, 8]
abbrev vs91o (s : S91o) : List AV := [.own 1 k0 s.v, .int .i64 s.a, .int .i64 s.b, .fn (.func 95) [.ptr 0 0], .int .i64 s.i]
abbrev hp91o (s : S91o) : List Ob := [.cells [.isz s.r SS s.x] 24, .own 3 [.int .i64] s.n s.o]
def dec91o : List AV → List Ob → Option S91o
  | [.own 1 (.int 0) v, .int .i64 a, .int .i64 b, .fn (.func 95) [.ptr 0 0], .int .i64 i], [.cells [.isz r [.int .i64, .int .i64, .int .i64, .str, .str, .int .i64, .int .i64, .int .i64, .row [.str, .str], .row [.int .i64, .int .i64]] x] 24, .own 3 [.int .i64] n o] => some ⟨v, a, b, i, r, x, n, o⟩
  | _, _ => none
def dom91o (s : S91o) : Bool := decide (s.a = 0) && (Nat.beq s.v s.n && (decide (s.b = (s.n : Int)) && (decide (0 ≤ s.i) && (decide (s.i ≤ (s.n : Int) + 1) && (Nat.ble s.n 1000 && odB s.r s.n s.o)))))
def fin91o (s : S91o) : Tr (Ex × List AV × List Ob) := .leaf (.exit 0, [.own 1 k0 s.v, .int .i64 0, .int .i64 s.b, .fn (.func 95) [.ptr 0 0], .int .i64 ((max s.i.toNat s.n : Nat) : Int)], [.cells [.isz s.r SS s.x] 24, .own 3 [.int .i64] s.n (isI (ltX s.x) (s.n - s.i.toNat) s.i.toNat s.o)])
abbrev lp91 (i : Nat) : LT := bif Nat.beq i 2 then .sum keep91j (stF dec91j dom91j fin91j) else .sum keep91o (stF dec91o dom91o fin91o)
theorem sxQ : (mkCx Tryz.prog spQ inQ extD).Ok InvD := cx_of [94, 135, 166] (by kernel_rfl) (by
  intro p hp
  simp only [List.mem_cons, List.not_mem_nil, or_false] at hp
  rcases hp with rfl | rfl | rfl
  · exact t69_ok
  · exact t71_ok
  · exact t74_ok)
open Go.Evl Go.RowKit
def rnd91j (r : Nat) (x : Nat → Nat → Dt) (n : Nat) (o : Nat → Nat → Dt) (a b i j : Int) : Option (Ex × List AV × List Ob) := bif decide (j > a) then bif decide (0 ≤ j) && decide (j < (n : Int)) then bif n.beq n then bif n.beq n && j.toNat.blt n then bif decide (0 ≤ IntKind.i64.wrap (j - 1)) && decide (IntKind.i64.wrap (j - 1) < (n : Int)) then bif n.beq n then bif n.beq n && (IntKind.i64.wrap (j - 1)).toNat.blt n then bif decide (0 ≤ (o j.toNat 0).n) && decide ((o j.toNat 0).n < (r : Int)) && (decide (0 ≤ (o (IntKind.i64.wrap (j - 1)).toNat 0).n) && decide ((o (IntKind.i64.wrap (j - 1)).toNat 0).n < (r : Int))) then bif ltX x (o j.toNat 0).n (o (IntKind.i64.wrap (j - 1)).toNat 0).n then bif decide (0 ≤ IntKind.i64.wrap (j - 1)) && decide (IntKind.i64.wrap (j - 1) < (n : Int)) then bif n.beq n then bif n.beq n && (IntKind.i64.wrap (j - 1)).toNat.blt n then bif decide (0 ≤ j) && decide (j < (n : Int)) then bif n.beq n then bif n.beq n && j.toNat.blt n then bif decide (0 ≤ j) && decide (j < (n : Int)) then bif n.beq n then bif n.beq n && j.toNat.blt n then bif decide (0 ≤ IntKind.i64.wrap (j - 1)) && decide (IntKind.i64.wrap (j - 1) < (n : Int)) then bif n.beq n then bif n.beq n && (IntKind.i64.wrap (j - 1)).toNat.blt n then some (.normal, [.own 1 k0 n, .int .i64 a, .int .i64 b, .fn (.func 95) [.ptr 0 0], .int .i64 i, .int .i64 (IntKind.i64.wrap (j - 1))], [.cells [.isz r SS x] 24, .own 3 [.int .i64] n (setEl (setEl o j.toNat 0 [.int (o (IntKind.i64.wrap (j - 1)).toNat 0).n]) (IntKind.i64.wrap (j - 1)).toNat 0 [.int (o j.toNat 0).n])]) else none else none else none else none else none else none else none else none else none else none else none else none else some (.exit 2, [.own 1 k0 n, .int .i64 a, .int .i64 b, .fn (.func 95) [.ptr 0 0], .int .i64 i, .int .i64 j], [.cells [.isz r SS x] 24, .own 3 [.int .i64] n o]) else none else none else none else none else none else none else none else some (.exit 2, [.own 1 k0 n, .int .i64 a, .int .i64 b, .fn (.func 95) [.ptr 0 0], .int .i64 i, .int .i64 j], [.cells [.isz r SS x] 24, .own 3 [.int .i64] n o])
theorem loop91j (r : Nat) (x : Nat → Nat → Dt) (n : Nat) (o : Nat → Nat → Dt) (a b i j : Int) : evC (β := Ex × List AV × List Ob) Tryz.prog spQ inQ extD cQ0 lp91 (bodyOf Tryz.prog 166 2) ⟨mkF Tryz.f166.ntmps keep91j [.own 1 k0 n, .int .i64 a, .int .i64 b, .fn (.func 95) [.ptr 0 0], .int .i64 i, .int .i64 j], [.cells [.isz r SS x] 24, .own 3 [.int .i64] n o]⟩ (fun e st => (cutBack keep91j 2 st).map fun q => (e, q.1, q.2)) = rnd91j r x n o a b i j := by kernel_rfl
def rnd91o (r : Nat) (x : Nat → Nat → Dt) (n : Nat) (o : Nat → Nat → Dt) (a b i : Int) : Option (Ex × List AV × List Ob) := bif decide (i < b) then bif decide (a = 0) && (n.beq n && (decide (0 ≤ i) && (decide (i < (n : Int)) && (n.ble 1000 && odB r n o)))) then some (.normal, [.own 1 k0 n, .int .i64 0, .int .i64 b, .fn (.func 95) [.ptr 0 0], .int .i64 (IntKind.i64.wrap (i + 1))], [.cells [.isz r SS x] 24, .own 3 [.int .i64] n (sinkI (ltX x) i.toNat o).fst]) else none else some (.exit 0, [.own 1 k0 n, .int .i64 a, .int .i64 b, .fn (.func 95) [.ptr 0 0], .int .i64 i], [.cells [.isz r SS x] 24, .own 3 [.int .i64] n o])
theorem loop91o (r : Nat) (x : Nat → Nat → Dt) (n : Nat) (o : Nat → Nat → Dt) (a b i : Int) : evC (β := Ex × List AV × List Ob) Tryz.prog spQ inQ extD cQ0 lp91 (bodyOf Tryz.prog 166 0) ⟨mkF Tryz.f166.ntmps keep91o [.own 1 k0 n, .int .i64 a, .int .i64 b, .fn (.func 95) [.ptr 0 0], .int .i64 i], [.cells [.isz r SS x] 24, .own 3 [.int .i64] n o]⟩ (fun e st => (cutBack keep91o 2 st).map fun q => (e, q.1, q.2)) = rnd91o r x n o a b i := by kernel_rfl
set_option maxRecDepth 10000 in
theorem sum91j : LoopOkT Tryz.prog spQ inQ extD cQ0 lp91 Tryz.f166.ntmps (bodyOf Tryz.prog 166 2) (.sum keep91j (stF dec91j dom91j fin91j)) := by
  dsimp only [LoopOkT]
  refine ⟨by decide, by decide, ?_⟩
  refine sum_st dec91j dom91j fin91j vs91j hp91j (fun s => s.j.toNat) (fun vs H s hs => ?_) (fun s R hd hR => ?_)
  · unfold dec91j at hs
    split at hs
    · obtain rfl := Option.some.inj hs
      exact ⟨rfl, rfl⟩
    · cases hs
  · obtain ⟨v, a, b, i, j, r, x, n, o⟩ := s
    simp only [dom91j, Bool.and_eq_true, decide_eq_true_eq, Nat.ble_eq, Nat.beq_eq] at hd
    obtain ⟨rfl, e1, h0, h1, h2, h3⟩ := hd
    obtain rfl := e1.symm
    obtain ⟨j, rfl⟩ : ∃ p : Nat, j = (p : Int) := ⟨j.toNat, by omega⟩
    simp only [fin91j, Int.toNat_natCast, Tr.run, Option.some.injEq] at hR
    subst hR
    have ht := loop91j r x n o 0 b i (j : Int)
    unfold rnd91j at ht
    cases j with
    | zero =>
      rw [condF (decide_eq_false (by omega))] at ht
      exact .inr ⟨by simp, ht⟩
    | succ j =>
      have hw : IntKind.i64.wrap (((j + 1 : Nat) : Int) - 1) = (j : Int) := by rw [wrapI (by omega) (by omega)]; omega
      have b1 := odB_get h3 (show j + 1 < n by omega)
      have b2 := odB_get h3 (show j < n by omega)
      rw [hw, Int.toNat_natCast, Int.toNat_natCast, condT (decide_eq_true (by omega)), condT (by simp only [Bool.and_eq_true, decide_eq_true_eq]; omega), condT (Nat.beq_refl n), condT (by simp only [Nat.beq_refl, Bool.true_and, Nat.blt_eq]; omega), condT (by simp only [Bool.and_eq_true, decide_eq_true_eq]; omega), condT (Nat.beq_refl n), condT (by simp only [Nat.beq_refl, Bool.true_and, Nat.blt_eq]; omega), condT (by simp only [Bool.and_eq_true, decide_eq_true_eq]; exact ⟨b1, b2⟩)] at ht
      by_cases hl : ltX x (o (j + 1) 0).n (o j 0).n = true
      · rw [condT hl, condT (by simp only [Bool.and_eq_true, decide_eq_true_eq]; omega), condT (Nat.beq_refl n), condT (by simp only [Nat.beq_refl, Bool.true_and, Nat.blt_eq]; omega), condT (by simp only [Bool.and_eq_true, decide_eq_true_eq]; omega), condT (Nat.beq_refl n), condT (by simp only [Nat.beq_refl, Bool.true_and, Nat.blt_eq]; omega), condT (by simp only [Bool.and_eq_true, decide_eq_true_eq]; omega), condT (Nat.beq_refl n), condT (by simp only [Nat.beq_refl, Bool.true_and, Nat.blt_eq]; omega), condT (by simp only [Bool.and_eq_true, decide_eq_true_eq]; omega), condT (Nat.beq_refl n), condT (by simp only [Nat.beq_refl, Bool.true_and, Nat.blt_eq]; omega)] at ht
        refine .inl ⟨⟨n, 0, b, i, (j : Int), r, x, n, swI o (j + 1) j⟩, ht, rfl, ?_, ?_, ?_⟩
        · simp only [dom91j, Bool.and_eq_true, decide_eq_true_eq, Nat.ble_eq, Nat.beq_eq, true_and]
          exact ⟨by omega, by omega, h2, odB_swap h3 (by omega) (by omega)⟩
        · simp only [fin91j, Int.toNat_natCast, Tr.run, sinkI, hl, if_true]
        · simp only [Int.toNat_natCast]; omega
      · rw [condF (bnx hl)] at ht
        refine .inr ⟨by simp, ?_⟩
        simp only [sinkI]
        rw [if_neg hl]
        exact ht
set_option maxRecDepth 10000 in
theorem sum91o : LoopOkT Tryz.prog spQ inQ extD cQ0 lp91 Tryz.f166.ntmps (bodyOf Tryz.prog 166 0) (.sum keep91o (stF dec91o dom91o fin91o)) := by
  dsimp only [LoopOkT]
  refine ⟨by decide, by decide, ?_⟩
  refine sum_st dec91o dom91o fin91o vs91o hp91o (fun s => s.n + 1 - s.i.toNat) (fun vs H s hs => ?_) (fun s R hd hR => ?_)
  · unfold dec91o at hs
    split at hs
    · obtain rfl := Option.some.inj hs
      exact ⟨rfl, rfl⟩
    · cases hs
  · obtain ⟨v, a, b, i, r, x, n, o⟩ := s
    simp only [dom91o, Bool.and_eq_true, decide_eq_true_eq, Nat.ble_eq, Nat.beq_eq] at hd
    obtain ⟨rfl, e1, rfl, h0, h1, h2, h3⟩ := hd
    obtain rfl := e1.symm
    obtain ⟨i, rfl⟩ : ∃ p : Nat, i = (p : Int) := ⟨i.toNat, by omega⟩
    simp only [fin91o, Int.toNat_natCast, Tr.run, Option.some.injEq] at hR
    have ht := loop91o r x n o 0 (n : Int) (i : Int)
    unfold rnd91o at ht
    by_cases hi : i < n
    · rw [condT (decide_eq_true (by omega)), condT (by rw [h3, Nat.ble_eq_true_of_le h2, Nat.beq_refl, decide_eq_true (show (0 : Int) ≤ (i : Int) by omega), decide_eq_true (show (i : Int) < (n : Int) by omega)]; rfl), wrapI (by omega) (by omega), Int.toNat_natCast] at ht
      refine .inl ⟨⟨n, 0, (n : Int), (i : Int) + 1, r, x, n, (sinkI (ltX x) i o).1⟩, ht, rfl, ?_, ?_, ?_⟩
      · simp only [dom91o, Bool.and_eq_true, decide_eq_true_eq, Nat.ble_eq, Nat.beq_eq, true_and]
        exact ⟨by omega, by omega, h2, odB_sink i o hi h3⟩
      · rw [← hR]
        have e4 : ((i : Int) + 1).toNat = i + 1 := by omega
        obtain ⟨q, hq⟩ : ∃ q, n - i = q + 1 := ⟨n - i - 1, by omega⟩
        simp only [fin91o, Tr.run, e4, hq, isI, show n - (i + 1) = q by omega, show max (i + 1) n = n by omega, show max i n = n by omega]
      · simp only [Int.toNat_natCast]; omega
    · rw [condF (decide_eq_false (by omega))] at ht
      refine .inr ?_
      rw [show n - i = 0 by omega, show max i n = i by omega] at hR
      simp only [isI] at hR
      subst hR
      exact ⟨by simp, ht⟩
noncomputable abbrev cQ1 {β : Type} : CallK β := callLK Tryz.prog spQ inQ extD cQ0 [(166, lp91)]
noncomputable abbrev cQ2 {β : Type} : CallK β := callLK Tryz.prog spQ inQ extD cQ1 [(135, fun _ => .unroll 3)]
noncomputable abbrev cQ3 {β : Type} : CallK β := callLK Tryz.prog spQ inQ extD cQ2 [(94, fun _ => .unroll 3)]
noncomputable abbrev cfQ1 : CallF := callLN (mkCx Tryz.prog spQ inQ extD) cfQ0 [(166, lp91)]
noncomputable abbrev cfQ2 : CallF := callLN (mkCx Tryz.prog spQ inQ extD) cfQ1 [(135, fun _ => .unroll 3)]
noncomputable abbrev cfQ3 : CallF := callLN (mkCx Tryz.prog spQ inQ extD) cfQ2 [(94, fun _ => .unroll 3)]
theorem cQ3_eq {β : Type} : CallEq (β := β) cQ3 cfQ3 := callLK_eq _ _ _ _ (callLK_eq _ _ _ _ (callLK_eq _ _ _ _ (callK_eq Tryz.prog spQ inQ extD attD uD 20) _) _) _
set_option maxRecDepth 10000 in
theorem lpsQ1 : LpsOk (mkCx Tryz.prog spQ inQ extD) cfQ0 [(166, lp91)] := by
  intro f lp hf fn c hfn hc
  simp only [List.mem_singleton, Prod.mk.injEq] at hf
  obtain ⟨rfl, rfl⟩ := hf
  have e1 : fn = Tryz.f166 := Option.some.inj (hfn.symm.trans Tryz.func166)
  subst e1
  have e2 : c = codeOf Tryz.prog 166 := Option.some.inj (hc.symm.trans (by kernel_rfl))
  subst e2
  refine loopsOk_of Tryz.prog spQ inQ extD cQ0 (fun {β} => callK_eq (β := β) Tryz.prog spQ inQ extD attD uD 20) fun p hp => ?_
  have hl : loops (codeOf Tryz.prog 166) = [(0, bodyOf Tryz.prog 166 0), (2, bodyOf Tryz.prog 166 2)] := by kernel_rfl
  rw [hl] at hp
  simp only [List.mem_cons, List.not_mem_nil, or_false] at hp
  rcases hp with rfl | rfl
  · exact sum91o
  · exact sum91j
set_option maxRecDepth 20000 in
theorem lps_unrollQ {cf : CallF} {f : FuncId} {k : Nat} : LpsOk (mkCx Tryz.prog spQ inQ extD) cf [(f, fun _ => .unroll k)] := by
  intro g lp hf fn c _ _
  simp only [List.mem_singleton, Prod.mk.injEq] at hf
  obtain ⟨rfl, rfl⟩ := hf
  intro p _ keep f' h
  cases h
set_option maxRecDepth 20000 in
theorem sndQ3 : CallSound Tryz.prog InvD cfQ3 := callLN_sound sxQ stableD mixedD (callLN_sound sxQ stableD mixedD (callLN_sound sxQ stableD mixedD (callN_sound attD_ok sxQ stableD mixedD 20) lpsQ1) lps_unrollQ) lps_unrollQ
open Go.Evl Go.RowKit
def fiF : Nat → Nat → (Nat → Nat → Dt) → Nat → Nat → Dt
  | 0, _, o => o
  | f + 1, i, o => fiF f (i + 1) (stS o i (i : Int))
def pkF (x pc : Nat → Nat → Dt) (k : Nat) : Int := bif decide ((pc k 0).n ≥ 0) then (x (pc k 0).n.toNat 1).n else 0
def rwE (x : Nat → Nat → Dt) (k : Nat) : Nat → Nat → Dt := dtFs [nmE (x k)]
def chF (x pc o : Nat → Nat → Dt) : Nat → Nat → Nat × (Ky → Option Nat) × (Ky → Nat × (Nat → Nat → Dt)) → Nat × (Ky → Option Nat) × (Ky → Nat × (Nat → Nat → Dt))
  | 0, _, s => s
  | f + 1, i, s => chF x pc o f (i + 1) (bif (s.2.1 (.int (pkF x pc (o i 0).n.toNat))).isSome then s.1 else s.1 + 1, putK s.2.1 (.int (pkF x pc (o i 0).n.toNat)) (some ((s.2.2 (.int (pkF x pc (o i 0).n.toNat))).1 + 1)),
      putK s.2.2 (.int (pkF x pc (o i 0).n.toNat)) ((s.2.2 (.int (pkF x pc (o i 0).n.toNat))).1 + 1, appEl (s.2.2 (.int (pkF x pc (o i 0).n.toNat))).2 (s.2.2 (.int (pkF x pc (o i 0).n.toNat))).1 (rwE x (o i 0).n.toNat)))
def verP (i : Nat) (mf : Ky → Option Nat) (rf : Ky → Nat × (Nat → Nat → Dt)) : Prop := ∀ key, (mf key).getD 0 = (rf key).1 ∧ (rf key).1 ≤ i
noncomputable def verB (i : Nat) (mf : Ky → Option Nat) (rf : Ky → Nat × (Nat → Nat → Dt)) : Bool := @decide (verP i mf rf) (Classical.propDecidable _)
theorem verB_iff {i : Nat} {mf : Ky → Option Nat} {rf : Ky → Nat × (Nat → Nat → Dt)} : verB i mf rf = true ↔ verP i mf rf := @decide_eq_true_iff _ (Classical.propDecidable _)
structure S55a where
  r : Nat
  x : Nat → Nat → Dt
  q : Nat
  pc : Nat → Nat → Dt
  v : Nat
  w : Nat
  l : Int
  i : Int
  n : Nat
  o : Nat → Nat → Dt
abbrev keep55a : List Nat := [1, 3, 4, 15, 16, 17]
abbrev vs55a (s : S55a) : List AV := [.ptr 0 0, .isz s.q [.int .i64] s.pc, .own 1 k0 s.v, .own 1 k0 s.w, .int .i64 s.l, .int .i64 s.i]
abbrev hp55a (s : S55a) : List Ob := [.cells [.isz s.r SS s.x] 24, .own 3 [.int .i64] s.n s.o]
def dec55a : List AV → List Ob → Option S55a
  | [.ptr 0 0, .isz q [.int .i64] pc, .own 1 (.int 0) v, .own 1 (.int 0) w, .int .i64 l, .int .i64 i], [.cells [.isz r [.int .i64, .int .i64, .int .i64, .str, .str, .int .i64, .int .i64, .int .i64, .row [.str, .str], .row [.int .i64, .int .i64]] x] 24, .own 3 [.int .i64] n o] => some ⟨r, x, q, pc, v, w, l, i, n, o⟩
  | _, _ => none
def dom55a (s : S55a) : Bool := decide (0 ≤ s.i) && (decide (s.i ≤ (s.n : Int)) && (decide (s.l = (s.n : Int)) && (Nat.beq s.v s.n && (Nat.beq s.w s.n && Nat.ble s.n 1000))))
def fin55a (s : S55a) : Tr (Ex × List AV × List Ob) := .leaf (.exit 0, [.ptr 0 0, .isz s.q [.int .i64] s.pc, .own 1 k0 s.v, .own 1 k0 s.w, .int .i64 s.l, .int .i64 (s.n : Int)], [.cells [.isz s.r SS s.x] 24, .own 3 [.int .i64] s.n (fiF (s.n - s.i.toNat) s.i.toNat s.o)])
structure S55b where
  r : Nat
  x : Nat → Nat → Dt
  q : Nat
  pc : Nat → Nat → Dt
  v : Nat
  l : Int
  i : Int
  n : Nat
  o : Nat → Nat → Dt
  c : Nat
  mf : Ky → Option Nat
  rf : Ky → Nat × (Nat → Nat → Dt)
abbrev keep55b : List Nat := [1, 3, 6, 29, 30, 31]
abbrev vs55b (s : S55b) : List AV := [.ptr 0 0, .isz s.q [.int .i64] s.pc, .map 2, .own 1 k0 s.v, .int .i64 s.l, .int .i64 s.i]
abbrev hp55b (s : S55b) : List Ob := [.cells [.isz s.r SS s.x] 24, .own 3 [.int .i64] s.n s.o, .mapF (.int .i64) s.c (.own 3 s.mf), .rows 44 SS s.rf]
def dec55b : List AV → List Ob → Option S55b
  | [.ptr 0 0, .isz q [.int .i64] pc, .map 2, .own 1 (.int 0) v, .int .i64 l, .int .i64 i], [.cells [.isz r [.int .i64, .int .i64, .int .i64, .str, .str, .int .i64, .int .i64, .int .i64, .row [.str, .str], .row [.int .i64, .int .i64]] x] 24, .own 3 [.int .i64] n o, .mapF (.int .i64) c (.own 3 mf), .rows 44 [.int .i64, .int .i64, .int .i64, .str, .str, .int .i64, .int .i64, .int .i64, .row [.str, .str], .row [.int .i64, .int .i64]] rf] => some ⟨r, x, q, pc, v, l, i, n, o, c, mf, rf⟩
  | _, _ => none
noncomputable def dom55b (s : S55b) : Bool := decide (0 ≤ s.i) && (decide (s.i ≤ (s.n : Int)) && (decide (s.l = (s.n : Int)) && (Nat.beq s.v s.n && (Nat.beq s.q s.n && (Nat.beq s.r s.n && (Nat.ble s.n 1000 && (odB s.n s.n s.o && (paB s.n s.pc && verB s.i.toNat s.mf s.rf))))))))
def fin55b (s : S55b) : Tr (Ex × List AV × List Ob) := .leaf (.exit 2, [.ptr 0 0, .isz s.q [.int .i64] s.pc, .map 2, .own 1 k0 s.v, .int .i64 s.l, .int .i64 (s.n : Int)], [.cells [.isz s.r SS s.x] 24, .own 3 [.int .i64] s.n s.o, .mapF (.int .i64) (chF s.x s.pc s.o (s.n - s.i.toNat) s.i.toNat (s.c, s.mf, s.rf)).1 (.own 3 (chF s.x s.pc s.o (s.n - s.i.toNat) s.i.toNat (s.c, s.mf, s.rf)).2.1), .rows 44 SS (chF s.x s.pc s.o (s.n - s.i.toNat) s.i.toNat (s.c, s.mf, s.rf)).2.2])
noncomputable abbrev lp55 (i : Nat) : LT := bif Nat.beq i 2000009 then .ghost [.mapR 28 (.int .i64) 44 SS] else bif Nat.beq i 2 then .sum keep55b (stF dec55b dom55b fin55b) else .sum keep55a (stF dec55a dom55a fin55a)
open Go.Evl Go.RowKit
def rnd55a (r : Nat) (x : Nat → Nat → Dt) (q : Nat) (pc : Nat → Nat → Dt) (i : Int) (n : Nat) (o : Nat → Nat → Dt) : Option (Ex × List AV × List Ob) := bif decide (i < (n : Int)) then bif decide (0 ≤ i) && decide (i < (n : Int)) then bif n.beq n then bif n.beq n && i.toNat.blt n then some (.normal, [.ptr 0 0, .isz q [.int .i64] pc, .own 1 k0 n, .own 1 k0 n, .int .i64 (n : Int), .int .i64 (IntKind.i64.wrap (i + 1))], [.cells [.isz r SS x] 24, .own 3 [.int .i64] n (setEl o i.toNat 0 [.int i])]) else none else none else none else some (.exit 0, [.ptr 0 0, .isz q [.int .i64] pc, .own 1 k0 n, .own 1 k0 n, .int .i64 (n : Int), .int .i64 i], [.cells [.isz r SS x] 24, .own 3 [.int .i64] n o])
theorem loop55a (r : Nat) (x : Nat → Nat → Dt) (q : Nat) (pc : Nat → Nat → Dt) (i : Int) (n : Nat) (o : Nat → Nat → Dt) : evC (β := Ex × List AV × List Ob) Tryz.prog spQ inQ extD cQ3 lp55 (bodyOf Tryz.prog 47 0) ⟨mkF Tryz.f47.ntmps keep55a [.ptr 0 0, .isz q [.int .i64] pc, .own 1 k0 n, .own 1 k0 n, .int .i64 (n : Int), .int .i64 i], [.cells [.isz r SS x] 24, .own 3 [.int .i64] n o]⟩ (fun e st => (cutBack keep55a 2 st).map fun q => (e, q.1, q.2)) = rnd55a r x q pc i n o := by kernel_rfl
set_option maxRecDepth 4000 in
theorem sum55a : LoopOkT Tryz.prog spQ inQ extD cQ3 lp55 Tryz.f47.ntmps (bodyOf Tryz.prog 47 0) (.sum keep55a (stF dec55a dom55a fin55a)) := by
  dsimp only [LoopOkT]
  refine ⟨by decide, by decide, ?_⟩
  refine sum_st dec55a dom55a fin55a vs55a hp55a (fun s => s.n - s.i.toNat) (fun vs H s hs => ?_) (fun s R hd hR => ?_)
  · unfold dec55a at hs
    split at hs
    · obtain rfl := Option.some.inj hs
      exact ⟨rfl, rfl⟩
    · cases hs
  · obtain ⟨r, x, q, pc, v, w, l, i, n, o⟩ := s
    simp only [dom55a, Bool.and_eq_true, decide_eq_true_eq, Nat.ble_eq, Nat.beq_eq] at hd
    obtain ⟨h1, h2, rfl, e1, e2, h3⟩ := hd
    obtain rfl := e1.symm
    obtain rfl := e2.symm
    obtain ⟨i, rfl⟩ : ∃ p : Nat, i = (p : Int) := ⟨i.toNat, by omega⟩
    simp only [fin55a, Int.toNat_natCast, Tr.run, Option.some.injEq] at hR
    have ht := loop55a r x q pc (i : Int) n o
    unfold rnd55a at ht
    by_cases hi : i < n
    · obtain ⟨p, hp⟩ : ∃ p, n - i = p + 1 := ⟨n - i - 1, by omega⟩
      rw [Int.toNat_natCast, condT (decide_eq_true (by omega)), condT (by simp only [Bool.and_eq_true, decide_eq_true_eq]; omega), condT (Nat.beq_refl n), condT (by simp only [Nat.beq_refl, Bool.true_and, Nat.blt_eq]; omega), wrapI (by omega) (by omega)] at ht
      refine .inl ⟨⟨r, x, q, pc, n, n, (n : Int), (i : Int) + 1, n, stS o i (i : Int)⟩, ht, rfl, ?_, ?_, ?_⟩
      · simp only [dom55a, Bool.and_eq_true, decide_eq_true_eq, Nat.ble_eq, Nat.beq_eq, true_and]; omega
      · rw [← hR, hp]
        have e4 : ((i : Int) + 1).toNat = i + 1 := by omega
        simp only [fin55a, Tr.run, e4, show n - (i + 1) = p by omega, fiF]
      · simp only [Int.toNat_natCast]; omega
    · obtain rfl : i = n := by omega
      rw [condF (decide_eq_false (by omega))] at ht
      refine .inr ?_
      simp only [Nat.sub_self, fiF] at hR
      subst hR
      exact ⟨by simp, ht⟩
def nx55 (n : Nat) (x pc : Nat → Nat → Dt) (i : Int) (o : Nat → Nat → Dt) (c : Nat) (mf : Ky → Option Nat) (rf : Ky → Nat × (Nat → Nat → Dt)) (key : Int) : Option (Ex × List AV × List Ob) :=
  bif decide (0 ≤ (o i.toNat 0).n) && decide ((o i.toNat 0).n < (n : Int)) then bif (rf (.int key)).1.beq ((mf (.int key)).getD 0) && ((rf (.int key)).1.ble 1000000 && true) then bif key == key then some (.normal, [.ptr 0 0, .isz n [.int .i64] pc, .map 2, .own 1 k0 n, .int .i64 (n : Int), .int .i64 (IntKind.i64.wrap (i + 1))], [.cells [.isz n SS x] 24, .own 3 [.int .i64] n o, .mapF (.int .i64) (bif (mf (.int key)).isSome then c else c + 1) (.own 3 (putK mf (.int key) (some ((rf (.int key)).1 + 1)))), .rows 44 SS (putK rf (.int key) ((rf (.int key)).1 + 1, appEl (rf (.int key)).2 (rf (.int key)).1 (rwE x (o i.toNat 0).n.toNat)))]) else none else none else none
def rnd55b (n : Nat) (x pc : Nat → Nat → Dt) (i : Int) (o : Nat → Nat → Dt) (c : Nat) (mf : Ky → Option Nat) (rf : Ky → Nat × (Nat → Nat → Dt)) : Option (Ex × List AV × List Ob) :=
  bif decide (i < (n : Int)) then bif decide (0 ≤ i) && decide (i < (n : Int)) then bif n.beq n then bif n.beq n && i.toNat.blt n then bif decide (0 ≤ (o i.toNat 0).n) && decide ((o i.toNat 0).n < (n : Int)) then bif decide ((pc (o i.toNat 0).n.toNat 0).n ≥ 0) then bif decide (0 ≤ (o i.toNat 0).n) && decide ((o i.toNat 0).n < (n : Int)) then
      bif decide (0 ≤ (pc (o i.toNat 0).n.toNat 0).n) && decide ((pc (o i.toNat 0).n.toNat 0).n < (n : Int)) then nx55 n x pc i o c mf rf (x (pc (o i.toNat 0).n.toNat 0).n.toNat 1).n else none else none
    else nx55 n x pc i o c mf rf 0 else none else none else none else none
  else some (.exit 2, [.ptr 0 0, .isz n [.int .i64] pc, .map 2, .own 1 k0 n, .int .i64 (n : Int), .int .i64 i], [.cells [.isz n SS x] 24, .own 3 [.int .i64] n o, .mapF (.int .i64) c (.own 3 mf), .rows 44 SS rf])
theorem loop55b (n : Nat) (x pc : Nat → Nat → Dt) (i : Int) (o : Nat → Nat → Dt) (c : Nat) (mf : Ky → Option Nat) (rf : Ky → Nat × (Nat → Nat → Dt)) : evC (β := Ex × List AV × List Ob) Tryz.prog spQ inQ extD cQ3 lp55 (bodyOf Tryz.prog 47 2) ⟨mkF Tryz.f47.ntmps keep55b [.ptr 0 0, .isz n [.int .i64] pc, .map 2, .own 1 k0 n, .int .i64 (n : Int), .int .i64 i], [.cells [.isz n SS x] 24, .own 3 [.int .i64] n o, .mapF (.int .i64) c (.own 3 mf), .rows 44 SS rf]⟩ (fun e st => (cutBack keep55b 4 st).map fun q => (e, q.1, q.2)) = rnd55b n x pc i o c mf rf := by kernel_rfl
theorem nx55_run {n : Nat} {x pc o : Nat → Nat → Dt} {i : Nat} {c : Nat} {mf : Ky → Option Nat} {rf : Ky → Nat × (Nat → Nat → Dt)} {key : Int} (hi : i < n) (hn : n ≤ 1000) (ho : odB n n o = true) (hv : verP i mf rf) :
    nx55 n x pc (i : Int) o c mf rf key = some (.normal, [.ptr 0 0, .isz n [.int .i64] pc, .map 2, .own 1 k0 n, .int .i64 (n : Int), .int .i64 ((i : Int) + 1)], [.cells [.isz n SS x] 24, .own 3 [.int .i64] n o, .mapF (.int .i64) (bif (mf (.int key)).isSome then c else c + 1) (.own 3 (putK mf (.int key) (some ((rf (.int key)).1 + 1)))), .rows 44 SS (putK rf (.int key) ((rf (.int key)).1 + 1, appEl (rf (.int key)).2 (rf (.int key)).1 (rwE x (o i 0).n.toNat)))]) := by
  unfold nx55
  obtain ⟨v1, v2⟩ := hv (.int key)
  have h1 := odB_get ho hi
  rw [Int.toNat_natCast, wrapI (by omega) (by omega), condT (by simpa using h1), v1, condT (by rw [Nat.beq_refl, Nat.ble_eq_true_of_le (by omega)]; rfl), beq_self_eq_true]
  rfl
theorem rnd55b_run {n : Nat} {x pc o : Nat → Nat → Dt} {i : Nat} {c : Nat} {mf : Ky → Option Nat} {rf : Ky → Nat × (Nat → Nat → Dt)} (hi : i < n) (hn : n ≤ 1000) (ho : odB n n o = true) (hp : paB n pc = true) (hv : verP i mf rf) :
    rnd55b n x pc (i : Int) o c mf rf = some (.normal, [.ptr 0 0, .isz n [.int .i64] pc, .map 2, .own 1 k0 n, .int .i64 (n : Int), .int .i64 ((i : Int) + 1)], [.cells [.isz n SS x] 24, .own 3 [.int .i64] n o, .mapF (.int .i64) (bif (mf (.int (pkF x pc (o i 0).n.toNat))).isSome then c else c + 1) (.own 3 (putK mf (.int (pkF x pc (o i 0).n.toNat)) (some ((rf (.int (pkF x pc (o i 0).n.toNat))).1 + 1)))), .rows 44 SS (putK rf (.int (pkF x pc (o i 0).n.toNat)) ((rf (.int (pkF x pc (o i 0).n.toNat))).1 + 1, appEl (rf (.int (pkF x pc (o i 0).n.toNat))).2 (rf (.int (pkF x pc (o i 0).n.toNat))).1 (rwE x (o i 0).n.toNat)))]) := by
  have h1 := odB_get ho hi
  have h2 := paB_get hp (show (o i 0).n.toNat < n by omega)
  unfold rnd55b pkF
  rw [Int.toNat_natCast, condT (decide_eq_true (by omega)), condT (by simp only [Bool.and_eq_true, decide_eq_true_eq]; omega), condT (Nat.beq_refl n), condT (by simp only [Nat.beq_refl, Bool.true_and, Nat.blt_eq]; omega), condT (by simpa using h1)]
  by_cases h0 : (pc (o i 0).n.toNat 0).n ≥ 0
  · rw [condT (decide_eq_true h0), condT (by simpa using h1), condT (by simp only [Bool.and_eq_true, decide_eq_true_eq]; omega), nx55_run hi hn ho hv, decide_eq_true h0]
    rfl
  · rw [condF (decide_eq_false h0), nx55_run hi hn ho hv, decide_eq_false h0]
    rfl
theorem verP_put {i : Nat} {mf : Ky → Option Nat} {rf : Ky → Nat × (Nat → Nat → Dt)} (h : verP i mf rf) (key : Ky) (el : Nat → Nat → Dt) : verP (i + 1) (putK mf key (some ((rf key).1 + 1))) (putK rf key ((rf key).1 + 1, el)) := by
  intro k
  by_cases e : k = key
  · subst e
    rw [putK_at, putK_at]
    have := h k
    exact ⟨rfl, by simp only; omega⟩
  · rw [putK_ne _ _ e, putK_ne _ _ e]
    have := h k
    exact ⟨this.1, by omega⟩
set_option maxRecDepth 10000 in
theorem sum55b : LoopOkT Tryz.prog spQ inQ extD cQ3 lp55 Tryz.f47.ntmps (bodyOf Tryz.prog 47 2) (.sum keep55b (stF dec55b dom55b fin55b)) := by
  dsimp only [LoopOkT]
  refine ⟨by decide, by decide, ?_⟩
  refine sum_st dec55b dom55b fin55b vs55b hp55b (fun s => s.n - s.i.toNat) (fun vs H s hs => ?_) (fun s R hd hR => ?_)
  · unfold dec55b at hs
    split at hs
    · obtain rfl := Option.some.inj hs
      exact ⟨rfl, rfl⟩
    · cases hs
  · obtain ⟨r, x, q, pc, v, l, i, n, o, c, mf, rf⟩ := s
    simp only [dom55b, Bool.and_eq_true, decide_eq_true_eq, Nat.ble_eq, Nat.beq_eq] at hd
    obtain ⟨h1, h2, rfl, e1, e2, e3, h3, h4, h5, h6⟩ := hd
    obtain rfl := e1.symm
    obtain rfl := e2.symm
    obtain rfl := e3.symm
    obtain ⟨i, rfl⟩ : ∃ p : Nat, i = (p : Int) := ⟨i.toNat, by omega⟩
    rw [Int.toNat_natCast, verB_iff] at h6
    simp only [fin55b, Int.toNat_natCast, Tr.run, Option.some.injEq] at hR
    have ht := loop55b n x pc (i : Int) o c mf rf
    by_cases hi : i < n
    · obtain ⟨p, hp⟩ : ∃ p, n - i = p + 1 := ⟨n - i - 1, by omega⟩
      rw [rnd55b_run hi h3 h4 h5 h6] at ht
      refine .inl ⟨⟨n, x, n, pc, n, (n : Int), (i : Int) + 1, n, o, _, _, _⟩, ht, rfl, ?_, ?_, ?_⟩
      · have e4 : ((i : Int) + 1).toNat = i + 1 := by omega
        simp only [dom55b, e4, Bool.and_eq_true, decide_eq_true_eq, Nat.ble_eq, Nat.beq_eq, true_and]
        exact ⟨by omega, by omega, h3, h4, h5, verB_iff.2 (verP_put h6 _ _)⟩
      · rw [← hR, hp]
        have e4 : ((i : Int) + 1).toNat = i + 1 := by omega
        simp only [fin55b, Tr.run, e4, show n - (i + 1) = p by omega, chF]
        rfl
      · simp only [Int.toNat_natCast]; omega
    · obtain rfl : i = n := by omega
      unfold rnd55b at ht
      rw [condF (decide_eq_false (by omega))] at ht
      refine .inr ?_
      simp only [Nat.sub_self, chF] at hR
      subst hR
      exact ⟨by simp, ht⟩
open Go.Evl Go.RowKit
def orN (n : Nat) (x : Nat → Nat → Dt) : Nat → Nat → Dt := isI (ltX x) (n - (IntKind.i64.wrap 1).toNat) (IntKind.i64.wrap 1).toNat (fiF (n - 0) 0 zeroEl)
def faN (n : Nat) (x : Nat → Nat → Dt) : Nat × (Ky → Option Nat) × (Ky → Nat × (Nat → Nat → Dt)) := chF x (pcN n x) (orN n x) (n - 0) 0 (0, (fun _ => none), fun _ => (0, zeroEl))
noncomputable def okF (n : Nat) (x : Nat → Nat → Dt) : Bool := okP n x && (odB n n (fiF (n - 0) 0 zeroEl) && (odB n n (orN n x) && (paB n (pcN n x) && verB 0 (fun _ => none) (fun _ => (0, zeroEl)))))
theorem vt55 (n : Nat) (x : Nat → Nat → Dt) : evFn (β := Res × List Ob) Tryz.prog spQ inQ extD cQ3 lp55 Tryz.f47 [.isz n SS x] [] (fun r H => some (r, H)) =
    (bif n.ble 1000 && okP n x then bif true && (decide ((n : Int) ≤ (n : Int)) && decide ((n : Int) ≤ 1000000)) then bif n.beq n then bif true && (true && (decide ((n : Int) = (n : Int)) && (n.beq n && (n.beq n && n.ble 1000)))) then bif n.beq n then bif true && decide (IntKind.u64.wrap (n : Int) < 13) then bif decide (IntKind.i64.wrap ((n : Int) - 0) ≤ 12) then
      bif true && (n.beq n && (decide ((n : Int) = (n : Int)) && (true && (decide (IntKind.i64.wrap 1 ≤ (n : Int) + 1) && (n.ble 1000 && odB n n (fiF (n - 0) 0 zeroEl)))))) then bif n.beq n then bif true && (true && (decide ((n : Int) = (n : Int)) && (n.beq n && (n.beq n && (n.beq n && (n.ble 1000 && (odB n n (orN n x) && (paB n (pcN n x) && verB 0 (fun _ => none) (fun _ => (0, zeroEl)))))))))) then
        some (.ret (.map 2), [.cells [.isz n SS x] 24, .own 3 [.int .i64] n (orN n x), .mapF (.int .i64) (faN n x).1 (.own 3 (faN n x).2.1), .rows 44 SS (faN n x).2.2]) else none else none else none
      else bif lnI (IntKind.u64.wrap (n : Int)) == 0 then none else none else none else none else none else none else none else none : Option (Res × List Ob)) := by kernel_rfl
noncomputable def h55 : HEnt := ⟨47, fun
  | [.isz n [.int .i64, .int .i64, .int .i64, .str, .str, .int .i64, .int .i64, .int .i64, .row [.str, .str], .row [.int .i64, .int .i64]] x] => .chk (Nat.ble n 12 && okF n x) (.leaf (.map 2, [.cells [.isz n SS x] 24, .own 3 [.int .i64] n (orN n x), .mapF (.int .i64) (faN n x).1 (.own 3 (faN n x).2.1), .rows 44 SS (faN n x).2.2]))
  | _ => .non⟩
set_option maxRecDepth 10000 in
theorem h55_ok : FrsHolds Tryz.prog InvD 47 fun a => (h55.2 a).run := by
  intro args v obs h
  unfold h55 at h
  simp only at h
  split at h
  · rename_i n x
    obtain ⟨hg, hh⟩ := chk_run h
    obtain ⟨rfl, rfl⟩ := Prod.mk.inj (Option.some.inj hh)
    rw [Bool.and_eq_true, Nat.ble_eq] at hg
    obtain ⟨h1, h2⟩ := hg
    unfold okF at h2
    simp only [Bool.and_eq_true] at h2
    obtain ⟨g1, g2, g3, g4, g5⟩ := h2
    refine frsAt_of_ev Tryz.prog spQ inQ extD cQ3 (fun {β} => cQ3_eq (β := β)) sxQ stableD mixedD sndQ3 Tryz.func47 (c := codeOf Tryz.prog 47) (by kernel_rfl) lp55 (fun p hp => by
      have hl : loops (codeOf Tryz.prog 47) = [(0, bodyOf Tryz.prog 47 0), (2, bodyOf Tryz.prog 47 2)] := by kernel_rfl
      rw [hl] at hp
      simp only [List.mem_cons, List.not_mem_nil, or_false] at hp
      rcases hp with rfl | rfl
      · exact sum55a
      · exact sum55b) (by kernel_rfl) ((vt55 n x).trans ?_)
    have w1 : IntKind.i64.wrap 1 = 1 := by rw [wrapI (by omega) (by omega)]
    have w2 : IntKind.i64.wrap ((n : Int) - 0) = (n : Int) := by rw [wrapI (by omega) (by omega)]; omega
    have w3 : IntKind.u64.wrap (n : Int) = (n : Int) := by show (n : Int) % 18446744073709551616 = (n : Int); omega
    rw [g1, g2, g3, g4, g5, w1, w2, w3, Nat.beq_refl, Nat.ble_eq_true_of_le (show n ≤ 1000 by omega), decide_eq_true rfl, decide_eq_true (Int.le_refl _), decide_eq_true (show (n : Int) ≤ 1000000 by omega), decide_eq_true (show (n : Int) < 13 by omega), decide_eq_true (show (n : Int) ≤ 12 by omega), decide_eq_true (show (1 : Int) ≤ (n : Int) + 1 by omega)]
    rfl
  · cases h
open Go.Evl Go.RowKit
def PlI (x : Nat → Nat → Dt) (i : Nat) (mf : Ky → Option Dt) : Prop := ∀ v : Int, (mf (.int v) = none ∧ ∀ j, j < i → (x j 1).n ≠ v) ∨ ∃ j, j < i ∧ mf (.int v) = some (.int (j : Int)) ∧ (x j 1).n = v
set_option maxRecDepth 20000 in
theorem plF_ok (x : Nat → Nat → Dt) : ∀ f i c mf, PlI x i mf → PlI x (i + f) (plF x f i c mf).2
  | 0, _, _, _, h => h
  | f + 1, i, c, mf, h => by
    simp only [plF]
    rw [show i + (f + 1) = i + 1 + f by omega]
    refine plF_ok x f (i + 1) _ _ fun v => ?_
    by_cases e : v = (x i 1).n
    · subst e
      exact .inr ⟨i, by omega, putK_at _ _ _, rfl⟩
    · rw [putK_ne _ _ (show Ky.int v ≠ Ky.int (x i 1).n from fun z => e (Ky.int.inj z))]
      rcases h v with ⟨h1, h2⟩ | ⟨j, h1, h2, h3⟩
      · refine .inl ⟨h1, fun j hj z => ?_⟩
        by_cases ej : j = i
        · subst ej; exact e z.symm
        · exact h2 j (by omega) z
      · exact .inr ⟨j, by omega, h2, h3⟩
theorem pfF_at (x : Nat → Nat → Dt) (mf : Ky → Option Dt) : ∀ f i pa k, (pfF x mf f i pa k 0).n = if i ≤ k ∧ k < i + f then ((mf (.int (x k 2).n)).map Dt.n).getD (-1) else (pa k 0).n
  | 0, i, pa, k => by rw [if_neg (by omega)]; rfl
  | f + 1, i, pa, k => by
    simp only [pfF]
    rw [pfF_at x mf f (i + 1)]
    by_cases h : i + 1 ≤ k ∧ k < i + 1 + f
    · rw [if_pos h, if_pos (by omega)]
    · rw [if_neg h]
      by_cases e : k = i
      · subst e
        rw [if_pos (by omega)]
        cases hm : mf (.int (x k 2).n) with
        | none => simp [stS_at]
        | some d => simp [stS_at]
      · rw [if_neg (by omega)]
        cases hm : (mf (.int (x i 2).n)).isSome with
        | false => simp [stS_at, e]
        | true => simp [stS_at, e]
theorem p0_ok (n : Nat) (x : Nat → Nat → Dt) : paB n (p0N n x) = true ∧ ∀ k, k < n → (parO (p0N n x) k = none ∧ ∀ j, j < n → (x j 1).n ≠ (x k 2).n) ∨ ∃ j, j < n ∧ parO (p0N n x) k = some j ∧ (x j 1).n = (x k 2).n := by
  have h := plF_ok x n 0 0 (fun _ => none) fun v => .inl ⟨rfl, fun j hj => by omega⟩
  rw [Nat.zero_add] at h
  have hv : ∀ k, k < n → (p0N n x k 0).n = ((plN n x (.int (x k 2).n)).map Dt.n).getD (-1) := by
    intro k hk
    unfold p0N
    rw [pfF_at, if_pos (by omega)]
  have h2 : ∀ k, k < n → (p0N n x k 0).n = -1 ∧ (∀ j, j < n → (x j 1).n ≠ (x k 2).n) ∨ ∃ j, j < n ∧ (p0N n x k 0).n = (j : Int) ∧ (x j 1).n = (x k 2).n := by
    intro k hk
    rw [hv k hk]
    rcases h (x k 2).n with ⟨e1, e2⟩ | ⟨j, e1, e2, e3⟩
    · left
      refine ⟨?_, e2⟩
      show ((plN n x (.int (x k 2).n)).map Dt.n).getD (-1) = -1
      rw [show plN n x (.int (x k 2).n) = none from e1]; rfl
    · right
      refine ⟨j, e1, ?_, e3⟩
      rw [show plN n x (.int (x k 2).n) = some (.int (j : Int)) from e2]; rfl
  constructor
  · refine List.all_eq_true.2 fun k hk => ?_
    rcases h2 k (List.mem_range.1 hk) with ⟨e, _⟩ | ⟨j, e1, e2, _⟩
    · rw [e]; simp; omega
    · rw [e2]; simp; omega
  · intro k hk
    rcases h2 k hk with ⟨e, e'⟩ | ⟨j, e1, e2, e3⟩
    · exact .inl ⟨by unfold parO; rw [e]; rfl, e'⟩
    · exact .inr ⟨j, e1, by unfold parO; rw [e2, oi_nat], e3⟩
theorem okP_true (n : Nat) (x : Nat → Nat → Dt) : okP n x = true ∧ paB n (pcN n x) = true ∧ (∀ k, k < n → ∃ t, upO (parO (pcN n x)) t k = none) ∧ ∀ k, k < n → parO (pcN n x) k = parO (p0N n x) k ∨ (parO (pcN n x) k = none ∧ (∃ t, upO (parO (p0N n x)) (t + 1) k = some k) ∧ ∀ s j, upO (parO (p0N n x)) s k = some j → k ≤ j) := by
  obtain ⟨hp, _⟩ := p0_ok n x
  obtain ⟨pc, st, e, h1, h2, h3⟩ := cut_all hp
  have e2 : pcN n x = pc := by unfold pcN; rw [Nat.sub_zero, e]; rfl
  rw [e2]
  refine ⟨?_, h1, h2, h3⟩
  unfold okP
  rw [hp, Nat.sub_zero, e]
  rfl
open Go.Evl Go.RowKit
theorem fiF_at : ∀ f i o k, (fiF f i o k 0).n = if i ≤ k ∧ k < i + f then (k : Int) else (o k 0).n
  | 0, i, o, k => by rw [if_neg (by omega)]; rfl
  | f + 1, i, o, k => by
    simp only [fiF]
    rw [fiF_at f (i + 1), stS_at]
    by_cases h : i + 1 ≤ k ∧ k < i + 1 + f
    · rw [if_pos h, if_pos (by omega)]
    · rw [if_neg h]
      by_cases e : k = i
      · rw [if_pos e, if_pos (by omega), e]
      · rw [if_neg e, if_neg (by omega)]
theorem ltX_iff (x : Nat → Nat → Dt) (a b : Int) : ltX x a b = true ↔ bfL (fun k => (x k.toNat 5).n) (fun k => (x k.toNat 1).n) a b := by
  unfold ltX cpX cpI orI bfL
  rw [decide_eq_true_eq]
  unfold cmI
  simp only
  repeat' split
  all_goals omega
def olN (n : Nat) (x : Nat → Nat → Dt) : List Nat := (List.range n).map fun i => (orN n x i 0).n.toNat
set_option maxRecDepth 20000 in
theorem orN_ok (n : Nat) (x : Nat → Nat → Dt) : (liG n fun i => (orN n x i 0).n).Perm ((List.range n).map fun (k : Nat) => (k : Int)) ∧ ∀ a b, a < b → b < n → ¬ bfL (fun k => (x k.toNat 5).n) (fun k => (x k.toNat 1).n) (orN n x b 0).n (orN n x a 0).n := by
  by_cases h0 : n = 0
  · subst h0
    exact ⟨List.Perm.refl _, fun a b _ h => by omega⟩
  · have w : (IntKind.i64.wrap 1).toNat = 1 := by rw [wrapI (by omega) (by omega)]; rfl
    have hv : (fun q => (orN n x q 0).n) = isG (ltX x) (n - 1) 1 fun q => (fiF n 0 zeroEl q 0).n := by
      unfold orN
      rw [w, Nat.sub_zero]
      exact isI_G (ltX x) (n - 1) 1 (fiF n 0 zeroEl)
    obtain ⟨h1, h2⟩ := isG_ok (ltX_iff x) (n := n) (n - 1) 1 (fun q => (fiF n 0 zeroEl q 0).n) (by omega) (by omega) fun a b hab hb => by omega
    rw [← hv] at h1 h2
    refine ⟨h2.trans ?_, fun a b hab hb => h1 a b hab hb⟩
    rw [show (liG n fun q => (fiF n 0 zeroEl q 0).n) = (List.range n).map fun (k : Nat) => (k : Int) from liG_congr fun k hk => by rw [fiF_at, if_pos (by omega)]]
theorem orN_mem {n : Nat} {x : Nat → Nat → Dt} {i : Nat} (hi : i < n) : ∃ k, k < n ∧ (orN n x i 0).n = (k : Int) := by
  have h1 : (orN n x i 0).n ∈ (liG n fun i => (orN n x i 0).n) := List.mem_map_of_mem (List.mem_range.2 hi)
  have h2 := (orN_ok n x).1.mem_iff.1 h1
  rw [List.mem_map] at h2
  obtain ⟨k, hk, e⟩ := h2
  exact ⟨k, List.mem_range.1 hk, e.symm⟩
theorem olN_perm (n : Nat) (x : Nat → Nat → Dt) : (olN n x).Perm (List.range n) := by
  have h := (orN_ok n x).1.map Int.toNat
  unfold liG at h
  rw [List.map_map, List.map_map] at h
  have e : (List.range n).map (Int.toNat ∘ fun (k : Nat) => (k : Int)) = List.range n := by
    rw [show (Int.toNat ∘ fun (k : Nat) => (k : Int)) = id from by funext k; rfl, List.map_id]
  rw [e] at h
  exact h
theorem odB_ord (n : Nat) (x : Nat → Nat → Dt) : odB n n (orN n x) = true ∧ odB n n (fiF (n - 0) 0 zeroEl) = true := by
  constructor
  · refine List.all_eq_true.2 fun i hi => ?_
    obtain ⟨k, hk, e⟩ := orN_mem (x := x) (List.mem_range.1 hi)
    rw [e]; simp; omega
  · refine List.all_eq_true.2 fun i hi => ?_
    have := List.mem_range.1 hi
    rw [fiF_at, if_pos (by omega)]; simp; omega
theorem okF_true (n : Nat) (x : Nat → Nat → Dt) : okF n x = true := by
  obtain ⟨h1, h2, _⟩ := okP_true n x
  obtain ⟨h3, h4⟩ := odB_ord n x
  unfold okF
  rw [h1, h2, h3, h4, verB_iff.2 (show verP 0 (fun _ => none) (fun _ => (0, zeroEl)) from fun key => ⟨rfl, Nat.le_refl _⟩)]
  rfl
open Go.Evl Go.RowKit
structure VS where
  m : Nat
  sp : Nat → Nat → Dt
  pa : Nat → Nat → Dt
def rwI (a : Int) : Nat → Nat → Dt := dtFs [[.int a]]
def VS.push (s : VS) (e : Nat → Dt) (ix : Int) : VS := ⟨s.m + 1, appEl s.sp s.m (dtFs [nmE e]), appEl s.pa s.m (rwI ix)⟩
def visL (rec_ : Int → Int → VS → Option VS) (el : Nat → Nat → Dt) (ix : Int) : Nat → Nat → VS → Option VS
  | 0, _, s => some s
  | f + 1, i, s => if s.m < 1000 then match rec_ (el i 1).n (s.m : Int) (s.push (el i) ix) with
    | none => none
    | some s' => visL rec_ el ix f (i + 1) s' else none
def visK (rf : Ky → Nat × (Nat → Nat → Dt)) : Nat → Int → Int → VS → Option VS
  | 0, _, _, _ => none
  | d + 1, key, ix, s => visL (visK rf d) (rf (.int key)).2 ix (rf (.int key)).1 0 s
noncomputable def rfB : Operand × Array Tmp × Code × Code := ((rfs (codeOf Tryz.prog 12))[0]?).getD (.tmp 0, #[], .skip, .skip)
def tmB (n : Nat) (x : Nat → Nat → Dt) : List AV := (((mkF 72 [2, 7, 9] [.ptr 0 0, .isz n SS x, .ptr 1 0]).set 54 (.isz n SS x)).set 55 (.map 6)).set 56 (.fn (.func 91) [.ptr 8 0])
def ctxP (n : Nat) (x : Nat → Nat → Dt) (tm : List AV) (ps : Array Tmp) (asg bd : Code) : Prop := tm = tmB n x ∧ ps = rfB.2.1 ∧ asg = rfB.2.2.1 ∧ bd = rfB.2.2.2
noncomputable def ctxB (n : Nat) (x : Nat → Nat → Dt) (tm : List AV) (ps : Array Tmp) (asg bd : Code) : Bool := @decide (ctxP n x tm ps asg bd) (Classical.propDecidable _)
theorem ctxB_iff {n : Nat} {x : Nat → Nat → Dt} {tm : List AV} {ps : Array Tmp} {asg bd : Code} : ctxB n x tm ps asg bd = true ↔ ctxP n x tm ps asg bd := @decide_eq_true_iff _ (Classical.propDecidable _)
def obT (g : Nat → Dt) : Ob := .cells (shA g SS 0) 44
def obTs : List (Nat → Dt) → List Ob
  | [] => []
  | g :: r => obT g :: obTs r
def deT : Ob → Option (Nat → Dt)
  | .cells [.int .i64 a0, .int .i64 a1, .int .i64 a2, .str a3, .str a4, .int .i64 a5, .int .i64 a6, .int .i64 a7, .isz n8 [.str, .str] x8, .isz n9 [.int .i64, .int .i64] x9] 44 => some (dtFs [[.int a0, .int a1, .int a2, .str a3, .str a4, .int a5, .int a6, .int a7, .row n8 x8, .row n9 x9]] 0)
  | _ => none
def deTs : List Ob → Option (List (Nat → Dt))
  | [] => some []
  | o :: r => match deT o with
    | none => none
    | some g => match deTs r with
      | none => none
      | some gs => some (g :: gs)
theorem deT_eq {o : Ob} {g : Nat → Dt} (h : deT o = some g) : o = obT g := by
  unfold deT at h
  split at h
  · cases h; rfl
  · cases h
theorem deTs_eq : ∀ (l : List Ob) (gs : List (Nat → Dt)), deTs l = some gs → l = obTs gs := by
  intro l
  induction l with
  | nil => intro gs h; cases h; rfl
  | cons o r ih =>
    intro gs h
    unfold deTs at h
    cases e1 : deT o with
    | none => rw [e1] at h; cases h
    | some g =>
      rw [e1] at h
      cases e2 : deTs r with
      | none => rw [e2] at h; cases h
      | some gs' =>
        rw [e2] at h
        cases h
        rw [deT_eq e1, ih _ e2]
        rfl
def nmT (e : Nat → Dt) : Nat → Dt := dtFs [nmE e] 0
def nmTs : List (Nat → Dt) → List (Nat → Dt)
  | [] => []
  | g :: r => nmT g :: nmTs r
noncomputable def tlB (l : List (Nat → Dt)) : Bool := @decide (nmTs l = l) (Classical.propDecidable _)
theorem tlB_iff {l : List (Nat → Dt)} : tlB l = true ↔ nmTs l = l := @decide_eq_true_iff _ (Classical.propDecidable _)
theorem deTs_ob : ∀ (l : List (Nat → Dt)), deTs (obTs l) = some (nmTs l) := by
  intro l
  induction l with
  | nil => rfl
  | cons g r ih =>
    show (match deT (obT g) with
      | none => none
      | some g => match deTs (obTs r) with
        | none => none
        | some gs => some (g :: gs)) = _
    rw [ih]
    rfl
theorem nmTs_app : ∀ (l r : List (Nat → Dt)), nmTs (l ++ r) = nmTs l ++ nmTs r := by
  intro l r
  induction l with
  | nil => rfl
  | cons g q ih => show nmT g :: nmTs (q ++ r) = _; rw [ih]; rfl
theorem nmTs_len : ∀ (l : List (Nat → Dt)), (nmTs l).length = l.length := by
  intro l
  induction l with
  | nil => rfl
  | cons g q ih => show (nmTs q).length + 1 = _; rw [ih]; rfl
theorem nmTs_nm : ∀ (l : List (Nat → Dt)), nmTs (nmTs l) = nmTs l := by
  intro l
  induction l with
  | nil => rfl
  | cons g q ih => show nmT (nmT g) :: nmTs (nmTs q) = _; rw [ih]; rfl
structure S68 where
  z0 : Int
  ti : Int
  v : Nat
  w : Nat
  m : Nat
  sp : Nat → Nat → Dt
  m2 : Nat
  pa : Nat → Nat → Dt
  n : Nat
  x : Nat → Nat → Dt
  n2 : Nat
  od : Nat → Nat → Dt
  c : Nat
  mf : Ky → Option Nat
  rf : Ky → Nat × (Nat → Nat → Dt)
  tm : List AV
  ps : Array Tmp
  asg : Code
  bd : Code
  ct : Int
  ix : Int
  rs : Bool
  key : Ky
  ver : Nat
  ln : Int
  i : Int
  tl : List (Nat → Dt)
abbrev keep68 : List Nat := [1, 3, 4, 5, 8, 14, 15, 16]
abbrev vs68 (s : S68) : List AV := [.int .i64 s.ix, .ptr 11 0, .ptr 12 0, .ptr 13 0, .bool s.rs, .own 7 s.key s.ver, .int .i64 s.ln, .int .i64 s.i]
abbrev hp68 (s : S68) : List Ob := (.cells [.int .i64 s.z0, .nsl, .nsl] 27 :: .cells [.int .i64 s.ti, .own 2 (.int 0) s.v, .own 3 (.int 0) s.w] 27 :: .own 44 SS s.m s.sp :: .own 3 [.int .i64] s.m2 s.pa :: .cells [.isz s.n SS s.x] 24 :: .own 3 [.int .i64] s.n2 s.od :: .mapF (.int .i64) s.c (.own 7 s.mf) :: .rows 44 SS s.rf :: .cells [.map 6] 84 :: .dfr :: .loop s.tm s.ps s.asg s.bd 9 .ready :: .cells [.yld 10] 118 :: .cells [.int .i64 s.ct] 3 :: .cells [.fn (.func 92) [.ptr 8 0, .ptr 11 0, .ptr 12 0, .ptr 13 0]] 119 :: obTs s.tl)
def dA : List AV → Option (Int × Bool × Ky × Nat × Int × Int)
  | [.int .i64 ix, .ptr 11 0, .ptr 12 0, .ptr 13 0, .bool rs, .own 7 key ver, .int .i64 ln, .int .i64 i] => some (ix, rs, key, ver, ln, i)
  | _ => none
theorem dA_eq {l : List AV} {ix : Int} {rs : Bool} {key : Ky} {ver : Nat} {ln : Int} {i : Int} (h : dA l = some (ix, rs, key, ver, ln, i)) : l = [.int .i64 ix, .ptr 11 0, .ptr 12 0, .ptr 13 0, .bool rs, .own 7 key ver, .int .i64 ln, .int .i64 i] := by
  unfold dA at h
  split at h
  · cases h; rfl
  · cases h
def dB : List Ob → Option ((Int × Int × Nat × Nat × Nat × (Nat → Nat → Dt) × Nat × (Nat → Nat → Dt)) × List Ob)
  | .cells [.int .i64 z0, .nsl, .nsl] 27 :: .cells [.int .i64 ti, .own 2 (.int 0) v, .own 3 (.int 0) w] 27 :: .own 44 [.int .i64, .int .i64, .int .i64, .str, .str, .int .i64, .int .i64, .int .i64, .row [.str, .str], .row [.int .i64, .int .i64]] m sp :: .own 3 [.int .i64] m2 pa :: r => some ((z0, ti, v, w, m, sp, m2, pa), r)
  | _ => none
theorem dB_eq {l r : List Ob} {z0 : Int} {ti : Int} {v : Nat} {w : Nat} {m : Nat} {sp : (Nat → Nat → Dt)} {m2 : Nat} {pa : (Nat → Nat → Dt)} (h : dB l = some ((z0, ti, v, w, m, sp, m2, pa), r)) : l = .cells [.int .i64 z0, .nsl, .nsl] 27 :: .cells [.int .i64 ti, .own 2 (.int 0) v, .own 3 (.int 0) w] 27 :: .own 44 [.int .i64, .int .i64, .int .i64, .str, .str, .int .i64, .int .i64, .int .i64, .row [.str, .str], .row [.int .i64, .int .i64]] m sp :: .own 3 [.int .i64] m2 pa :: r := by
  unfold dB at h
  split at h
  · cases h; rfl
  · cases h
def dC : List Ob → Option ((Nat × (Nat → Nat → Dt) × Nat × (Nat → Nat → Dt) × Nat × (Ky → Option Nat) × (Ky → Nat × (Nat → Nat → Dt))) × List Ob)
  | .cells [.isz n [.int .i64, .int .i64, .int .i64, .str, .str, .int .i64, .int .i64, .int .i64, .row [.str, .str], .row [.int .i64, .int .i64]] x] 24 :: .own 3 [.int .i64] n2 od :: .mapF (.int .i64) c (.own 7 mf) :: .rows 44 [.int .i64, .int .i64, .int .i64, .str, .str, .int .i64, .int .i64, .int .i64, .row [.str, .str], .row [.int .i64, .int .i64]] rf :: .cells [.map 6] 84 :: r => some ((n, x, n2, od, c, mf, rf), r)
  | _ => none
theorem dC_eq {l r : List Ob} {n : Nat} {x : (Nat → Nat → Dt)} {n2 : Nat} {od : (Nat → Nat → Dt)} {c : Nat} {mf : (Ky → Option Nat)} {rf : (Ky → Nat × (Nat → Nat → Dt))} (h : dC l = some ((n, x, n2, od, c, mf, rf), r)) : l = .cells [.isz n [.int .i64, .int .i64, .int .i64, .str, .str, .int .i64, .int .i64, .int .i64, .row [.str, .str], .row [.int .i64, .int .i64]] x] 24 :: .own 3 [.int .i64] n2 od :: .mapF (.int .i64) c (.own 7 mf) :: .rows 44 [.int .i64, .int .i64, .int .i64, .str, .str, .int .i64, .int .i64, .int .i64, .row [.str, .str], .row [.int .i64, .int .i64]] rf :: .cells [.map 6] 84 :: r := by
  unfold dC at h
  split at h
  · cases h; rfl
  · cases h
def dD : List Ob → Option (((List AV) × (Array Tmp) × Code × Code × Int) × List Ob)
  | .dfr :: .loop tm ps asg bd 9 .ready :: .cells [.yld 10] 118 :: .cells [.int .i64 ct] 3 :: .cells [.fn (.func 92) [.ptr 8 0, .ptr 11 0, .ptr 12 0, .ptr 13 0]] 119 :: r => some ((tm, ps, asg, bd, ct), r)
  | _ => none
theorem dD_eq {l r : List Ob} {tm : (List AV)} {ps : (Array Tmp)} {asg : Code} {bd : Code} {ct : Int} (h : dD l = some ((tm, ps, asg, bd, ct), r)) : l = .dfr :: .loop tm ps asg bd 9 .ready :: .cells [.yld 10] 118 :: .cells [.int .i64 ct] 3 :: .cells [.fn (.func 92) [.ptr 8 0, .ptr 11 0, .ptr 12 0, .ptr 13 0]] 119 :: r := by
  unfold dD at h
  split at h
  · cases h; rfl
  · cases h
def dec68 (vs : List AV) (H : List Ob) : Option S68 := match dA vs with
  | none => none
  | some (ix, rs, key, ver, ln, i) => match dB H with
    | none => none
    | some ((z0, ti, v, w, m, sp, m2, pa), H1) => match dC H1 with
      | none => none
      | some ((n, x, n2, od, c, mf, rf), H2) => match dD H2 with
        | none => none
        | some ((tm, ps, asg, bd, ct), H3) => match deTs H3 with
          | none => none
          | some tl => some ⟨z0, ti, v, w, m, sp, m2, pa, n, x, n2, od, c, mf, rf, tm, ps, asg, bd, ct, ix, rs, key, ver, ln, i, tl⟩
theorem dec68_eq {vs : List AV} {H : List Ob} {s : S68} (h : dec68 vs H = some s) : vs = vs68 s ∧ H = hp68 s := by
  unfold dec68 at h
  split at h
  · cases h
  rename_i hA
  split at h
  · cases h
  rename_i hB
  split at h
  · cases h
  rename_i hC
  split at h
  · cases h
  rename_i hD
  split at h
  · cases h
  rename_i hT
  obtain rfl := Option.some.inj h
  rw [dA_eq hA, dB_eq hB, dC_eq hC, dD_eq hD, deTs_eq _ _ hT]
  exact ⟨rfl, rfl⟩
noncomputable def dom68 (D : Nat) (s : S68) : Bool := Nat.beq (s.tl.length + 2 * D) 24 && (ctxB s.n s.x s.tm s.ps s.asg s.bd && (verB 1000 s.mf s.rf && (tlB s.tl && (Nat.beq s.v s.m && (Nat.beq s.w s.m && (Nat.beq s.m2 s.m && (decide (s.ct = (s.m : Int)) && (Nat.beq (s.rf s.key).1 s.ver && (decide (s.ln = (s.ver : Int)) && (decide (0 ≤ s.i) && (decide (s.i ≤ (s.ver : Int)) && (Nat.ble s.ver 1000 && (visL (visK s.rf D) (s.rf s.key).2 s.ix (s.ver - s.i.toNat) s.i.toNat ⟨s.m, s.sp, s.pa⟩).isSome))))))))))))
noncomputable def out68 (D : Nat) (s : S68) : VS := (visL (visK s.rf D) (s.rf s.key).2 s.ix (s.ver - s.i.toNat) s.i.toNat ⟨s.m, s.sp, s.pa⟩).getD ⟨s.m, s.sp, s.pa⟩
noncomputable def fin68 (D : Nat) (s : S68) : Tr (Ex × List AV × List Ob) := .leaf (.exit 0, [.int .i64 s.ix, .ptr 11 0, .ptr 12 0, .ptr 13 0, .bool s.rs, .own 7 s.key s.ver, .int .i64 s.ln, .int .i64 (s.ver : Int)], (.cells [.int .i64 s.z0, .nsl, .nsl] 27 :: .cells [.int .i64 s.ti, .own 2 k0 (out68 D s).m, .own 3 k0 (out68 D s).m] 27 :: .own 44 SS (out68 D s).m (out68 D s).sp :: .own 3 [.int .i64] (out68 D s).m (out68 D s).pa :: .cells [.isz s.n SS s.x] 24 :: .own 3 [.int .i64] s.n2 s.od :: .mapF (.int .i64) s.c (.own 7 s.mf) :: .rows 44 SS s.rf :: .cells [.map 6] 84 :: .dfr :: .loop s.tm s.ps s.asg s.bd 9 .ready :: .cells [.yld 10] 118 :: .cells [.int .i64 ((out68 D s).m : Int)] 3 :: .cells [.fn (.func 92) [.ptr 8 0, .ptr 11 0, .ptr 12 0, .ptr 13 0]] 119 :: obTs s.tl))
noncomputable def domV : Nat → S68 → Bool
  | 0, _ => false
  | D + 1, s => dom68 D s
noncomputable def finV : Nat → S68 → Tr (Ex × List AV × List Ob)
  | 0, _ => .non
  | D + 1, s => fin68 D s
noncomputable abbrev lp68 (E : Nat) (_ : Nat) : LT := .sum keep68 (stF dec68 (domV E) (finV E))
abbrev spV : Sp := spOf [t52, t53]
abbrev inV : FuncId → Bool := inlOf [46, 47, 91, 92]
noncomputable abbrev cVb {β : Type} : CallK β := callHK (callK Tryz.prog spV inV extD attD uD 20) [h55]
noncomputable def cVf {β : Type} : Nat → FuncId → List AV → List Ob → (Res → List Ob → Tr β) → Tr β
  | 0 => cVb.fn
  | D + 1 => (callLK Tryz.prog spV inV extD ⟨cVf D, cVb.rnd⟩ [(92, lp68 D)]).fn
noncomputable def cV {β : Type} (D : Nat) : CallK β := ⟨cVf D, cVb.rnd⟩
theorem cVf_succ {β : Type} (D : Nat) : (cVf (D + 1) : FuncId → List AV → List Ob → (Res → List Ob → Tr β) → Tr β) = (callLK Tryz.prog spV inV extD ⟨cVf D, cVb.rnd⟩ [(92, lp68 D)]).fn := by rw [cVf]
theorem callLK_mk {β : Type} (cK : CallK β) (X : List (Nat × (Nat → LT))) {g : FuncId → List AV → List Ob → (Res → List Ob → Tr β) → Tr β} (h : g = (callLK Tryz.prog spV inV extD cK X).fn) : (⟨g, cK.rnd⟩ : CallK β) = callLK Tryz.prog spV inV extD cK X := by
  subst h; rfl
theorem cV_succ {β : Type} (D : Nat) : (cV (D + 1) : CallK β) = callLK Tryz.prog spV inV extD (cV D) [(92, lp68 D)] := callLK_mk (cV D) [(92, lp68 D)] (cVf_succ D)
open Go.Evl Go.RowKit
noncomputable def inW (z0 ti : Int) (m : Nat) (sp pa : Nat → Nat → Dt) (n : Nat) (x : Nat → Nat → Dt) (n2 : Nat) (od : Nat → Nat → Dt) (c : Nat) (mf : Ky → Option Nat) (rf : Ky → Nat × (Nat → Nat → Dt)) (ix0 : Int) (key : Ky) (i : Int) (tl : List (Nat → Dt)) : S68 := ⟨z0, ti, m + 1, m + 1, m + 1, appEl sp m (dtFs [nmE ((rf key).2 i.toNat)]), m + 1, appEl pa m (rwI ix0), n, x, n2, od, c, mf, rf, tmB n x, rfB.2.1, rfB.2.2.1, rfB.2.2.2, IntKind.i64.wrap ((m : Int) + 1), (m : Int), false, (.int ((rf key).2 i.toNat 1).n), (mf (.int ((rf key).2 i.toNat 1).n)).getD 0, (((mf (.int ((rf key).2 i.toNat 1).n)).getD 0 : Nat) : Int), 0, nmTs tl ++ [nmT ((rf key).2 i.toNat), nmT ((rf key).2 i.toNat)]⟩
noncomputable def rndV (D : Nat) (z0 ti : Int) (m : Nat) (sp pa : Nat → Nat → Dt) (n : Nat) (x : Nat → Nat → Dt) (n2 : Nat) (od : Nat → Nat → Dt) (c : Nat) (mf : Ky → Option Nat) (rf : Ky → Nat × (Nat → Nat → Dt)) (ix : Int) (rs : Bool) (key : Ky) (ver : Nat) (i : Int) (tl : List (Nat → Dt)) : Option (Ex × List AV × List Ob) :=
  bif decide (i < (ver : Int)) then bif decide (0 ≤ i) && decide (i < (ver : Int)) then bif (rf key).1.beq ver then bif (rf key).1.beq ver && i.toNat.blt (rf key).1 then bif m.beq m && (m.ble 1000000 && true) then bif m.beq m && (m.ble 1000000 && true) then bif (rf (.int ((rf key).2 i.toNat 1).n)).1.beq ((mf (.int ((rf key).2 i.toNat 1).n)).getD 0) then bif domV D (inW z0 ti m sp pa n x n2 od c mf rf ix key i tl) then
    some (.normal, [.int .i64 ix, .ptr 11 0, .ptr 12 0, .ptr 13 0, .bool rs, .own 7 key ver, .int .i64 (ver : Int), .int .i64 (IntKind.i64.wrap (i + 1))], .cells [.int .i64 z0, .nsl, .nsl] 27 :: .cells [.int .i64 ti, .own 2 k0 ((out68 (D - 1) (inW z0 ti m sp pa n x n2 od c mf rf ix key i tl)).m), .own 3 k0 ((out68 (D - 1) (inW z0 ti m sp pa n x n2 od c mf rf ix key i tl)).m)] 27 :: .own 44 SS ((out68 (D - 1) (inW z0 ti m sp pa n x n2 od c mf rf ix key i tl)).m) ((out68 (D - 1) (inW z0 ti m sp pa n x n2 od c mf rf ix key i tl)).sp) :: .own 3 [.int .i64] ((out68 (D - 1) (inW z0 ti m sp pa n x n2 od c mf rf ix key i tl)).m) ((out68 (D - 1) (inW z0 ti m sp pa n x n2 od c mf rf ix key i tl)).pa) :: .cells [.isz n SS x] 24 :: .own 3 [.int .i64] n2 od :: .mapF (.int .i64) c (.own 7 mf) :: .rows 44 SS rf :: .cells [.map 6] 84 :: .dfr :: .loop (tmB n x) rfB.2.1 rfB.2.2.1 rfB.2.2.2 9 .ready :: .cells [.yld 10] 118 :: .cells [.int .i64 (((out68 (D - 1) (inW z0 ti m sp pa n x n2 od c mf rf ix key i tl)).m : Nat) : Int)] 3 :: .cells [.fn (.func 92) [.ptr 8 0, .ptr 11 0, .ptr 12 0, .ptr 13 0]] 119 :: obTs tl) else none else none else none else none else none else none else none
  else some (.exit 0, [.int .i64 ix, .ptr 11 0, .ptr 12 0, .ptr 13 0, .bool rs, .own 7 key ver, .int .i64 (ver : Int), .int .i64 i], .cells [.int .i64 z0, .nsl, .nsl] 27 :: .cells [.int .i64 ti, .own 2 k0 m, .own 3 k0 m] 27 :: .own 44 SS m sp :: .own 3 [.int .i64] m pa :: .cells [.isz n SS x] 24 :: .own 3 [.int .i64] n2 od :: .mapF (.int .i64) c (.own 7 mf) :: .rows 44 SS rf :: .cells [.map 6] 84 :: .dfr :: .loop (tmB n x) rfB.2.1 rfB.2.2.1 rfB.2.2.2 9 .ready :: .cells [.yld 10] 118 :: .cells [.int .i64 (m : Int)] 3 :: .cells [.fn (.func 92) [.ptr 8 0, .ptr 11 0, .ptr 12 0, .ptr 13 0]] 119 :: obTs tl)
theorem loopV0 (z0 ti : Int) (m : Nat) (sp pa : Nat → Nat → Dt) (n : Nat) (x : Nat → Nat → Dt) (n2 : Nat) (od : Nat → Nat → Dt) (c : Nat) (mf : Ky → Option Nat) (rf : Ky → Nat × (Nat → Nat → Dt)) (ix : Int) (rs : Bool) (key : Ky) (ver : Nat) (i : Int) (g0 : Nat → Dt) (g1 : Nat → Dt) (g2 : Nat → Dt) (g3 : Nat → Dt) (g4 : Nat → Dt) (g5 : Nat → Dt) (g6 : Nat → Dt) (g7 : Nat → Dt) (g8 : Nat → Dt) (g9 : Nat → Dt) (g10 : Nat → Dt) (g11 : Nat → Dt) (g12 : Nat → Dt) (g13 : Nat → Dt) (g14 : Nat → Dt) (g15 : Nat → Dt) (g16 : Nat → Dt) (g17 : Nat → Dt) (g18 : Nat → Dt) (g19 : Nat → Dt) (g20 : Nat → Dt) (g21 : Nat → Dt) (g22 : Nat → Dt) (g23 : Nat → Dt) : evC (β := Ex × List AV × List Ob) Tryz.prog spV inV extD (cV 1) (lp68 1) (bodyOf Tryz.prog 92 0) ⟨mkF Tryz.f92.ntmps keep68 [.int .i64 ix, .ptr 11 0, .ptr 12 0, .ptr 13 0, .bool rs, .own 7 key ver, .int .i64 (ver : Int), .int .i64 i], [.cells [.int .i64 z0, .nsl, .nsl] 27, .cells [.int .i64 ti, .own 2 k0 m, .own 3 k0 m] 27, .own 44 SS m sp, .own 3 [.int .i64] m pa, .cells [.isz n SS x] 24, .own 3 [.int .i64] n2 od, .mapF (.int .i64) c (.own 7 mf), .rows 44 SS rf, .cells [.map 6] 84, .dfr, .loop (tmB n x) rfB.2.1 rfB.2.2.1 rfB.2.2.2 9 .ready, .cells [.yld 10] 118, .cells [.int .i64 (m : Int)] 3, .cells [.fn (.func 92) [.ptr 8 0, .ptr 11 0, .ptr 12 0, .ptr 13 0]] 119, obT g0, obT g1, obT g2, obT g3, obT g4, obT g5, obT g6, obT g7, obT g8, obT g9, obT g10, obT g11, obT g12, obT g13, obT g14, obT g15, obT g16, obT g17, obT g18, obT g19, obT g20, obT g21, obT g22, obT g23]⟩ (fun e st => (cutBack keep68 38 st).map fun q => (e, q.1, q.2)) = rndV 0 z0 ti m sp pa n x n2 od c mf rf ix rs key ver i [g0, g1, g2, g3, g4, g5, g6, g7, g8, g9, g10, g11, g12, g13, g14, g15, g16, g17, g18, g19, g20, g21, g22, g23] := by kernel_rfl
theorem loopV1 (z0 ti : Int) (m : Nat) (sp pa : Nat → Nat → Dt) (n : Nat) (x : Nat → Nat → Dt) (n2 : Nat) (od : Nat → Nat → Dt) (c : Nat) (mf : Ky → Option Nat) (rf : Ky → Nat × (Nat → Nat → Dt)) (ix : Int) (rs : Bool) (key : Ky) (ver : Nat) (i : Int) (g0 : Nat → Dt) (g1 : Nat → Dt) (g2 : Nat → Dt) (g3 : Nat → Dt) (g4 : Nat → Dt) (g5 : Nat → Dt) (g6 : Nat → Dt) (g7 : Nat → Dt) (g8 : Nat → Dt) (g9 : Nat → Dt) (g10 : Nat → Dt) (g11 : Nat → Dt) (g12 : Nat → Dt) (g13 : Nat → Dt) (g14 : Nat → Dt) (g15 : Nat → Dt) (g16 : Nat → Dt) (g17 : Nat → Dt) (g18 : Nat → Dt) (g19 : Nat → Dt) (g20 : Nat → Dt) (g21 : Nat → Dt) : evC (β := Ex × List AV × List Ob) Tryz.prog spV inV extD (cV 2) (lp68 2) (bodyOf Tryz.prog 92 0) ⟨mkF Tryz.f92.ntmps keep68 [.int .i64 ix, .ptr 11 0, .ptr 12 0, .ptr 13 0, .bool rs, .own 7 key ver, .int .i64 (ver : Int), .int .i64 i], [.cells [.int .i64 z0, .nsl, .nsl] 27, .cells [.int .i64 ti, .own 2 k0 m, .own 3 k0 m] 27, .own 44 SS m sp, .own 3 [.int .i64] m pa, .cells [.isz n SS x] 24, .own 3 [.int .i64] n2 od, .mapF (.int .i64) c (.own 7 mf), .rows 44 SS rf, .cells [.map 6] 84, .dfr, .loop (tmB n x) rfB.2.1 rfB.2.2.1 rfB.2.2.2 9 .ready, .cells [.yld 10] 118, .cells [.int .i64 (m : Int)] 3, .cells [.fn (.func 92) [.ptr 8 0, .ptr 11 0, .ptr 12 0, .ptr 13 0]] 119, obT g0, obT g1, obT g2, obT g3, obT g4, obT g5, obT g6, obT g7, obT g8, obT g9, obT g10, obT g11, obT g12, obT g13, obT g14, obT g15, obT g16, obT g17, obT g18, obT g19, obT g20, obT g21]⟩ (fun e st => (cutBack keep68 36 st).map fun q => (e, q.1, q.2)) = rndV 1 z0 ti m sp pa n x n2 od c mf rf ix rs key ver i [g0, g1, g2, g3, g4, g5, g6, g7, g8, g9, g10, g11, g12, g13, g14, g15, g16, g17, g18, g19, g20, g21] := by kernel_rfl
theorem loopV2 (z0 ti : Int) (m : Nat) (sp pa : Nat → Nat → Dt) (n : Nat) (x : Nat → Nat → Dt) (n2 : Nat) (od : Nat → Nat → Dt) (c : Nat) (mf : Ky → Option Nat) (rf : Ky → Nat × (Nat → Nat → Dt)) (ix : Int) (rs : Bool) (key : Ky) (ver : Nat) (i : Int) (g0 : Nat → Dt) (g1 : Nat → Dt) (g2 : Nat → Dt) (g3 : Nat → Dt) (g4 : Nat → Dt) (g5 : Nat → Dt) (g6 : Nat → Dt) (g7 : Nat → Dt) (g8 : Nat → Dt) (g9 : Nat → Dt) (g10 : Nat → Dt) (g11 : Nat → Dt) (g12 : Nat → Dt) (g13 : Nat → Dt) (g14 : Nat → Dt) (g15 : Nat → Dt) (g16 : Nat → Dt) (g17 : Nat → Dt) (g18 : Nat → Dt) (g19 : Nat → Dt) : evC (β := Ex × List AV × List Ob) Tryz.prog spV inV extD (cV 3) (lp68 3) (bodyOf Tryz.prog 92 0) ⟨mkF Tryz.f92.ntmps keep68 [.int .i64 ix, .ptr 11 0, .ptr 12 0, .ptr 13 0, .bool rs, .own 7 key ver, .int .i64 (ver : Int), .int .i64 i], [.cells [.int .i64 z0, .nsl, .nsl] 27, .cells [.int .i64 ti, .own 2 k0 m, .own 3 k0 m] 27, .own 44 SS m sp, .own 3 [.int .i64] m pa, .cells [.isz n SS x] 24, .own 3 [.int .i64] n2 od, .mapF (.int .i64) c (.own 7 mf), .rows 44 SS rf, .cells [.map 6] 84, .dfr, .loop (tmB n x) rfB.2.1 rfB.2.2.1 rfB.2.2.2 9 .ready, .cells [.yld 10] 118, .cells [.int .i64 (m : Int)] 3, .cells [.fn (.func 92) [.ptr 8 0, .ptr 11 0, .ptr 12 0, .ptr 13 0]] 119, obT g0, obT g1, obT g2, obT g3, obT g4, obT g5, obT g6, obT g7, obT g8, obT g9, obT g10, obT g11, obT g12, obT g13, obT g14, obT g15, obT g16, obT g17, obT g18, obT g19]⟩ (fun e st => (cutBack keep68 34 st).map fun q => (e, q.1, q.2)) = rndV 2 z0 ti m sp pa n x n2 od c mf rf ix rs key ver i [g0, g1, g2, g3, g4, g5, g6, g7, g8, g9, g10, g11, g12, g13, g14, g15, g16, g17, g18, g19] := by kernel_rfl
theorem loopV3 (z0 ti : Int) (m : Nat) (sp pa : Nat → Nat → Dt) (n : Nat) (x : Nat → Nat → Dt) (n2 : Nat) (od : Nat → Nat → Dt) (c : Nat) (mf : Ky → Option Nat) (rf : Ky → Nat × (Nat → Nat → Dt)) (ix : Int) (rs : Bool) (key : Ky) (ver : Nat) (i : Int) (g0 : Nat → Dt) (g1 : Nat → Dt) (g2 : Nat → Dt) (g3 : Nat → Dt) (g4 : Nat → Dt) (g5 : Nat → Dt) (g6 : Nat → Dt) (g7 : Nat → Dt) (g8 : Nat → Dt) (g9 : Nat → Dt) (g10 : Nat → Dt) (g11 : Nat → Dt) (g12 : Nat → Dt) (g13 : Nat → Dt) (g14 : Nat → Dt) (g15 : Nat → Dt) (g16 : Nat → Dt) (g17 : Nat → Dt) : evC (β := Ex × List AV × List Ob) Tryz.prog spV inV extD (cV 4) (lp68 4) (bodyOf Tryz.prog 92 0) ⟨mkF Tryz.f92.ntmps keep68 [.int .i64 ix, .ptr 11 0, .ptr 12 0, .ptr 13 0, .bool rs, .own 7 key ver, .int .i64 (ver : Int), .int .i64 i], [.cells [.int .i64 z0, .nsl, .nsl] 27, .cells [.int .i64 ti, .own 2 k0 m, .own 3 k0 m] 27, .own 44 SS m sp, .own 3 [.int .i64] m pa, .cells [.isz n SS x] 24, .own 3 [.int .i64] n2 od, .mapF (.int .i64) c (.own 7 mf), .rows 44 SS rf, .cells [.map 6] 84, .dfr, .loop (tmB n x) rfB.2.1 rfB.2.2.1 rfB.2.2.2 9 .ready, .cells [.yld 10] 118, .cells [.int .i64 (m : Int)] 3, .cells [.fn (.func 92) [.ptr 8 0, .ptr 11 0, .ptr 12 0, .ptr 13 0]] 119, obT g0, obT g1, obT g2, obT g3, obT g4, obT g5, obT g6, obT g7, obT g8, obT g9, obT g10, obT g11, obT g12, obT g13, obT g14, obT g15, obT g16, obT g17]⟩ (fun e st => (cutBack keep68 32 st).map fun q => (e, q.1, q.2)) = rndV 3 z0 ti m sp pa n x n2 od c mf rf ix rs key ver i [g0, g1, g2, g3, g4, g5, g6, g7, g8, g9, g10, g11, g12, g13, g14, g15, g16, g17] := by kernel_rfl
theorem loopV4 (z0 ti : Int) (m : Nat) (sp pa : Nat → Nat → Dt) (n : Nat) (x : Nat → Nat → Dt) (n2 : Nat) (od : Nat → Nat → Dt) (c : Nat) (mf : Ky → Option Nat) (rf : Ky → Nat × (Nat → Nat → Dt)) (ix : Int) (rs : Bool) (key : Ky) (ver : Nat) (i : Int) (g0 : Nat → Dt) (g1 : Nat → Dt) (g2 : Nat → Dt) (g3 : Nat → Dt) (g4 : Nat → Dt) (g5 : Nat → Dt) (g6 : Nat → Dt) (g7 : Nat → Dt) (g8 : Nat → Dt) (g9 : Nat → Dt) (g10 : Nat → Dt) (g11 : Nat → Dt) (g12 : Nat → Dt) (g13 : Nat → Dt) (g14 : Nat → Dt) (g15 : Nat → Dt) : evC (β := Ex × List AV × List Ob) Tryz.prog spV inV extD (cV 5) (lp68 5) (bodyOf Tryz.prog 92 0) ⟨mkF Tryz.f92.ntmps keep68 [.int .i64 ix, .ptr 11 0, .ptr 12 0, .ptr 13 0, .bool rs, .own 7 key ver, .int .i64 (ver : Int), .int .i64 i], [.cells [.int .i64 z0, .nsl, .nsl] 27, .cells [.int .i64 ti, .own 2 k0 m, .own 3 k0 m] 27, .own 44 SS m sp, .own 3 [.int .i64] m pa, .cells [.isz n SS x] 24, .own 3 [.int .i64] n2 od, .mapF (.int .i64) c (.own 7 mf), .rows 44 SS rf, .cells [.map 6] 84, .dfr, .loop (tmB n x) rfB.2.1 rfB.2.2.1 rfB.2.2.2 9 .ready, .cells [.yld 10] 118, .cells [.int .i64 (m : Int)] 3, .cells [.fn (.func 92) [.ptr 8 0, .ptr 11 0, .ptr 12 0, .ptr 13 0]] 119, obT g0, obT g1, obT g2, obT g3, obT g4, obT g5, obT g6, obT g7, obT g8, obT g9, obT g10, obT g11, obT g12, obT g13, obT g14, obT g15]⟩ (fun e st => (cutBack keep68 30 st).map fun q => (e, q.1, q.2)) = rndV 4 z0 ti m sp pa n x n2 od c mf rf ix rs key ver i [g0, g1, g2, g3, g4, g5, g6, g7, g8, g9, g10, g11, g12, g13, g14, g15] := by kernel_rfl
theorem loopV5 (z0 ti : Int) (m : Nat) (sp pa : Nat → Nat → Dt) (n : Nat) (x : Nat → Nat → Dt) (n2 : Nat) (od : Nat → Nat → Dt) (c : Nat) (mf : Ky → Option Nat) (rf : Ky → Nat × (Nat → Nat → Dt)) (ix : Int) (rs : Bool) (key : Ky) (ver : Nat) (i : Int) (g0 : Nat → Dt) (g1 : Nat → Dt) (g2 : Nat → Dt) (g3 : Nat → Dt) (g4 : Nat → Dt) (g5 : Nat → Dt) (g6 : Nat → Dt) (g7 : Nat → Dt) (g8 : Nat → Dt) (g9 : Nat → Dt) (g10 : Nat → Dt) (g11 : Nat → Dt) (g12 : Nat → Dt) (g13 : Nat → Dt) : evC (β := Ex × List AV × List Ob) Tryz.prog spV inV extD (cV 6) (lp68 6) (bodyOf Tryz.prog 92 0) ⟨mkF Tryz.f92.ntmps keep68 [.int .i64 ix, .ptr 11 0, .ptr 12 0, .ptr 13 0, .bool rs, .own 7 key ver, .int .i64 (ver : Int), .int .i64 i], [.cells [.int .i64 z0, .nsl, .nsl] 27, .cells [.int .i64 ti, .own 2 k0 m, .own 3 k0 m] 27, .own 44 SS m sp, .own 3 [.int .i64] m pa, .cells [.isz n SS x] 24, .own 3 [.int .i64] n2 od, .mapF (.int .i64) c (.own 7 mf), .rows 44 SS rf, .cells [.map 6] 84, .dfr, .loop (tmB n x) rfB.2.1 rfB.2.2.1 rfB.2.2.2 9 .ready, .cells [.yld 10] 118, .cells [.int .i64 (m : Int)] 3, .cells [.fn (.func 92) [.ptr 8 0, .ptr 11 0, .ptr 12 0, .ptr 13 0]] 119, obT g0, obT g1, obT g2, obT g3, obT g4, obT g5, obT g6, obT g7, obT g8, obT g9, obT g10, obT g11, obT g12, obT g13]⟩ (fun e st => (cutBack keep68 28 st).map fun q => (e, q.1, q.2)) = rndV 5 z0 ti m sp pa n x n2 od c mf rf ix rs key ver i [g0, g1, g2, g3, g4, g5, g6, g7, g8, g9, g10, g11, g12, g13] := by kernel_rfl
theorem loopV6 (z0 ti : Int) (m : Nat) (sp pa : Nat → Nat → Dt) (n : Nat) (x : Nat → Nat → Dt) (n2 : Nat) (od : Nat → Nat → Dt) (c : Nat) (mf : Ky → Option Nat) (rf : Ky → Nat × (Nat → Nat → Dt)) (ix : Int) (rs : Bool) (key : Ky) (ver : Nat) (i : Int) (g0 : Nat → Dt) (g1 : Nat → Dt) (g2 : Nat → Dt) (g3 : Nat → Dt) (g4 : Nat → Dt) (g5 : Nat → Dt) (g6 : Nat → Dt) (g7 : Nat → Dt) (g8 : Nat → Dt) (g9 : Nat → Dt) (g10 : Nat → Dt) (g11 : Nat → Dt) : evC (β := Ex × List AV × List Ob) Tryz.prog spV inV extD (cV 7) (lp68 7) (bodyOf Tryz.prog 92 0) ⟨mkF Tryz.f92.ntmps keep68 [.int .i64 ix, .ptr 11 0, .ptr 12 0, .ptr 13 0, .bool rs, .own 7 key ver, .int .i64 (ver : Int), .int .i64 i], [.cells [.int .i64 z0, .nsl, .nsl] 27, .cells [.int .i64 ti, .own 2 k0 m, .own 3 k0 m] 27, .own 44 SS m sp, .own 3 [.int .i64] m pa, .cells [.isz n SS x] 24, .own 3 [.int .i64] n2 od, .mapF (.int .i64) c (.own 7 mf), .rows 44 SS rf, .cells [.map 6] 84, .dfr, .loop (tmB n x) rfB.2.1 rfB.2.2.1 rfB.2.2.2 9 .ready, .cells [.yld 10] 118, .cells [.int .i64 (m : Int)] 3, .cells [.fn (.func 92) [.ptr 8 0, .ptr 11 0, .ptr 12 0, .ptr 13 0]] 119, obT g0, obT g1, obT g2, obT g3, obT g4, obT g5, obT g6, obT g7, obT g8, obT g9, obT g10, obT g11]⟩ (fun e st => (cutBack keep68 26 st).map fun q => (e, q.1, q.2)) = rndV 6 z0 ti m sp pa n x n2 od c mf rf ix rs key ver i [g0, g1, g2, g3, g4, g5, g6, g7, g8, g9, g10, g11] := by kernel_rfl
theorem loopV7 (z0 ti : Int) (m : Nat) (sp pa : Nat → Nat → Dt) (n : Nat) (x : Nat → Nat → Dt) (n2 : Nat) (od : Nat → Nat → Dt) (c : Nat) (mf : Ky → Option Nat) (rf : Ky → Nat × (Nat → Nat → Dt)) (ix : Int) (rs : Bool) (key : Ky) (ver : Nat) (i : Int) (g0 : Nat → Dt) (g1 : Nat → Dt) (g2 : Nat → Dt) (g3 : Nat → Dt) (g4 : Nat → Dt) (g5 : Nat → Dt) (g6 : Nat → Dt) (g7 : Nat → Dt) (g8 : Nat → Dt) (g9 : Nat → Dt) : evC (β := Ex × List AV × List Ob) Tryz.prog spV inV extD (cV 8) (lp68 8) (bodyOf Tryz.prog 92 0) ⟨mkF Tryz.f92.ntmps keep68 [.int .i64 ix, .ptr 11 0, .ptr 12 0, .ptr 13 0, .bool rs, .own 7 key ver, .int .i64 (ver : Int), .int .i64 i], [.cells [.int .i64 z0, .nsl, .nsl] 27, .cells [.int .i64 ti, .own 2 k0 m, .own 3 k0 m] 27, .own 44 SS m sp, .own 3 [.int .i64] m pa, .cells [.isz n SS x] 24, .own 3 [.int .i64] n2 od, .mapF (.int .i64) c (.own 7 mf), .rows 44 SS rf, .cells [.map 6] 84, .dfr, .loop (tmB n x) rfB.2.1 rfB.2.2.1 rfB.2.2.2 9 .ready, .cells [.yld 10] 118, .cells [.int .i64 (m : Int)] 3, .cells [.fn (.func 92) [.ptr 8 0, .ptr 11 0, .ptr 12 0, .ptr 13 0]] 119, obT g0, obT g1, obT g2, obT g3, obT g4, obT g5, obT g6, obT g7, obT g8, obT g9]⟩ (fun e st => (cutBack keep68 24 st).map fun q => (e, q.1, q.2)) = rndV 7 z0 ti m sp pa n x n2 od c mf rf ix rs key ver i [g0, g1, g2, g3, g4, g5, g6, g7, g8, g9] := by kernel_rfl
theorem loopV8 (z0 ti : Int) (m : Nat) (sp pa : Nat → Nat → Dt) (n : Nat) (x : Nat → Nat → Dt) (n2 : Nat) (od : Nat → Nat → Dt) (c : Nat) (mf : Ky → Option Nat) (rf : Ky → Nat × (Nat → Nat → Dt)) (ix : Int) (rs : Bool) (key : Ky) (ver : Nat) (i : Int) (g0 : Nat → Dt) (g1 : Nat → Dt) (g2 : Nat → Dt) (g3 : Nat → Dt) (g4 : Nat → Dt) (g5 : Nat → Dt) (g6 : Nat → Dt) (g7 : Nat → Dt) : evC (β := Ex × List AV × List Ob) Tryz.prog spV inV extD (cV 9) (lp68 9) (bodyOf Tryz.prog 92 0) ⟨mkF Tryz.f92.ntmps keep68 [.int .i64 ix, .ptr 11 0, .ptr 12 0, .ptr 13 0, .bool rs, .own 7 key ver, .int .i64 (ver : Int), .int .i64 i], [.cells [.int .i64 z0, .nsl, .nsl] 27, .cells [.int .i64 ti, .own 2 k0 m, .own 3 k0 m] 27, .own 44 SS m sp, .own 3 [.int .i64] m pa, .cells [.isz n SS x] 24, .own 3 [.int .i64] n2 od, .mapF (.int .i64) c (.own 7 mf), .rows 44 SS rf, .cells [.map 6] 84, .dfr, .loop (tmB n x) rfB.2.1 rfB.2.2.1 rfB.2.2.2 9 .ready, .cells [.yld 10] 118, .cells [.int .i64 (m : Int)] 3, .cells [.fn (.func 92) [.ptr 8 0, .ptr 11 0, .ptr 12 0, .ptr 13 0]] 119, obT g0, obT g1, obT g2, obT g3, obT g4, obT g5, obT g6, obT g7]⟩ (fun e st => (cutBack keep68 22 st).map fun q => (e, q.1, q.2)) = rndV 8 z0 ti m sp pa n x n2 od c mf rf ix rs key ver i [g0, g1, g2, g3, g4, g5, g6, g7] := by kernel_rfl
theorem loopV9 (z0 ti : Int) (m : Nat) (sp pa : Nat → Nat → Dt) (n : Nat) (x : Nat → Nat → Dt) (n2 : Nat) (od : Nat → Nat → Dt) (c : Nat) (mf : Ky → Option Nat) (rf : Ky → Nat × (Nat → Nat → Dt)) (ix : Int) (rs : Bool) (key : Ky) (ver : Nat) (i : Int) (g0 : Nat → Dt) (g1 : Nat → Dt) (g2 : Nat → Dt) (g3 : Nat → Dt) (g4 : Nat → Dt) (g5 : Nat → Dt) : evC (β := Ex × List AV × List Ob) Tryz.prog spV inV extD (cV 10) (lp68 10) (bodyOf Tryz.prog 92 0) ⟨mkF Tryz.f92.ntmps keep68 [.int .i64 ix, .ptr 11 0, .ptr 12 0, .ptr 13 0, .bool rs, .own 7 key ver, .int .i64 (ver : Int), .int .i64 i], [.cells [.int .i64 z0, .nsl, .nsl] 27, .cells [.int .i64 ti, .own 2 k0 m, .own 3 k0 m] 27, .own 44 SS m sp, .own 3 [.int .i64] m pa, .cells [.isz n SS x] 24, .own 3 [.int .i64] n2 od, .mapF (.int .i64) c (.own 7 mf), .rows 44 SS rf, .cells [.map 6] 84, .dfr, .loop (tmB n x) rfB.2.1 rfB.2.2.1 rfB.2.2.2 9 .ready, .cells [.yld 10] 118, .cells [.int .i64 (m : Int)] 3, .cells [.fn (.func 92) [.ptr 8 0, .ptr 11 0, .ptr 12 0, .ptr 13 0]] 119, obT g0, obT g1, obT g2, obT g3, obT g4, obT g5]⟩ (fun e st => (cutBack keep68 20 st).map fun q => (e, q.1, q.2)) = rndV 9 z0 ti m sp pa n x n2 od c mf rf ix rs key ver i [g0, g1, g2, g3, g4, g5] := by kernel_rfl
theorem loopV10 (z0 ti : Int) (m : Nat) (sp pa : Nat → Nat → Dt) (n : Nat) (x : Nat → Nat → Dt) (n2 : Nat) (od : Nat → Nat → Dt) (c : Nat) (mf : Ky → Option Nat) (rf : Ky → Nat × (Nat → Nat → Dt)) (ix : Int) (rs : Bool) (key : Ky) (ver : Nat) (i : Int) (g0 : Nat → Dt) (g1 : Nat → Dt) (g2 : Nat → Dt) (g3 : Nat → Dt) : evC (β := Ex × List AV × List Ob) Tryz.prog spV inV extD (cV 11) (lp68 11) (bodyOf Tryz.prog 92 0) ⟨mkF Tryz.f92.ntmps keep68 [.int .i64 ix, .ptr 11 0, .ptr 12 0, .ptr 13 0, .bool rs, .own 7 key ver, .int .i64 (ver : Int), .int .i64 i], [.cells [.int .i64 z0, .nsl, .nsl] 27, .cells [.int .i64 ti, .own 2 k0 m, .own 3 k0 m] 27, .own 44 SS m sp, .own 3 [.int .i64] m pa, .cells [.isz n SS x] 24, .own 3 [.int .i64] n2 od, .mapF (.int .i64) c (.own 7 mf), .rows 44 SS rf, .cells [.map 6] 84, .dfr, .loop (tmB n x) rfB.2.1 rfB.2.2.1 rfB.2.2.2 9 .ready, .cells [.yld 10] 118, .cells [.int .i64 (m : Int)] 3, .cells [.fn (.func 92) [.ptr 8 0, .ptr 11 0, .ptr 12 0, .ptr 13 0]] 119, obT g0, obT g1, obT g2, obT g3]⟩ (fun e st => (cutBack keep68 18 st).map fun q => (e, q.1, q.2)) = rndV 10 z0 ti m sp pa n x n2 od c mf rf ix rs key ver i [g0, g1, g2, g3] := by kernel_rfl
theorem loopV11 (z0 ti : Int) (m : Nat) (sp pa : Nat → Nat → Dt) (n : Nat) (x : Nat → Nat → Dt) (n2 : Nat) (od : Nat → Nat → Dt) (c : Nat) (mf : Ky → Option Nat) (rf : Ky → Nat × (Nat → Nat → Dt)) (ix : Int) (rs : Bool) (key : Ky) (ver : Nat) (i : Int) (g0 : Nat → Dt) (g1 : Nat → Dt) : evC (β := Ex × List AV × List Ob) Tryz.prog spV inV extD (cV 12) (lp68 12) (bodyOf Tryz.prog 92 0) ⟨mkF Tryz.f92.ntmps keep68 [.int .i64 ix, .ptr 11 0, .ptr 12 0, .ptr 13 0, .bool rs, .own 7 key ver, .int .i64 (ver : Int), .int .i64 i], [.cells [.int .i64 z0, .nsl, .nsl] 27, .cells [.int .i64 ti, .own 2 k0 m, .own 3 k0 m] 27, .own 44 SS m sp, .own 3 [.int .i64] m pa, .cells [.isz n SS x] 24, .own 3 [.int .i64] n2 od, .mapF (.int .i64) c (.own 7 mf), .rows 44 SS rf, .cells [.map 6] 84, .dfr, .loop (tmB n x) rfB.2.1 rfB.2.2.1 rfB.2.2.2 9 .ready, .cells [.yld 10] 118, .cells [.int .i64 (m : Int)] 3, .cells [.fn (.func 92) [.ptr 8 0, .ptr 11 0, .ptr 12 0, .ptr 13 0]] 119, obT g0, obT g1]⟩ (fun e st => (cutBack keep68 16 st).map fun q => (e, q.1, q.2)) = rndV 11 z0 ti m sp pa n x n2 od c mf rf ix rs key ver i [g0, g1] := by kernel_rfl
theorem loopV12 (z0 ti : Int) (m : Nat) (sp pa : Nat → Nat → Dt) (n : Nat) (x : Nat → Nat → Dt) (n2 : Nat) (od : Nat → Nat → Dt) (c : Nat) (mf : Ky → Option Nat) (rf : Ky → Nat × (Nat → Nat → Dt)) (ix : Int) (rs : Bool) (key : Ky) (ver : Nat) (i : Int) : evC (β := Ex × List AV × List Ob) Tryz.prog spV inV extD (cV 13) (lp68 13) (bodyOf Tryz.prog 92 0) ⟨mkF Tryz.f92.ntmps keep68 [.int .i64 ix, .ptr 11 0, .ptr 12 0, .ptr 13 0, .bool rs, .own 7 key ver, .int .i64 (ver : Int), .int .i64 i], [.cells [.int .i64 z0, .nsl, .nsl] 27, .cells [.int .i64 ti, .own 2 k0 m, .own 3 k0 m] 27, .own 44 SS m sp, .own 3 [.int .i64] m pa, .cells [.isz n SS x] 24, .own 3 [.int .i64] n2 od, .mapF (.int .i64) c (.own 7 mf), .rows 44 SS rf, .cells [.map 6] 84, .dfr, .loop (tmB n x) rfB.2.1 rfB.2.2.1 rfB.2.2.2 9 .ready, .cells [.yld 10] 118, .cells [.int .i64 (m : Int)] 3, .cells [.fn (.func 92) [.ptr 8 0, .ptr 11 0, .ptr 12 0, .ptr 13 0]] 119]⟩ (fun e st => (cutBack keep68 14 st).map fun q => (e, q.1, q.2)) = rndV 12 z0 ti m sp pa n x n2 od c mf rf ix rs key ver i [] := by kernel_rfl
open Go.Evl Go.RowKit
theorem consOf {α : Type} {l : List α} {k : Nat} (h : l.length = k + 1) : ∃ a r, l = a :: r ∧ r.length = k := by
  match l, h with
  | a :: r, h => exact ⟨a, r, rfl, by simpa using h⟩
theorem loopW0 (z0 ti : Int) (m : Nat) (sp pa : Nat → Nat → Dt) (n : Nat) (x : Nat → Nat → Dt) (n2 : Nat) (od : Nat → Nat → Dt) (c : Nat) (mf : Ky → Option Nat) (rf : Ky → Nat × (Nat → Nat → Dt)) (ix : Int) (rs : Bool) (key : Ky) (ver : Nat) (i : Int) (tl : List (Nat → Dt)) (h : tl.length = 24) : evC (β := Ex × List AV × List Ob) Tryz.prog spV inV extD (cV 1) (lp68 1) (bodyOf Tryz.prog 92 0) ⟨mkF Tryz.f92.ntmps keep68 [.int .i64 ix, .ptr 11 0, .ptr 12 0, .ptr 13 0, .bool rs, .own 7 key ver, .int .i64 (ver : Int), .int .i64 i], (.cells [.int .i64 z0, .nsl, .nsl] 27 :: .cells [.int .i64 ti, .own 2 k0 m, .own 3 k0 m] 27 :: .own 44 SS m sp :: .own 3 [.int .i64] m pa :: .cells [.isz n SS x] 24 :: .own 3 [.int .i64] n2 od :: .mapF (.int .i64) c (.own 7 mf) :: .rows 44 SS rf :: .cells [.map 6] 84 :: .dfr :: .loop (tmB n x) rfB.2.1 rfB.2.2.1 rfB.2.2.2 9 .ready :: .cells [.yld 10] 118 :: .cells [.int .i64 (m : Int)] 3 :: .cells [.fn (.func 92) [.ptr 8 0, .ptr 11 0, .ptr 12 0, .ptr 13 0]] 119 :: obTs tl)⟩ (fun e st => (cutBack keep68 (14 + tl.length) st).map fun q => (e, q.1, q.2)) = rndV 0 z0 ti m sp pa n x n2 od c mf rf ix rs key ver i tl := by
  obtain ⟨g0, t0, rfl, h0⟩ := consOf h
  obtain ⟨g1, t1, rfl, h1⟩ := consOf h0
  obtain ⟨g2, t2, rfl, h2⟩ := consOf h1
  obtain ⟨g3, t3, rfl, h3⟩ := consOf h2
  obtain ⟨g4, t4, rfl, h4⟩ := consOf h3
  obtain ⟨g5, t5, rfl, h5⟩ := consOf h4
  obtain ⟨g6, t6, rfl, h6⟩ := consOf h5
  obtain ⟨g7, t7, rfl, h7⟩ := consOf h6
  obtain ⟨g8, t8, rfl, h8⟩ := consOf h7
  obtain ⟨g9, t9, rfl, h9⟩ := consOf h8
  obtain ⟨g10, t10, rfl, h10⟩ := consOf h9
  obtain ⟨g11, t11, rfl, h11⟩ := consOf h10
  obtain ⟨g12, t12, rfl, h12⟩ := consOf h11
  obtain ⟨g13, t13, rfl, h13⟩ := consOf h12
  obtain ⟨g14, t14, rfl, h14⟩ := consOf h13
  obtain ⟨g15, t15, rfl, h15⟩ := consOf h14
  obtain ⟨g16, t16, rfl, h16⟩ := consOf h15
  obtain ⟨g17, t17, rfl, h17⟩ := consOf h16
  obtain ⟨g18, t18, rfl, h18⟩ := consOf h17
  obtain ⟨g19, t19, rfl, h19⟩ := consOf h18
  obtain ⟨g20, t20, rfl, h20⟩ := consOf h19
  obtain ⟨g21, t21, rfl, h21⟩ := consOf h20
  obtain ⟨g22, t22, rfl, h22⟩ := consOf h21
  obtain ⟨g23, t23, rfl, h23⟩ := consOf h22
  obtain rfl := List.eq_nil_of_length_eq_zero h23
  exact loopV0 z0 ti m sp pa n x n2 od c mf rf ix rs key ver i g0 g1 g2 g3 g4 g5 g6 g7 g8 g9 g10 g11 g12 g13 g14 g15 g16 g17 g18 g19 g20 g21 g22 g23
theorem loopW1 (z0 ti : Int) (m : Nat) (sp pa : Nat → Nat → Dt) (n : Nat) (x : Nat → Nat → Dt) (n2 : Nat) (od : Nat → Nat → Dt) (c : Nat) (mf : Ky → Option Nat) (rf : Ky → Nat × (Nat → Nat → Dt)) (ix : Int) (rs : Bool) (key : Ky) (ver : Nat) (i : Int) (tl : List (Nat → Dt)) (h : tl.length = 22) : evC (β := Ex × List AV × List Ob) Tryz.prog spV inV extD (cV 2) (lp68 2) (bodyOf Tryz.prog 92 0) ⟨mkF Tryz.f92.ntmps keep68 [.int .i64 ix, .ptr 11 0, .ptr 12 0, .ptr 13 0, .bool rs, .own 7 key ver, .int .i64 (ver : Int), .int .i64 i], (.cells [.int .i64 z0, .nsl, .nsl] 27 :: .cells [.int .i64 ti, .own 2 k0 m, .own 3 k0 m] 27 :: .own 44 SS m sp :: .own 3 [.int .i64] m pa :: .cells [.isz n SS x] 24 :: .own 3 [.int .i64] n2 od :: .mapF (.int .i64) c (.own 7 mf) :: .rows 44 SS rf :: .cells [.map 6] 84 :: .dfr :: .loop (tmB n x) rfB.2.1 rfB.2.2.1 rfB.2.2.2 9 .ready :: .cells [.yld 10] 118 :: .cells [.int .i64 (m : Int)] 3 :: .cells [.fn (.func 92) [.ptr 8 0, .ptr 11 0, .ptr 12 0, .ptr 13 0]] 119 :: obTs tl)⟩ (fun e st => (cutBack keep68 (14 + tl.length) st).map fun q => (e, q.1, q.2)) = rndV 1 z0 ti m sp pa n x n2 od c mf rf ix rs key ver i tl := by
  obtain ⟨g0, t0, rfl, h0⟩ := consOf h
  obtain ⟨g1, t1, rfl, h1⟩ := consOf h0
  obtain ⟨g2, t2, rfl, h2⟩ := consOf h1
  obtain ⟨g3, t3, rfl, h3⟩ := consOf h2
  obtain ⟨g4, t4, rfl, h4⟩ := consOf h3
  obtain ⟨g5, t5, rfl, h5⟩ := consOf h4
  obtain ⟨g6, t6, rfl, h6⟩ := consOf h5
  obtain ⟨g7, t7, rfl, h7⟩ := consOf h6
  obtain ⟨g8, t8, rfl, h8⟩ := consOf h7
  obtain ⟨g9, t9, rfl, h9⟩ := consOf h8
  obtain ⟨g10, t10, rfl, h10⟩ := consOf h9
  obtain ⟨g11, t11, rfl, h11⟩ := consOf h10
  obtain ⟨g12, t12, rfl, h12⟩ := consOf h11
  obtain ⟨g13, t13, rfl, h13⟩ := consOf h12
  obtain ⟨g14, t14, rfl, h14⟩ := consOf h13
  obtain ⟨g15, t15, rfl, h15⟩ := consOf h14
  obtain ⟨g16, t16, rfl, h16⟩ := consOf h15
  obtain ⟨g17, t17, rfl, h17⟩ := consOf h16
  obtain ⟨g18, t18, rfl, h18⟩ := consOf h17
  obtain ⟨g19, t19, rfl, h19⟩ := consOf h18
  obtain ⟨g20, t20, rfl, h20⟩ := consOf h19
  obtain ⟨g21, t21, rfl, h21⟩ := consOf h20
  obtain rfl := List.eq_nil_of_length_eq_zero h21
  exact loopV1 z0 ti m sp pa n x n2 od c mf rf ix rs key ver i g0 g1 g2 g3 g4 g5 g6 g7 g8 g9 g10 g11 g12 g13 g14 g15 g16 g17 g18 g19 g20 g21
theorem loopW2 (z0 ti : Int) (m : Nat) (sp pa : Nat → Nat → Dt) (n : Nat) (x : Nat → Nat → Dt) (n2 : Nat) (od : Nat → Nat → Dt) (c : Nat) (mf : Ky → Option Nat) (rf : Ky → Nat × (Nat → Nat → Dt)) (ix : Int) (rs : Bool) (key : Ky) (ver : Nat) (i : Int) (tl : List (Nat → Dt)) (h : tl.length = 20) : evC (β := Ex × List AV × List Ob) Tryz.prog spV inV extD (cV 3) (lp68 3) (bodyOf Tryz.prog 92 0) ⟨mkF Tryz.f92.ntmps keep68 [.int .i64 ix, .ptr 11 0, .ptr 12 0, .ptr 13 0, .bool rs, .own 7 key ver, .int .i64 (ver : Int), .int .i64 i], (.cells [.int .i64 z0, .nsl, .nsl] 27 :: .cells [.int .i64 ti, .own 2 k0 m, .own 3 k0 m] 27 :: .own 44 SS m sp :: .own 3 [.int .i64] m pa :: .cells [.isz n SS x] 24 :: .own 3 [.int .i64] n2 od :: .mapF (.int .i64) c (.own 7 mf) :: .rows 44 SS rf :: .cells [.map 6] 84 :: .dfr :: .loop (tmB n x) rfB.2.1 rfB.2.2.1 rfB.2.2.2 9 .ready :: .cells [.yld 10] 118 :: .cells [.int .i64 (m : Int)] 3 :: .cells [.fn (.func 92) [.ptr 8 0, .ptr 11 0, .ptr 12 0, .ptr 13 0]] 119 :: obTs tl)⟩ (fun e st => (cutBack keep68 (14 + tl.length) st).map fun q => (e, q.1, q.2)) = rndV 2 z0 ti m sp pa n x n2 od c mf rf ix rs key ver i tl := by
  obtain ⟨g0, t0, rfl, h0⟩ := consOf h
  obtain ⟨g1, t1, rfl, h1⟩ := consOf h0
  obtain ⟨g2, t2, rfl, h2⟩ := consOf h1
  obtain ⟨g3, t3, rfl, h3⟩ := consOf h2
  obtain ⟨g4, t4, rfl, h4⟩ := consOf h3
  obtain ⟨g5, t5, rfl, h5⟩ := consOf h4
  obtain ⟨g6, t6, rfl, h6⟩ := consOf h5
  obtain ⟨g7, t7, rfl, h7⟩ := consOf h6
  obtain ⟨g8, t8, rfl, h8⟩ := consOf h7
  obtain ⟨g9, t9, rfl, h9⟩ := consOf h8
  obtain ⟨g10, t10, rfl, h10⟩ := consOf h9
  obtain ⟨g11, t11, rfl, h11⟩ := consOf h10
  obtain ⟨g12, t12, rfl, h12⟩ := consOf h11
  obtain ⟨g13, t13, rfl, h13⟩ := consOf h12
  obtain ⟨g14, t14, rfl, h14⟩ := consOf h13
  obtain ⟨g15, t15, rfl, h15⟩ := consOf h14
  obtain ⟨g16, t16, rfl, h16⟩ := consOf h15
  obtain ⟨g17, t17, rfl, h17⟩ := consOf h16
  obtain ⟨g18, t18, rfl, h18⟩ := consOf h17
  obtain ⟨g19, t19, rfl, h19⟩ := consOf h18
  obtain rfl := List.eq_nil_of_length_eq_zero h19
  exact loopV2 z0 ti m sp pa n x n2 od c mf rf ix rs key ver i g0 g1 g2 g3 g4 g5 g6 g7 g8 g9 g10 g11 g12 g13 g14 g15 g16 g17 g18 g19
theorem loopW3 (z0 ti : Int) (m : Nat) (sp pa : Nat → Nat → Dt) (n : Nat) (x : Nat → Nat → Dt) (n2 : Nat) (od : Nat → Nat → Dt) (c : Nat) (mf : Ky → Option Nat) (rf : Ky → Nat × (Nat → Nat → Dt)) (ix : Int) (rs : Bool) (key : Ky) (ver : Nat) (i : Int) (tl : List (Nat → Dt)) (h : tl.length = 18) : evC (β := Ex × List AV × List Ob) Tryz.prog spV inV extD (cV 4) (lp68 4) (bodyOf Tryz.prog 92 0) ⟨mkF Tryz.f92.ntmps keep68 [.int .i64 ix, .ptr 11 0, .ptr 12 0, .ptr 13 0, .bool rs, .own 7 key ver, .int .i64 (ver : Int), .int .i64 i], (.cells [.int .i64 z0, .nsl, .nsl] 27 :: .cells [.int .i64 ti, .own 2 k0 m, .own 3 k0 m] 27 :: .own 44 SS m sp :: .own 3 [.int .i64] m pa :: .cells [.isz n SS x] 24 :: .own 3 [.int .i64] n2 od :: .mapF (.int .i64) c (.own 7 mf) :: .rows 44 SS rf :: .cells [.map 6] 84 :: .dfr :: .loop (tmB n x) rfB.2.1 rfB.2.2.1 rfB.2.2.2 9 .ready :: .cells [.yld 10] 118 :: .cells [.int .i64 (m : Int)] 3 :: .cells [.fn (.func 92) [.ptr 8 0, .ptr 11 0, .ptr 12 0, .ptr 13 0]] 119 :: obTs tl)⟩ (fun e st => (cutBack keep68 (14 + tl.length) st).map fun q => (e, q.1, q.2)) = rndV 3 z0 ti m sp pa n x n2 od c mf rf ix rs key ver i tl := by
  obtain ⟨g0, t0, rfl, h0⟩ := consOf h
  obtain ⟨g1, t1, rfl, h1⟩ := consOf h0
  obtain ⟨g2, t2, rfl, h2⟩ := consOf h1
  obtain ⟨g3, t3, rfl, h3⟩ := consOf h2
  obtain ⟨g4, t4, rfl, h4⟩ := consOf h3
  obtain ⟨g5, t5, rfl, h5⟩ := consOf h4
  obtain ⟨g6, t6, rfl, h6⟩ := consOf h5
  obtain ⟨g7, t7, rfl, h7⟩ := consOf h6
  obtain ⟨g8, t8, rfl, h8⟩ := consOf h7
  obtain ⟨g9, t9, rfl, h9⟩ := consOf h8
  obtain ⟨g10, t10, rfl, h10⟩ := consOf h9
  obtain ⟨g11, t11, rfl, h11⟩ := consOf h10
  obtain ⟨g12, t12, rfl, h12⟩ := consOf h11
  obtain ⟨g13, t13, rfl, h13⟩ := consOf h12
  obtain ⟨g14, t14, rfl, h14⟩ := consOf h13
  obtain ⟨g15, t15, rfl, h15⟩ := consOf h14
  obtain ⟨g16, t16, rfl, h16⟩ := consOf h15
  obtain ⟨g17, t17, rfl, h17⟩ := consOf h16
  obtain rfl := List.eq_nil_of_length_eq_zero h17
  exact loopV3 z0 ti m sp pa n x n2 od c mf rf ix rs key ver i g0 g1 g2 g3 g4 g5 g6 g7 g8 g9 g10 g11 g12 g13 g14 g15 g16 g17
theorem loopW4 (z0 ti : Int) (m : Nat) (sp pa : Nat → Nat → Dt) (n : Nat) (x : Nat → Nat → Dt) (n2 : Nat) (od : Nat → Nat → Dt) (c : Nat) (mf : Ky → Option Nat) (rf : Ky → Nat × (Nat → Nat → Dt)) (ix : Int) (rs : Bool) (key : Ky) (ver : Nat) (i : Int) (tl : List (Nat → Dt)) (h : tl.length = 16) : evC (β := Ex × List AV × List Ob) Tryz.prog spV inV extD (cV 5) (lp68 5) (bodyOf Tryz.prog 92 0) ⟨mkF Tryz.f92.ntmps keep68 [.int .i64 ix, .ptr 11 0, .ptr 12 0, .ptr 13 0, .bool rs, .own 7 key ver, .int .i64 (ver : Int), .int .i64 i], (.cells [.int .i64 z0, .nsl, .nsl] 27 :: .cells [.int .i64 ti, .own 2 k0 m, .own 3 k0 m] 27 :: .own 44 SS m sp :: .own 3 [.int .i64] m pa :: .cells [.isz n SS x] 24 :: .own 3 [.int .i64] n2 od :: .mapF (.int .i64) c (.own 7 mf) :: .rows 44 SS rf :: .cells [.map 6] 84 :: .dfr :: .loop (tmB n x) rfB.2.1 rfB.2.2.1 rfB.2.2.2 9 .ready :: .cells [.yld 10] 118 :: .cells [.int .i64 (m : Int)] 3 :: .cells [.fn (.func 92) [.ptr 8 0, .ptr 11 0, .ptr 12 0, .ptr 13 0]] 119 :: obTs tl)⟩ (fun e st => (cutBack keep68 (14 + tl.length) st).map fun q => (e, q.1, q.2)) = rndV 4 z0 ti m sp pa n x n2 od c mf rf ix rs key ver i tl := by
  obtain ⟨g0, t0, rfl, h0⟩ := consOf h
  obtain ⟨g1, t1, rfl, h1⟩ := consOf h0
  obtain ⟨g2, t2, rfl, h2⟩ := consOf h1
  obtain ⟨g3, t3, rfl, h3⟩ := consOf h2
  obtain ⟨g4, t4, rfl, h4⟩ := consOf h3
  obtain ⟨g5, t5, rfl, h5⟩ := consOf h4
  obtain ⟨g6, t6, rfl, h6⟩ := consOf h5
  obtain ⟨g7, t7, rfl, h7⟩ := consOf h6
  obtain ⟨g8, t8, rfl, h8⟩ := consOf h7
  obtain ⟨g9, t9, rfl, h9⟩ := consOf h8
  obtain ⟨g10, t10, rfl, h10⟩ := consOf h9
  obtain ⟨g11, t11, rfl, h11⟩ := consOf h10
  obtain ⟨g12, t12, rfl, h12⟩ := consOf h11
  obtain ⟨g13, t13, rfl, h13⟩ := consOf h12
  obtain ⟨g14, t14, rfl, h14⟩ := consOf h13
  obtain ⟨g15, t15, rfl, h15⟩ := consOf h14
  obtain rfl := List.eq_nil_of_length_eq_zero h15
  exact loopV4 z0 ti m sp pa n x n2 od c mf rf ix rs key ver i g0 g1 g2 g3 g4 g5 g6 g7 g8 g9 g10 g11 g12 g13 g14 g15
theorem loopW5 (z0 ti : Int) (m : Nat) (sp pa : Nat → Nat → Dt) (n : Nat) (x : Nat → Nat → Dt) (n2 : Nat) (od : Nat → Nat → Dt) (c : Nat) (mf : Ky → Option Nat) (rf : Ky → Nat × (Nat → Nat → Dt)) (ix : Int) (rs : Bool) (key : Ky) (ver : Nat) (i : Int) (tl : List (Nat → Dt)) (h : tl.length = 14) : evC (β := Ex × List AV × List Ob) Tryz.prog spV inV extD (cV 6) (lp68 6) (bodyOf Tryz.prog 92 0) ⟨mkF Tryz.f92.ntmps keep68 [.int .i64 ix, .ptr 11 0, .ptr 12 0, .ptr 13 0, .bool rs, .own 7 key ver, .int .i64 (ver : Int), .int .i64 i], (.cells [.int .i64 z0, .nsl, .nsl] 27 :: .cells [.int .i64 ti, .own 2 k0 m, .own 3 k0 m] 27 :: .own 44 SS m sp :: .own 3 [.int .i64] m pa :: .cells [.isz n SS x] 24 :: .own 3 [.int .i64] n2 od :: .mapF (.int .i64) c (.own 7 mf) :: .rows 44 SS rf :: .cells [.map 6] 84 :: .dfr :: .loop (tmB n x) rfB.2.1 rfB.2.2.1 rfB.2.2.2 9 .ready :: .cells [.yld 10] 118 :: .cells [.int .i64 (m : Int)] 3 :: .cells [.fn (.func 92) [.ptr 8 0, .ptr 11 0, .ptr 12 0, .ptr 13 0]] 119 :: obTs tl)⟩ (fun e st => (cutBack keep68 (14 + tl.length) st).map fun q => (e, q.1, q.2)) = rndV 5 z0 ti m sp pa n x n2 od c mf rf ix rs key ver i tl := by
  obtain ⟨g0, t0, rfl, h0⟩ := consOf h
  obtain ⟨g1, t1, rfl, h1⟩ := consOf h0
  obtain ⟨g2, t2, rfl, h2⟩ := consOf h1
  obtain ⟨g3, t3, rfl, h3⟩ := consOf h2
  obtain ⟨g4, t4, rfl, h4⟩ := consOf h3
  obtain ⟨g5, t5, rfl, h5⟩ := consOf h4
  obtain ⟨g6, t6, rfl, h6⟩ := consOf h5
  obtain ⟨g7, t7, rfl, h7⟩ := consOf h6
  obtain ⟨g8, t8, rfl, h8⟩ := consOf h7
  obtain ⟨g9, t9, rfl, h9⟩ := consOf h8
  obtain ⟨g10, t10, rfl, h10⟩ := consOf h9
  obtain ⟨g11, t11, rfl, h11⟩ := consOf h10
  obtain ⟨g12, t12, rfl, h12⟩ := consOf h11
  obtain ⟨g13, t13, rfl, h13⟩ := consOf h12
  obtain rfl := List.eq_nil_of_length_eq_zero h13
  exact loopV5 z0 ti m sp pa n x n2 od c mf rf ix rs key ver i g0 g1 g2 g3 g4 g5 g6 g7 g8 g9 g10 g11 g12 g13
theorem loopW6 (z0 ti : Int) (m : Nat) (sp pa : Nat → Nat → Dt) (n : Nat) (x : Nat → Nat → Dt) (n2 : Nat) (od : Nat → Nat → Dt) (c : Nat) (mf : Ky → Option Nat) (rf : Ky → Nat × (Nat → Nat → Dt)) (ix : Int) (rs : Bool) (key : Ky) (ver : Nat) (i : Int) (tl : List (Nat → Dt)) (h : tl.length = 12) : evC (β := Ex × List AV × List Ob) Tryz.prog spV inV extD (cV 7) (lp68 7) (bodyOf Tryz.prog 92 0) ⟨mkF Tryz.f92.ntmps keep68 [.int .i64 ix, .ptr 11 0, .ptr 12 0, .ptr 13 0, .bool rs, .own 7 key ver, .int .i64 (ver : Int), .int .i64 i], (.cells [.int .i64 z0, .nsl, .nsl] 27 :: .cells [.int .i64 ti, .own 2 k0 m, .own 3 k0 m] 27 :: .own 44 SS m sp :: .own 3 [.int .i64] m pa :: .cells [.isz n SS x] 24 :: .own 3 [.int .i64] n2 od :: .mapF (.int .i64) c (.own 7 mf) :: .rows 44 SS rf :: .cells [.map 6] 84 :: .dfr :: .loop (tmB n x) rfB.2.1 rfB.2.2.1 rfB.2.2.2 9 .ready :: .cells [.yld 10] 118 :: .cells [.int .i64 (m : Int)] 3 :: .cells [.fn (.func 92) [.ptr 8 0, .ptr 11 0, .ptr 12 0, .ptr 13 0]] 119 :: obTs tl)⟩ (fun e st => (cutBack keep68 (14 + tl.length) st).map fun q => (e, q.1, q.2)) = rndV 6 z0 ti m sp pa n x n2 od c mf rf ix rs key ver i tl := by
  obtain ⟨g0, t0, rfl, h0⟩ := consOf h
  obtain ⟨g1, t1, rfl, h1⟩ := consOf h0
  obtain ⟨g2, t2, rfl, h2⟩ := consOf h1
  obtain ⟨g3, t3, rfl, h3⟩ := consOf h2
  obtain ⟨g4, t4, rfl, h4⟩ := consOf h3
  obtain ⟨g5, t5, rfl, h5⟩ := consOf h4
  obtain ⟨g6, t6, rfl, h6⟩ := consOf h5
  obtain ⟨g7, t7, rfl, h7⟩ := consOf h6
  obtain ⟨g8, t8, rfl, h8⟩ := consOf h7
  obtain ⟨g9, t9, rfl, h9⟩ := consOf h8
  obtain ⟨g10, t10, rfl, h10⟩ := consOf h9
  obtain ⟨g11, t11, rfl, h11⟩ := consOf h10
  obtain rfl := List.eq_nil_of_length_eq_zero h11
  exact loopV6 z0 ti m sp pa n x n2 od c mf rf ix rs key ver i g0 g1 g2 g3 g4 g5 g6 g7 g8 g9 g10 g11
theorem loopW7 (z0 ti : Int) (m : Nat) (sp pa : Nat → Nat → Dt) (n : Nat) (x : Nat → Nat → Dt) (n2 : Nat) (od : Nat → Nat → Dt) (c : Nat) (mf : Ky → Option Nat) (rf : Ky → Nat × (Nat → Nat → Dt)) (ix : Int) (rs : Bool) (key : Ky) (ver : Nat) (i : Int) (tl : List (Nat → Dt)) (h : tl.length = 10) : evC (β := Ex × List AV × List Ob) Tryz.prog spV inV extD (cV 8) (lp68 8) (bodyOf Tryz.prog 92 0) ⟨mkF Tryz.f92.ntmps keep68 [.int .i64 ix, .ptr 11 0, .ptr 12 0, .ptr 13 0, .bool rs, .own 7 key ver, .int .i64 (ver : Int), .int .i64 i], (.cells [.int .i64 z0, .nsl, .nsl] 27 :: .cells [.int .i64 ti, .own 2 k0 m, .own 3 k0 m] 27 :: .own 44 SS m sp :: .own 3 [.int .i64] m pa :: .cells [.isz n SS x] 24 :: .own 3 [.int .i64] n2 od :: .mapF (.int .i64) c (.own 7 mf) :: .rows 44 SS rf :: .cells [.map 6] 84 :: .dfr :: .loop (tmB n x) rfB.2.1 rfB.2.2.1 rfB.2.2.2 9 .ready :: .cells [.yld 10] 118 :: .cells [.int .i64 (m : Int)] 3 :: .cells [.fn (.func 92) [.ptr 8 0, .ptr 11 0, .ptr 12 0, .ptr 13 0]] 119 :: obTs tl)⟩ (fun e st => (cutBack keep68 (14 + tl.length) st).map fun q => (e, q.1, q.2)) = rndV 7 z0 ti m sp pa n x n2 od c mf rf ix rs key ver i tl := by
  obtain ⟨g0, t0, rfl, h0⟩ := consOf h
  obtain ⟨g1, t1, rfl, h1⟩ := consOf h0
  obtain ⟨g2, t2, rfl, h2⟩ := consOf h1
  obtain ⟨g3, t3, rfl, h3⟩ := consOf h2
  obtain ⟨g4, t4, rfl, h4⟩ := consOf h3
  obtain ⟨g5, t5, rfl, h5⟩ := consOf h4
  obtain ⟨g6, t6, rfl, h6⟩ := consOf h5
  obtain ⟨g7, t7, rfl, h7⟩ := consOf h6
  obtain ⟨g8, t8, rfl, h8⟩ := consOf h7
  obtain ⟨g9, t9, rfl, h9⟩ := consOf h8
  obtain rfl := List.eq_nil_of_length_eq_zero h9
  exact loopV7 z0 ti m sp pa n x n2 od c mf rf ix rs key ver i g0 g1 g2 g3 g4 g5 g6 g7 g8 g9
theorem loopW8 (z0 ti : Int) (m : Nat) (sp pa : Nat → Nat → Dt) (n : Nat) (x : Nat → Nat → Dt) (n2 : Nat) (od : Nat → Nat → Dt) (c : Nat) (mf : Ky → Option Nat) (rf : Ky → Nat × (Nat → Nat → Dt)) (ix : Int) (rs : Bool) (key : Ky) (ver : Nat) (i : Int) (tl : List (Nat → Dt)) (h : tl.length = 8) : evC (β := Ex × List AV × List Ob) Tryz.prog spV inV extD (cV 9) (lp68 9) (bodyOf Tryz.prog 92 0) ⟨mkF Tryz.f92.ntmps keep68 [.int .i64 ix, .ptr 11 0, .ptr 12 0, .ptr 13 0, .bool rs, .own 7 key ver, .int .i64 (ver : Int), .int .i64 i], (.cells [.int .i64 z0, .nsl, .nsl] 27 :: .cells [.int .i64 ti, .own 2 k0 m, .own 3 k0 m] 27 :: .own 44 SS m sp :: .own 3 [.int .i64] m pa :: .cells [.isz n SS x] 24 :: .own 3 [.int .i64] n2 od :: .mapF (.int .i64) c (.own 7 mf) :: .rows 44 SS rf :: .cells [.map 6] 84 :: .dfr :: .loop (tmB n x) rfB.2.1 rfB.2.2.1 rfB.2.2.2 9 .ready :: .cells [.yld 10] 118 :: .cells [.int .i64 (m : Int)] 3 :: .cells [.fn (.func 92) [.ptr 8 0, .ptr 11 0, .ptr 12 0, .ptr 13 0]] 119 :: obTs tl)⟩ (fun e st => (cutBack keep68 (14 + tl.length) st).map fun q => (e, q.1, q.2)) = rndV 8 z0 ti m sp pa n x n2 od c mf rf ix rs key ver i tl := by
  obtain ⟨g0, t0, rfl, h0⟩ := consOf h
  obtain ⟨g1, t1, rfl, h1⟩ := consOf h0
  obtain ⟨g2, t2, rfl, h2⟩ := consOf h1
  obtain ⟨g3, t3, rfl, h3⟩ := consOf h2
  obtain ⟨g4, t4, rfl, h4⟩ := consOf h3
  obtain ⟨g5, t5, rfl, h5⟩ := consOf h4
  obtain ⟨g6, t6, rfl, h6⟩ := consOf h5
  obtain ⟨g7, t7, rfl, h7⟩ := consOf h6
  obtain rfl := List.eq_nil_of_length_eq_zero h7
  exact loopV8 z0 ti m sp pa n x n2 od c mf rf ix rs key ver i g0 g1 g2 g3 g4 g5 g6 g7
theorem loopW9 (z0 ti : Int) (m : Nat) (sp pa : Nat → Nat → Dt) (n : Nat) (x : Nat → Nat → Dt) (n2 : Nat) (od : Nat → Nat → Dt) (c : Nat) (mf : Ky → Option Nat) (rf : Ky → Nat × (Nat → Nat → Dt)) (ix : Int) (rs : Bool) (key : Ky) (ver : Nat) (i : Int) (tl : List (Nat → Dt)) (h : tl.length = 6) : evC (β := Ex × List AV × List Ob) Tryz.prog spV inV extD (cV 10) (lp68 10) (bodyOf Tryz.prog 92 0) ⟨mkF Tryz.f92.ntmps keep68 [.int .i64 ix, .ptr 11 0, .ptr 12 0, .ptr 13 0, .bool rs, .own 7 key ver, .int .i64 (ver : Int), .int .i64 i], (.cells [.int .i64 z0, .nsl, .nsl] 27 :: .cells [.int .i64 ti, .own 2 k0 m, .own 3 k0 m] 27 :: .own 44 SS m sp :: .own 3 [.int .i64] m pa :: .cells [.isz n SS x] 24 :: .own 3 [.int .i64] n2 od :: .mapF (.int .i64) c (.own 7 mf) :: .rows 44 SS rf :: .cells [.map 6] 84 :: .dfr :: .loop (tmB n x) rfB.2.1 rfB.2.2.1 rfB.2.2.2 9 .ready :: .cells [.yld 10] 118 :: .cells [.int .i64 (m : Int)] 3 :: .cells [.fn (.func 92) [.ptr 8 0, .ptr 11 0, .ptr 12 0, .ptr 13 0]] 119 :: obTs tl)⟩ (fun e st => (cutBack keep68 (14 + tl.length) st).map fun q => (e, q.1, q.2)) = rndV 9 z0 ti m sp pa n x n2 od c mf rf ix rs key ver i tl := by
  obtain ⟨g0, t0, rfl, h0⟩ := consOf h
  obtain ⟨g1, t1, rfl, h1⟩ := consOf h0
  obtain ⟨g2, t2, rfl, h2⟩ := consOf h1
  obtain ⟨g3, t3, rfl, h3⟩ := consOf h2
  obtain ⟨g4, t4, rfl, h4⟩ := consOf h3
  obtain ⟨g5, t5, rfl, h5⟩ := consOf h4
  obtain rfl := List.eq_nil_of_length_eq_zero h5
  exact loopV9 z0 ti m sp pa n x n2 od c mf rf ix rs key ver i g0 g1 g2 g3 g4 g5
theorem loopW10 (z0 ti : Int) (m : Nat) (sp pa : Nat → Nat → Dt) (n : Nat) (x : Nat → Nat → Dt) (n2 : Nat) (od : Nat → Nat → Dt) (c : Nat) (mf : Ky → Option Nat) (rf : Ky → Nat × (Nat → Nat → Dt)) (ix : Int) (rs : Bool) (key : Ky) (ver : Nat) (i : Int) (tl : List (Nat → Dt)) (h : tl.length = 4) : evC (β := Ex × List AV × List Ob) Tryz.prog spV inV extD (cV 11) (lp68 11) (bodyOf Tryz.prog 92 0) ⟨mkF Tryz.f92.ntmps keep68 [.int .i64 ix, .ptr 11 0, .ptr 12 0, .ptr 13 0, .bool rs, .own 7 key ver, .int .i64 (ver : Int), .int .i64 i], (.cells [.int .i64 z0, .nsl, .nsl] 27 :: .cells [.int .i64 ti, .own 2 k0 m, .own 3 k0 m] 27 :: .own 44 SS m sp :: .own 3 [.int .i64] m pa :: .cells [.isz n SS x] 24 :: .own 3 [.int .i64] n2 od :: .mapF (.int .i64) c (.own 7 mf) :: .rows 44 SS rf :: .cells [.map 6] 84 :: .dfr :: .loop (tmB n x) rfB.2.1 rfB.2.2.1 rfB.2.2.2 9 .ready :: .cells [.yld 10] 118 :: .cells [.int .i64 (m : Int)] 3 :: .cells [.fn (.func 92) [.ptr 8 0, .ptr 11 0, .ptr 12 0, .ptr 13 0]] 119 :: obTs tl)⟩ (fun e st => (cutBack keep68 (14 + tl.length) st).map fun q => (e, q.1, q.2)) = rndV 10 z0 ti m sp pa n x n2 od c mf rf ix rs key ver i tl := by
  obtain ⟨g0, t0, rfl, h0⟩ := consOf h
  obtain ⟨g1, t1, rfl, h1⟩ := consOf h0
  obtain ⟨g2, t2, rfl, h2⟩ := consOf h1
  obtain ⟨g3, t3, rfl, h3⟩ := consOf h2
  obtain rfl := List.eq_nil_of_length_eq_zero h3
  exact loopV10 z0 ti m sp pa n x n2 od c mf rf ix rs key ver i g0 g1 g2 g3
theorem loopW11 (z0 ti : Int) (m : Nat) (sp pa : Nat → Nat → Dt) (n : Nat) (x : Nat → Nat → Dt) (n2 : Nat) (od : Nat → Nat → Dt) (c : Nat) (mf : Ky → Option Nat) (rf : Ky → Nat × (Nat → Nat → Dt)) (ix : Int) (rs : Bool) (key : Ky) (ver : Nat) (i : Int) (tl : List (Nat → Dt)) (h : tl.length = 2) : evC (β := Ex × List AV × List Ob) Tryz.prog spV inV extD (cV 12) (lp68 12) (bodyOf Tryz.prog 92 0) ⟨mkF Tryz.f92.ntmps keep68 [.int .i64 ix, .ptr 11 0, .ptr 12 0, .ptr 13 0, .bool rs, .own 7 key ver, .int .i64 (ver : Int), .int .i64 i], (.cells [.int .i64 z0, .nsl, .nsl] 27 :: .cells [.int .i64 ti, .own 2 k0 m, .own 3 k0 m] 27 :: .own 44 SS m sp :: .own 3 [.int .i64] m pa :: .cells [.isz n SS x] 24 :: .own 3 [.int .i64] n2 od :: .mapF (.int .i64) c (.own 7 mf) :: .rows 44 SS rf :: .cells [.map 6] 84 :: .dfr :: .loop (tmB n x) rfB.2.1 rfB.2.2.1 rfB.2.2.2 9 .ready :: .cells [.yld 10] 118 :: .cells [.int .i64 (m : Int)] 3 :: .cells [.fn (.func 92) [.ptr 8 0, .ptr 11 0, .ptr 12 0, .ptr 13 0]] 119 :: obTs tl)⟩ (fun e st => (cutBack keep68 (14 + tl.length) st).map fun q => (e, q.1, q.2)) = rndV 11 z0 ti m sp pa n x n2 od c mf rf ix rs key ver i tl := by
  obtain ⟨g0, t0, rfl, h0⟩ := consOf h
  obtain ⟨g1, t1, rfl, h1⟩ := consOf h0
  obtain rfl := List.eq_nil_of_length_eq_zero h1
  exact loopV11 z0 ti m sp pa n x n2 od c mf rf ix rs key ver i g0 g1
theorem loopW12 (z0 ti : Int) (m : Nat) (sp pa : Nat → Nat → Dt) (n : Nat) (x : Nat → Nat → Dt) (n2 : Nat) (od : Nat → Nat → Dt) (c : Nat) (mf : Ky → Option Nat) (rf : Ky → Nat × (Nat → Nat → Dt)) (ix : Int) (rs : Bool) (key : Ky) (ver : Nat) (i : Int) (tl : List (Nat → Dt)) (h : tl.length = 0) : evC (β := Ex × List AV × List Ob) Tryz.prog spV inV extD (cV 13) (lp68 13) (bodyOf Tryz.prog 92 0) ⟨mkF Tryz.f92.ntmps keep68 [.int .i64 ix, .ptr 11 0, .ptr 12 0, .ptr 13 0, .bool rs, .own 7 key ver, .int .i64 (ver : Int), .int .i64 i], (.cells [.int .i64 z0, .nsl, .nsl] 27 :: .cells [.int .i64 ti, .own 2 k0 m, .own 3 k0 m] 27 :: .own 44 SS m sp :: .own 3 [.int .i64] m pa :: .cells [.isz n SS x] 24 :: .own 3 [.int .i64] n2 od :: .mapF (.int .i64) c (.own 7 mf) :: .rows 44 SS rf :: .cells [.map 6] 84 :: .dfr :: .loop (tmB n x) rfB.2.1 rfB.2.2.1 rfB.2.2.2 9 .ready :: .cells [.yld 10] 118 :: .cells [.int .i64 (m : Int)] 3 :: .cells [.fn (.func 92) [.ptr 8 0, .ptr 11 0, .ptr 12 0, .ptr 13 0]] 119 :: obTs tl)⟩ (fun e st => (cutBack keep68 (14 + tl.length) st).map fun q => (e, q.1, q.2)) = rndV 12 z0 ti m sp pa n x n2 od c mf rf ix rs key ver i tl := by
  obtain rfl := List.eq_nil_of_length_eq_zero h
  exact loopV12 z0 ti m sp pa n x n2 od c mf rf ix rs key ver i
theorem loopW (D : Nat) (z0 ti : Int) (m : Nat) (sp pa : Nat → Nat → Dt) (n : Nat) (x : Nat → Nat → Dt) (n2 : Nat) (od : Nat → Nat → Dt) (c : Nat) (mf : Ky → Option Nat) (rf : Ky → Nat × (Nat → Nat → Dt)) (ix : Int) (rs : Bool) (key : Ky) (ver : Nat) (i : Int) (tl : List (Nat → Dt)) (h : tl.length + 2 * D = 24) : evC (β := Ex × List AV × List Ob) Tryz.prog spV inV extD (cV (D + 1)) (lp68 (D + 1)) (bodyOf Tryz.prog 92 0) ⟨mkF Tryz.f92.ntmps keep68 [.int .i64 ix, .ptr 11 0, .ptr 12 0, .ptr 13 0, .bool rs, .own 7 key ver, .int .i64 (ver : Int), .int .i64 i], (.cells [.int .i64 z0, .nsl, .nsl] 27 :: .cells [.int .i64 ti, .own 2 k0 m, .own 3 k0 m] 27 :: .own 44 SS m sp :: .own 3 [.int .i64] m pa :: .cells [.isz n SS x] 24 :: .own 3 [.int .i64] n2 od :: .mapF (.int .i64) c (.own 7 mf) :: .rows 44 SS rf :: .cells [.map 6] 84 :: .dfr :: .loop (tmB n x) rfB.2.1 rfB.2.2.1 rfB.2.2.2 9 .ready :: .cells [.yld 10] 118 :: .cells [.int .i64 (m : Int)] 3 :: .cells [.fn (.func 92) [.ptr 8 0, .ptr 11 0, .ptr 12 0, .ptr 13 0]] 119 :: obTs tl)⟩ (fun e st => (cutBack keep68 (14 + tl.length) st).map fun q => (e, q.1, q.2)) = rndV D z0 ti m sp pa n x n2 od c mf rf ix rs key ver i tl := by
  obtain rfl | rfl | rfl | rfl | rfl | rfl | rfl | rfl | rfl | rfl | rfl | rfl | rfl := (by omega : D = 0 ∨ D = 1 ∨ D = 2 ∨ D = 3 ∨ D = 4 ∨ D = 5 ∨ D = 6 ∨ D = 7 ∨ D = 8 ∨ D = 9 ∨ D = 10 ∨ D = 11 ∨ D = 12)
  · exact loopW0 z0 ti m sp pa n x n2 od c mf rf ix rs key ver i tl (by omega)
  · exact loopW1 z0 ti m sp pa n x n2 od c mf rf ix rs key ver i tl (by omega)
  · exact loopW2 z0 ti m sp pa n x n2 od c mf rf ix rs key ver i tl (by omega)
  · exact loopW3 z0 ti m sp pa n x n2 od c mf rf ix rs key ver i tl (by omega)
  · exact loopW4 z0 ti m sp pa n x n2 od c mf rf ix rs key ver i tl (by omega)
  · exact loopW5 z0 ti m sp pa n x n2 od c mf rf ix rs key ver i tl (by omega)
  · exact loopW6 z0 ti m sp pa n x n2 od c mf rf ix rs key ver i tl (by omega)
  · exact loopW7 z0 ti m sp pa n x n2 od c mf rf ix rs key ver i tl (by omega)
  · exact loopW8 z0 ti m sp pa n x n2 od c mf rf ix rs key ver i tl (by omega)
  · exact loopW9 z0 ti m sp pa n x n2 od c mf rf ix rs key ver i tl (by omega)
  · exact loopW10 z0 ti m sp pa n x n2 od c mf rf ix rs key ver i tl (by omega)
  · exact loopW11 z0 ti m sp pa n x n2 od c mf rf ix rs key ver i tl (by omega)
  · exact loopW12 z0 ti m sp pa n x n2 od c mf rf ix rs key ver i tl (by omega)
theorem visL_succ (rec_ : Int → Int → VS → Option VS) (el : Nat → Nat → Dt) (ix : Int) (f i : Nat) (s : VS) : visL rec_ el ix (f + 1) i s = if s.m < 1000 then match rec_ (el i 1).n (s.m : Int) (s.push (el i) ix) with
    | none => none
    | some s' => visL rec_ el ix f (i + 1) s' else none := rfl
theorem visL_cons {rec_ : Int → Int → VS → Option VS} {el : Nat → Nat → Dt} {ix : Int} {f i : Nat} {s : VS} (h : (visL rec_ el ix (f + 1) i s).isSome = true) : s.m < 1000 ∧ ∃ s1, rec_ (el i 1).n (s.m : Int) (s.push (el i) ix) = some s1 ∧ visL rec_ el ix (f + 1) i s = visL rec_ el ix f (i + 1) s1 := by
  rw [visL_succ] at h
  by_cases hm : s.m < 1000
  · rw [if_pos hm] at h
    refine ⟨hm, ?_⟩
    rw [visL_succ, if_pos hm]
    cases hs : rec_ (el i 1).n (s.m : Int) (s.push (el i) ix) with
    | none => rw [hs] at h; cases h
    | some s1 => exact ⟨s1, rfl, rfl⟩
  · rw [if_neg hm] at h
    cases h
theorem obTs_len : ∀ (l : List (Nat → Dt)), (obTs l).length = l.length := by
  intro l
  induction l with
  | nil => rfl
  | cons g r ih => show (obTs r).length + 1 = _; rw [ih]; rfl
theorem hp68_len (s : S68) : (hp68 s).length = 14 + s.tl.length := by
  show (obTs s.tl).length + 14 = _
  rw [obTs_len]; omega
theorem dec68_of {s : S68} (h : nmTs s.tl = s.tl) : dec68 (vs68 s) (hp68 s) = some s := by
  obtain ⟨z0, ti, v, w, m, sp, m2, pa, n, x, n2, od, c, mf, rf, tm, ps, asg, bd, ct, ix, rs, key, ver, ln, i, tl⟩ := s
  show (match deTs (obTs tl) with
    | none => none
    | some tl => some (⟨z0, ti, v, w, m, sp, m2, pa, n, x, n2, od, c, mf, rf, tm, ps, asg, bd, ct, ix, rs, key, ver, ln, i, tl⟩ : S68)) = _
  rw [deTs_ob]
  show some (⟨z0, ti, v, w, m, sp, m2, pa, n, x, n2, od, c, mf, rf, tm, ps, asg, bd, ct, ix, rs, key, ver, ln, i, nmTs tl⟩ : S68) = _
  rw [show nmTs tl = tl from h]
set_option maxRecDepth 100000 in
theorem sumV (Q : Nat) : LoopOkT Tryz.prog spV inV extD (cV Q) (lp68 Q) Tryz.f92.ntmps (bodyOf Tryz.prog 92 0) (.sum keep68 (stF dec68 (domV Q) (finV Q))) := by
  dsimp only [LoopOkT]
  refine ⟨by decide, by decide, ?_⟩
  refine sum_st dec68 (domV Q) (finV Q) vs68 hp68 (fun s => s.ver - s.i.toNat) (fun vs H s hs => dec68_eq hs) (fun s R hd hR => ?_)
  cases Q with
  | zero => cases hd
  | succ D =>
    obtain ⟨z0, ti, v, w, m, sp, m2, pa, n, x, n2, od, c, mf, rf, tm, ps, asg, bd, ct, ix, rs, key, ver, ln, i, tl⟩ := s
    unfold domV dom68 at hd
    simp only [Bool.and_eq_true, decide_eq_true_eq, Nat.ble_eq, Nat.beq_eq, ctxB_iff, ctxP, verB_iff, tlB_iff] at hd
    obtain ⟨htl, ⟨rfl, rfl, rfl, rfl⟩, hvp, htn, rfl, e3, e2, rfl, e1, rfl, h1, h2, h3, hsm⟩ := hd
    obtain rfl := e2.symm
    obtain rfl := e3.symm
    obtain rfl := e1.symm
    obtain ⟨i, rfl⟩ : ∃ p : Nat, i = (p : Int) := ⟨i.toNat, by omega⟩
    unfold finV fin68 out68 at hR
    simp only [Int.toNat_natCast] at hR hsm
    have ht := loopW D z0 ti v sp pa n x n2 od c mf rf ix rs key (rf key).1 (i : Int) tl htl
    rw [show 14 + tl.length = (hp68 ⟨z0, ti, v, v, v, sp, v, pa, n, x, n2, od, c, mf, rf, tmB n x, rfB.2.1, rfB.2.2.1, rfB.2.2.2, (v : Int), ix, rs, key, (rf key).1, (((rf key).1 : Nat) : Int), (i : Int), tl⟩).length from (hp68_len (⟨z0, ti, v, v, v, sp, v, pa, n, x, n2, od, c, mf, rf, tmB n x, rfB.2.1, rfB.2.2.1, rfB.2.2.2, (v : Int), ix, rs, key, (rf key).1, (((rf key).1 : Nat) : Int), (i : Int), tl⟩)).symm] at ht
    unfold rndV at ht
    obtain ⟨S, hS⟩ := Option.isSome_iff_exists.1 hsm
    rw [hS] at hR hsm
    simp only [Option.getD_some, Tr.run, Option.some.injEq] at hR
    by_cases hi : i < (rf key).1
    · obtain ⟨p, hp⟩ : ∃ p, (rf key).1 - i = p + 1 := ⟨(rf key).1 - i - 1, by omega⟩
      rw [hp] at hS
      obtain ⟨hm, s1, hs1, hv⟩ := visL_cons (by rw [hS]; rfl)
      rw [hv] at hS
      have hm : v < 1000 := hm
      cases D with
      | zero => cases hs1
      | succ D =>
      obtain ⟨hk1, hk2⟩ := hvp (.int ((rf key).2 i 1).n)
      have hs2 : visL (visK rf D) (rf (.int ((rf key).2 i 1).n)).2 (v : Int) (rf (.int ((rf key).2 i 1).n)).1 0 ⟨v + 1, appEl sp v (dtFs [nmE ((rf key).2 i)]), appEl pa v (rwI ix)⟩ = some s1 := hs1
      have hin : domV (D + 1) (inW z0 ti v sp pa n x n2 od c mf rf ix key (i : Int) tl) = true := by
        show dom68 D (inW z0 ti v sp pa n x n2 od c mf rf ix key (i : Int) tl) = true
        unfold dom68 inW
        simp only [Bool.and_eq_true, decide_eq_true_eq, Nat.ble_eq, Nat.beq_eq, ctxB_iff, ctxP, verB_iff, tlB_iff, Int.toNat_natCast, Int.toNat_zero, Nat.sub_zero, List.length_append, List.length_cons, List.length_nil, nmTs_len, nmTs_app, nmTs_nm, hk1, hs2, and_self, true_and]
        refine ⟨by omega, hvp, rfl, by rw [wrapI (by omega) (by omega)]; omega, by omega, by omega, hk2, rfl⟩
      have hout : out68 (D + 1 - 1) (inW z0 ti v sp pa n x n2 od c mf rf ix key (i : Int) tl) = s1 := by
        unfold out68 inW
        simp only [Int.toNat_natCast, Int.toNat_zero, Nat.sub_zero, Nat.add_sub_cancel, hk1, hs2, Option.getD_some]
      rw [Int.toNat_natCast, condT (decide_eq_true (by omega)), condT (by simp only [Bool.and_eq_true, decide_eq_true_eq]; omega), condT (Nat.beq_refl _), condT (by simp only [Nat.beq_refl, Bool.true_and, Nat.blt_eq]; omega), condT (by simp only [Nat.beq_refl, Bool.true_and, Bool.and_true, Nat.ble_eq]; omega), condT (by simp only [Nat.beq_refl, Bool.true_and, Bool.and_true, Nat.ble_eq]; omega), condT (by rw [hk1]; exact Nat.beq_refl _), condT hin, hout, wrapI (by omega) (by omega)] at ht
      refine .inl ⟨⟨z0, ti, s1.m, s1.m, s1.m, s1.sp, s1.m, s1.pa, n, x, n2, od, c, mf, rf, tmB n x, rfB.2.1, rfB.2.2.1, rfB.2.2.2, ((s1.m : Nat) : Int), ix, rs, key, (rf key).1, (((rf key).1 : Nat) : Int), (i : Int) + 1, tl⟩, ht, dec68_of htn, ?_, ?_, ?_⟩
      · unfold domV dom68
        simp only [Bool.and_eq_true, decide_eq_true_eq, Nat.ble_eq, Nat.beq_eq, ctxB_iff, ctxP, verB_iff, tlB_iff, and_self, true_and]
        have e4 : ((i : Int) + 1).toNat = i + 1 := by omega
        rw [e4, show (rf key).1 - (i + 1) = p by omega, hS]
        exact ⟨htl, hvp, htn, by omega, by omega, h3, rfl⟩
      · unfold finV fin68 out68
        have e4 : ((i : Int) + 1).toNat = i + 1 := by omega
        simp only [e4, show (rf key).1 - (i + 1) = p by omega, hS, Option.getD_some, Tr.run]
        rw [← hR]
      · simp only [Int.toNat_natCast]; omega
    · obtain rfl : i = (rf key).1 := by omega
      rw [condF (decide_eq_false (by omega))] at ht
      refine .inr ?_
      rw [Nat.sub_self] at hS
      obtain rfl := Option.some.inj hS
      subst hR
      exact ⟨by simp, ht⟩
open Go.Evl Go.RowKit
noncomputable abbrev cfVb : CallF := callHN (callN (mkCx Tryz.prog spV inV extD) attD uD 20) [h55]
noncomputable def cfV : Nat → CallF
  | 0 => cfVb
  | Q + 1 => callLN (mkCx Tryz.prog spV inV extD) (cfV Q) [(92, lp68 Q)]
theorem cV_eq {β : Type} : ∀ Q, CallEq (β := β) (cV Q) (cfV Q)
  | 0 => callHK_eq (callK_eq Tryz.prog spV inV extD attD uD 20) _
  | Q + 1 => by
    rw [cV_succ]
    exact callLK_eq _ _ _ _ (cV_eq Q) _
theorem sxV : (mkCx Tryz.prog spV inV extD).Ok InvD := cx_of [46, 47, 91, 92] (by kernel_rfl) (by
  intro p hp
  simp only [List.mem_cons, List.not_mem_nil, or_false] at hp
  rcases hp with rfl | rfl
  · exact t52_ok
  · exact t53_ok)
set_option maxRecDepth 10000 in
theorem lpsV (Q : Nat) : LpsOk (mkCx Tryz.prog spV inV extD) (cfV Q) [(92, lp68 Q)] := by
  intro f lp hf fn c hfn hc
  simp only [List.mem_singleton, Prod.mk.injEq] at hf
  obtain ⟨rfl, rfl⟩ := hf
  have e1 : fn = Tryz.f92 := Option.some.inj (hfn.symm.trans Tryz.func92)
  subst e1
  have e2 : c = codeOf Tryz.prog 92 := Option.some.inj (hc.symm.trans (by kernel_rfl))
  subst e2
  refine loopsOk_of Tryz.prog spV inV extD (cV Q) (fun {β} => cV_eq (β := β) Q) fun p hp => ?_
  have hl : loops (codeOf Tryz.prog 92) = [(0, bodyOf Tryz.prog 92 0)] := by kernel_rfl
  rw [hl] at hp
  simp only [List.mem_cons, List.not_mem_nil, or_false] at hp
  obtain rfl := hp
  exact sumV Q
set_option maxRecDepth 20000 in
theorem sndV : ∀ Q, CallSound Tryz.prog InvD (cfV Q)
  | 0 => callHN_sound (callN_sound attD_ok sxV stableD mixedD 20) stableD fun f s hf => by
    simp only [List.mem_singleton] at hf
    obtain ⟨rfl, rfl⟩ := hf
    exact h55_ok
  | Q + 1 => callLN_sound sxV stableD mixedD (sndV Q) (lpsV Q)
noncomputable abbrev cB {β : Type} : CallK β := callLK Tryz.prog spV inV extD (cV 14) [(91, fun _ => .unroll 0)]
noncomputable abbrev cfB : CallF := callLN (mkCx Tryz.prog spV inV extD) (cfV 14) [(91, fun _ => .unroll 0)]
theorem cB_eq {β : Type} : CallEq (β := β) cB cfB := callLK_eq _ _ _ _ (cV_eq 14) _
set_option maxRecDepth 20000 in
theorem sndB : CallSound Tryz.prog InvD cfB := callLN_sound sxV stableD mixedD (sndV 14) (by
  intro g lp hf fn c _ _
  simp only [List.mem_singleton, Prod.mk.injEq] at hf
  obtain ⟨rfl, rfl⟩ := hf
  intro p _ keep f' h
  cases h)
def neF (y : Nat → Nat → Dt) (t : Int) : Nat → Nat → Nat
  | 0, i => i
  | f + 1, i => bif (y i 0).n != t then i else neF y t f (i + 1)
structure S17 where
  n : Nat
  x : Nat → Nat → Dt
  n2 : Nat
  y : Nat → Nat → Dt
  l : Int
  i : Int
abbrev keep17 : List Nat := [0, 2, 3, 22, 23, 24]
abbrev vs17 (s : S17) : List AV := [.isz s.n SS s.x, .ptr 0 0, .int .i64 0, .isz s.n2 SS s.y, .int .i64 s.l, .int .i64 s.i]
abbrev hp17 (_s : S17) : List Ob := [.cells [.int .i64 0, .nsl, .nsl] 27]
def dec17 : List AV → List Ob → Option S17
  | [.isz n [.int .i64, .int .i64, .int .i64, .str, .str, .int .i64, .int .i64, .int .i64, .row [.str, .str], .row [.int .i64, .int .i64]] x, .ptr 0 0, .int .i64 0, .isz n2 [.int .i64, .int .i64, .int .i64, .str, .str, .int .i64, .int .i64, .int .i64, .row [.str, .str], .row [.int .i64, .int .i64]] y, .int .i64 l, .int .i64 i], [.cells [.int .i64 0, .nsl, .nsl] 27] => some ⟨n, x, n2, y, l, i⟩
  | _, _ => none
def dom17 (s : S17) : Bool := decide (0 ≤ s.i) && (decide (s.i ≤ (s.n2 : Int)) && (decide (s.l = (s.n2 : Int)) && (Nat.ble 1 s.n && Nat.ble s.n2 1000)))
def fin17 (s : S17) : Tr (Ex × List AV × List Ob) := .node (Nat.beq (neF s.y (s.x 0 0).n (s.n2 - s.i.toNat) s.i.toNat) s.n2) (.leaf (.exit 0, [.isz s.n SS s.x, .ptr 0 0, .int .i64 0, .isz s.n2 SS s.y, .int .i64 s.l, .int .i64 (s.n2 : Int)], [.cells [.int .i64 0, .nsl, .nsl] 27])) (.leaf (.ret, [.isz s.n SS s.x, .ptr 0 0, .int .i64 10, .isz s.n2 SS s.y, .int .i64 s.l, .int .i64 (neF s.y (s.x 0 0).n (s.n2 - s.i.toNat) s.i.toNat : Nat)], [.cells [.int .i64 0, .nsl, .nsl] 27]))
open Go.Evl Go.RowKit
def rnd17 (n : Nat) (x : Nat → Nat → Dt) (n2 : Nat) (y : Nat → Nat → Dt) (i : Int) : Option (Ex × List AV × List Ob) :=
  bif decide (i < (n2 : Int)) then bif decide (0 ≤ i) && decide (i < (n2 : Int)) then bif true && decide ((0 : Int) < (n : Int)) then bif (y i.toNat 0).n != (x 0 0).n then some (.ret, [.isz n SS x, .ptr 0 0, .int .i64 10, .isz n2 SS y, .int .i64 (n2 : Int), .int .i64 i], [.cells [.int .i64 0, .nsl, .nsl] 27]) else some (.normal, [.isz n SS x, .ptr 0 0, .int .i64 0, .isz n2 SS y, .int .i64 (n2 : Int), .int .i64 (IntKind.i64.wrap (i + 1))], [.cells [.int .i64 0, .nsl, .nsl] 27]) else none else none
  else some (.exit 0, [.isz n SS x, .ptr 0 0, .int .i64 0, .isz n2 SS y, .int .i64 (n2 : Int), .int .i64 i], [.cells [.int .i64 0, .nsl, .nsl] 27])
noncomputable abbrev lp17 (i : Nat) : LT := bif Nat.beq i 2000017 then .ghost [.nilC 9 1 44 SS, .nilC 9 2 3 [.int .i64]] else bif Nat.beq i 1000018 then .forget [2, 7, 9] else .sum keep17 (stF dec17 dom17 fin17)
theorem loop17 (n : Nat) (x : Nat → Nat → Dt) (n2 : Nat) (y : Nat → Nat → Dt) (i : Int) : evC (β := Ex × List AV × List Ob) Tryz.prog spV inV extD cB lp17 (bodyOf Tryz.prog 12 0) ⟨mkF Tryz.f12.ntmps [0, 2, 3, 22, 23, 24] [.isz n SS x, .ptr 0 0, .int .i64 0, .isz n2 SS y, .int .i64 (n2 : Int), .int .i64 i], [.cells [.int .i64 0, .nsl, .nsl] 27]⟩ (fun e st => (cutBack [0, 2, 3, 22, 23, 24] 1 st).map fun q => (e, q.1, q.2)) = rnd17 n x n2 y i := by kernel_rfl
set_option maxRecDepth 10000 in
theorem sum17 : LoopOkT Tryz.prog spV inV extD cB lp17 Tryz.f12.ntmps (bodyOf Tryz.prog 12 0) (.sum keep17 (stF dec17 dom17 fin17)) := by
  dsimp only [LoopOkT]
  refine ⟨by decide, by decide, ?_⟩
  refine sum_st dec17 dom17 fin17 vs17 hp17 (fun s => s.n2 - s.i.toNat) (fun vs H s hs => ?_) (fun s R hd hR => ?_)
  · unfold dec17 at hs
    split at hs
    · obtain rfl := Option.some.inj hs
      exact ⟨rfl, rfl⟩
    · cases hs
  · obtain ⟨n, x, n2, y, l, i⟩ := s
    simp only [dom17, Bool.and_eq_true, decide_eq_true_eq, Nat.ble_eq] at hd
    obtain ⟨h1, h2, rfl, h3, h4⟩ := hd
    obtain ⟨i, rfl⟩ : ∃ p : Nat, i = (p : Int) := ⟨i.toNat, by omega⟩
    simp only [fin17, Int.toNat_natCast] at hR
    have ht := loop17 n x n2 y (i : Int)
    unfold rnd17 at ht
    by_cases hi : i < n2
    · obtain ⟨p, hp⟩ : ∃ p, n2 - i = p + 1 := ⟨n2 - i - 1, by omega⟩
      rw [Int.toNat_natCast, condT (decide_eq_true (by omega)), condT (by simp only [Bool.and_eq_true, decide_eq_true_eq]; omega), condT (by simp only [Bool.true_and, decide_eq_true_eq]; omega), wrapI (by omega) (by omega)] at ht
      rw [hp] at hR
      unfold neF at hR
      cases hc : ((y i 0).n != (x 0 0).n)
      · rw [condF hc] at ht
        rw [hc] at hR
        simp only [cond_false] at hR
        refine .inl ⟨⟨n, x, n2, y, (n2 : Int), (i : Int) + 1⟩, ht, rfl, ?_, ?_, ?_⟩
        · simp only [dom17, Bool.and_eq_true, decide_eq_true_eq, Nat.ble_eq, true_and]; omega
        · rw [← hR]
          have e4 : ((i : Int) + 1).toNat = i + 1 := by omega
          simp only [fin17, e4, show n2 - (i + 1) = p by omega]
        · simp only [Int.toNat_natCast]; omega
      · rw [condT hc] at ht
        rw [hc] at hR
        simp only [cond_true] at hR
        rw [show Nat.beq i n2 = false from by rw [← Bool.not_eq_true, Nat.beq_eq]; omega] at hR
        obtain rfl := Option.some.inj hR
        exact .inr ⟨by simp, ht⟩
    · obtain rfl : i = n2 := by omega
      rw [condF (decide_eq_false (by omega))] at ht
      refine .inr ?_
      simp only [Nat.sub_self, neF, Nat.beq_refl] at hR
      obtain rfl := Option.some.inj hR
      exact ⟨by simp, ht⟩
open Go.Evl Go.RowKit
structure FG where
  ok : Nat → (Nat → Nat → Dt) → Bool
  od : Nat → (Nat → Nat → Dt) → (Nat → Nat → Dt)
  c : Nat → (Nat → Nat → Dt) → Nat
  mf : Nat → (Nat → Nat → Dt) → Ky → Option Nat
  rf : Nat → (Nat → Nat → Dt) → Ky → Nat × (Nat → Nat → Dt)
noncomputable def h55g (G : FG) : HEnt := ⟨47, fun
  | [.isz n [.int .i64, .int .i64, .int .i64, .str, .str, .int .i64, .int .i64, .int .i64, .row [.str, .str], .row [.int .i64, .int .i64]] x] => .chk (Nat.ble n 12 && G.ok n x) (.leaf (.map 2, [.cells [.isz n SS x] 24, .own 3 [.int .i64] n (G.od n x), .mapF (.int .i64) (G.c n x) (.own 3 (G.mf n x)), .rows 44 SS (G.rf n x)]))
  | _ => .non⟩
noncomputable abbrev cVgb {β : Type} (G : FG) : CallK β := callHK (callK Tryz.prog spV inV extD attD uD 20) [h55g G]
noncomputable def cVgf {β : Type} (G : FG) : Nat → FuncId → List AV → List Ob → (Res → List Ob → Tr β) → Tr β
  | 0 => (cVgb G).fn
  | D + 1 => (callLK Tryz.prog spV inV extD ⟨cVgf G D, (cVgb G).rnd⟩ [(92, lp68 D)]).fn
noncomputable def cVg {β : Type} (G : FG) (D : Nat) : CallK β := ⟨cVgf G D, (cVgb G).rnd⟩
noncomputable def gAct : FG := ⟨okF, orN, fun n x => (faN n x).1, fun n x => (faN n x).2.1, fun n x => (faN n x).2.2⟩
theorem cVg_act {β : Type} : (cV 14 : CallK β) = cVg gAct 14 := by
  have h : ∀ D, (cVf D : FuncId → List AV → List Ob → (Res → List Ob → Tr β) → Tr β) = cVgf gAct D := by
    intro D
    induction D with
    | zero => rfl
    | succ D ih =>
      rw [cVf_succ, ih, cVgf]
      rfl
  unfold cV cVg
  rw [h]
  rfl
noncomputable abbrev cBg {β : Type} (G : FG) : CallK β := callLK Tryz.prog spV inV extD (cVg G 14) [(91, fun _ => .unroll 0)]
theorem cB_act {β : Type} : (cB : CallK β) = cBg gAct := by
  unfold cB cBg
  rw [cVg_act]
open Go.Evl Go.RowKit
def zF (y : Nat → Nat → Dt) (t : Int) : Nat → Nat → Nat
  | 0, k => k
  | f + 1, k => if (y k 0).n = t then zF y t f (k + 1) else k
def g1 (k : Nat) (y : Nat → Nat → Dt) : Nat → Nat → Dt := dtFs [[.row k y]]
def rgF (n : Nat) (y : Nat → Nat → Dt) : Nat → Nat → Nat → (Nat → Nat → Dt) → Nat × (Nat → Nat → Dt)
  | 0, _, g, q => (g, q)
  | f + 1, i, g, q => if i < n then rgF n y f (zF y (y i 0).n (n - i) i) (g + 1) (appEl q g (g1 (zF y (y i 0).n (n - i) i - i) fun j => y (j + i))) else (g, q)
structure S30i where
  n : Nat
  y : Nat → Nat → Dt
  h : Nat
  i : Int
  k : Int
  g : Nat
  q : Nat → Nat → Dt
abbrev keep30i : List Nat := [5, 7, 8, 9]
def dec30i : List AV → List Ob → Option S30i
  | [.isz n [.int .i64, .int .i64, .int .i64, .str, .str, .int .i64, .int .i64, .int .i64, .row [.str, .str], .row [.int .i64, .int .i64]] y, .own 0 (.int 0) h, .int .i64 i, .int .i64 k], [.own 24 [.row [.int .i64, .int .i64, .int .i64, .str, .str, .int .i64, .int .i64, .int .i64, .row [.str, .str], .row [.int .i64, .int .i64]]] g q] => some ⟨n, y, h, i, k, g, q⟩
  | _, _ => none
def dom30i (s : S30i) : Bool := decide (0 ≤ s.i) && (decide (s.i < (s.n : Int)) && (decide (0 ≤ s.k) && (decide (s.k ≤ (s.n : Int)) && Nat.ble s.n 1000)))
def fin30i (s : S30i) : Tr (Ex × List AV × List Ob) := .leaf (.exit 2, [.isz s.n SS s.y, .own 0 k0 s.h, .int .i64 s.i, .int .i64 ((zF s.y (s.y s.i.toNat 0).n (s.n - s.k.toNat) s.k.toNat : Nat) : Int)], [.own 24 [.row SS] s.g s.q])
structure S30 where
  n : Nat
  y : Nat → Nat → Dt
  h : Nat
  i : Int
  g : Nat
  q : Nat → Nat → Dt
abbrev keep30 : List Nat := [5, 7, 8]
def dec30 : List AV → List Ob → Option S30
  | [.isz n [.int .i64, .int .i64, .int .i64, .str, .str, .int .i64, .int .i64, .int .i64, .row [.str, .str], .row [.int .i64, .int .i64]] y, .own 0 (.int 0) h, .int .i64 i], [.own 24 [.row [.int .i64, .int .i64, .int .i64, .str, .str, .int .i64, .int .i64, .int .i64, .row [.str, .str], .row [.int .i64, .int .i64]]] g q] => some ⟨n, y, h, i, g, q⟩
  | _, _ => none
def dom30 (s : S30) : Bool := Nat.beq s.h s.g && (decide (0 ≤ s.i) && (decide (s.i ≤ (s.n : Int)) && (Nat.ble s.n 100 && Nat.ble (s.g + (s.n - s.i.toNat)) 1000)))
def fin30 (s : S30) : Tr (Ex × List AV × List Ob) := .leaf (.exit 0, [.isz s.n SS s.y, .own 0 k0 (rgF s.n s.y (s.n - s.i.toNat) s.i.toNat s.g s.q).1, .int .i64 (s.n : Int)], [.own 24 [.row SS] (rgF s.n s.y (s.n - s.i.toNat) s.i.toNat s.g s.q).1 (rgF s.n s.y (s.n - s.i.toNat) s.i.toNat s.g s.q).2])
abbrev lp30 (i : Nat) : LT := bif Nat.beq i 2 then .sum keep30i (stF dec30i dom30i fin30i) else .sum keep30 (stF dec30 dom30 fin30)
open Go.Evl Go.RowKit
theorem sx30 : (mkCx Tryz.prog (spOf [t61, t62]) (inlOf []) extD).Ok InvD := cx_of [] (by kernel_rfl) (by
  intro p hp
  simp only [List.mem_cons, List.not_mem_nil, or_false] at hp
  rcases hp with rfl | rfl
  · exact t61_ok
  · exact t62_ok)
def zR : Nat → Nat → Dt := fun _ _ => .int 0
theorem vt30 (n : Nat) (x : Nat → Nat → Dt) : (evFnT Tryz.prog (spOf [t61, t62]) (inlOf []) extD (cKD [t61, t62] []) lp30 Tryz.f29 [.isz n SS x] [] (castT (.tup [.row [.row SS], .any]))).run =
    (bif n.ble 9223372036854775807 && ckB n x then bif caE n x != 0 then some (.ret (.tup [.isz 0 [.row SS] zR, .int .i64 (caE n x)])) else bif n.ble 100 then bif (rsF x n 0 zeroEl).1 then bif true && (true && (true && ((rsF x n 0 zeroEl).2.1.ble 100 && (0 + ((rsF x n 0 zeroEl).2.1 - 0)).ble 1000))) then
      bif (rgF (rsF x n 0 zeroEl).2.1 (rsF x n 0 zeroEl).2.2 ((rsF x n 0 zeroEl).2.1 - 0) 0 0 zeroEl).1.beq (rgF (rsF x n 0 zeroEl).2.1 (rsF x n 0 zeroEl).2.2 ((rsF x n 0 zeroEl).2.1 - 0) 0 0 zeroEl).1 && true then
        some (.ret (.tup [.isz (rgF (rsF x n 0 zeroEl).2.1 (rsF x n 0 zeroEl).2.2 ((rsF x n 0 zeroEl).2.1 - 0) 0 0 zeroEl).1 [.row SS] (rgF (rsF x n 0 zeroEl).2.1 (rsF x n 0 zeroEl).2.2 ((rsF x n 0 zeroEl).2.1 - 0) 0 0 zeroEl).2, .int .i64 0])) else none else none
      else some (.ret (.tup [.isz 0 [.row SS] zR, .int .i64 6])) else none else none : Option Res) := by kernel_rfl
open Go.Evl Go.RowKit
noncomputable def stB (G : FG) (n : Nat) (x : Nat → Nat → Dt) : S68 := ⟨0, (x 0 0).n, 0, 0, 0, zeroEl, 0, zeroEl, n, soF n x, n, G.od n (soF n x), G.c n (soF n x), G.mf n (soF n x), G.rf n (soF n x), tmB n (soF n x), rfB.2.1, rfB.2.2.1, rfB.2.2.2, 0, -1, false, k0, (G.mf n (soF n x) k0).getD 0, (((G.mf n (soF n x) k0).getD 0 : Nat) : Int), 0, []⟩
theorem vt17 (G : FG) (n : Nat) (x : Nat → Nat → Dt) : (evFnT Tryz.prog spV inV extD (cBg G) lp17 Tryz.f12 [.isz n SS x] [] (castT (.tup [.agg [.any, .row SS, .row [.int .i64]], .any]))).run =
    (bif (n : Int) == 0 then some (.ret (.tup [.agg [.int .i64 0, .isz 0 SS zR, .isz 0 [.int .i64] zR], .int .i64 28])) else bif n.ble 9223372036854775807 then bif caE n x != 0 then some (.ret (.tup [.agg [.int .i64 0, .isz 0 SS zR, .isz 0 [.int .i64] zR], .int .i64 (caE n x)])) else bif true && (true && (decide ((n : Int) = (n : Int)) && (Nat.ble 1 n && n.ble 1000))) then
      bif (neF x (x 0 0).n (n - 0) 0).beq n then bif n.ble 12 then bif dfB n (soF n x) then bif decide ((n : Int) > 500) then some (.ret (.tup [.agg [.int .i64 0, .isz 0 SS zR, .isz 0 [.int .i64] zR], .int .i64 4])) else bif true && decide ((0 : Int) < (n : Int)) then bif n.ble 12 && G.ok n (soF n x) then bif (G.rf n (soF n x) k0).1.beq ((G.mf n (soF n x) k0).getD 0) then
        bif dom68 12 (stB G n x) then bif true && ((out68 12 (stB G n x)).m.beq (out68 12 (stB G n x)).m && ((out68 12 (stB G n x)).m.beq (out68 12 (stB G n x)).m && true)) && true then some (.ret (.tup [.agg [.int .i64 (x 0 0).n, .isz (out68 12 (stB G n x)).m SS (out68 12 (stB G n x)).sp, .isz (out68 12 (stB G n x)).m [.int .i64] (out68 12 (stB G n x)).pa], .int .i64 0])) else none else none else none else none else none
      else some (.ret (.tup [.agg [.int .i64 0, .isz 0 SS zR, .isz 0 [.int .i64] zR], .int .i64 6])) else none else some (.ret (.tup [.agg [.int .i64 0, .isz 0 SS zR, .isz 0 [.int .i64] zR], .int .i64 10])) else none else none : Option Res) := by kernel_rfl
noncomputable def vtO (n : Nat) (x : Nat → Nat → Dt) : Option VS := visK (faN n (soF n x)).2.2 13 0 (-1) ⟨0, zeroEl, zeroEl⟩
noncomputable def vtB (n : Nat) (x : Nat → Nat → Dt) : VS := (vtO n x).getD ⟨0, zeroEl, zeroEl⟩
noncomputable def okB (n : Nat) (x : Nat → Nat → Dt) : Bool := okF n (soF n x) && (verB 12 (faN n (soF n x)).2.1 (faN n (soF n x)).2.2 && (vtO n x).isSome)
def bdE (n : Nat) (x : Nat → Nat → Dt) : Int := bif Nat.beq n 0 then 28 else bif caE n x != 0 then caE n x else bif (neF x (x 0 0).n n 0).beq n then bif dfB n (soF n x) then 0 else 6 else 10
noncomputable def bdI (n : Nat) (x : Nat → Nat → Dt) : Int := bif bdE n x == 0 then (x 0 0).n else 0
noncomputable def bdN (n : Nat) (x : Nat → Nat → Dt) : Nat := bif bdE n x == 0 then (vtB n x).m else 0
noncomputable def bdS (n : Nat) (x : Nat → Nat → Dt) : Nat → Nat → Dt := bif bdE n x == 0 then (vtB n x).sp else zR
noncomputable def bdP (n : Nat) (x : Nat → Nat → Dt) : Nat → Nat → Dt := bif bdE n x == 0 then (vtB n x).pa else zR
noncomputable def t17 : Ent := ⟨12, fun
  | [.isz n [.int .i64, .int .i64, .int .i64, .str, .str, .int .i64, .int .i64, .int .i64, .row [.str, .str], .row [.int .i64, .int .i64]] x] => .chk (Nat.ble n 12 && (bdE n x != 0 || okB n x)) (.leaf (.ret (.tup [.agg [.int .i64 (bdI n x), .isz (bdN n x) SS (bdS n x), .isz (bdN n x) [.int .i64] (bdP n x)], .int .i64 (bdE n x)])))
  | _ => .non⟩
theorem dom_stB {n : Nat} {x : Nat → Nat → Dt} (_hn : n ≤ 12) (h : okB n x = true) : dom68 12 (stB gAct n x) = true ∧ out68 12 (stB gAct n x) = vtB n x := by
  unfold okB at h
  simp only [Bool.and_eq_true, verB_iff] at h
  obtain ⟨h1, h2, h3⟩ := h
  obtain ⟨S, hS⟩ := Option.isSome_iff_exists.1 h3
  have h4 := h2 k0
  have hk : ((gAct.mf n (soF n x) k0).getD 0) = ((faN n (soF n x)).2.2 k0).1 := h4.1
  have hS2 : visL (visK (faN n (soF n x)).2.2 12) ((faN n (soF n x)).2.2 k0).2 (-1) ((faN n (soF n x)).2.2 k0).1 0 ⟨0, zeroEl, zeroEl⟩ = some S := hS
  constructor
  · unfold dom68 stB
    rw [hk]
    simp only [Bool.and_eq_true, decide_eq_true_eq, Nat.ble_eq, Nat.beq_eq, ctxB_iff, ctxP, verB_iff, tlB_iff, Int.toNat_zero, Nat.sub_zero, List.length_nil, and_self, true_and]
    show (verP 1000 (faN n (soF n x)).2.1 (faN n (soF n x)).2.2) ∧ _
    refine ⟨fun key => ⟨(h2 key).1, by have := (h2 key).2; omega⟩, rfl, rfl, rfl, by omega, by omega, by omega, ?_⟩
    show (visL (visK (faN n (soF n x)).2.2 12) ((faN n (soF n x)).2.2 k0).2 (-1) ((faN n (soF n x)).2.2 k0).1 0 ⟨0, zeroEl, zeroEl⟩).isSome = true
    rw [hS2]; rfl
  · unfold out68 stB vtB
    rw [hk, hS]
    show (visL (visK (faN n (soF n x)).2.2 12) ((faN n (soF n x)).2.2 k0).2 (-1) ((faN n (soF n x)).2.2 k0).1 0 ⟨0, zeroEl, zeroEl⟩).getD _ = _
    rw [hS2]
set_option maxRecDepth 10000 in
theorem t17_ok : SpecHolds Tryz.prog InvD 12 fun a => (t17.2 a).run := by
  refine spec_of_evC Tryz.prog spV inV extD cB (fun {β} => cB_eq (β := β)) sxV stableD mixedD sndB Tryz.func12 (c := codeOf Tryz.prog 12) (by kernel_rfl) lp17 (fun p hp => by
    have hl : loops (codeOf Tryz.prog 12) = [(0, bodyOf Tryz.prog 12 0)] := by kernel_rfl
    rw [hl] at hp
    simp only [List.mem_cons, List.not_mem_nil, or_false] at hp
    obtain rfl := hp
    exact sum17) (.tup [.agg [.any, .row SS, .row [.int .i64]], .any]) fun args r hh => ?_
  simp only [t17] at hh
  split at hh
  · rename_i n x
    obtain ⟨hg, hh⟩ := chk_run hh
    rw [Bool.and_eq_true, Nat.ble_eq] at hg
    obtain ⟨hn, hg⟩ := hg
    refine ⟨by kernel_rfl, ?_⟩
    have ht := vt17 gAct n x
    rw [← cB_act] at ht
    refine ht.trans (Eq.trans ?_ hh)
    clear ht hh
    unfold bdI bdN bdS bdP
    unfold bdE at hg ⊢
    cases n with
    | zero => rfl
    | succ n =>
      rw [show (((n + 1 : Nat) : Int) == 0) = false from by rw [beq_eq_false_iff_ne]; omega, show Nat.beq (n + 1) 0 = false from rfl] 
      rw [show Nat.beq (n + 1) 0 = false from rfl] at hg
      simp only [cond_false] at hg ⊢
      rw [condT (by rw [Nat.ble_eq]; omega)]
      cases hc : caE (n + 1) x != 0 with
      | true =>
        have h0 : (caE (n + 1) x == 0) = false := by rw [beq_eq_false_iff_ne]; exact bne_iff_ne.1 hc
        simp only [cond_true, h0, cond_false, Tr.run]
      | false =>
        rw [hc] at hg
        simp only [cond_false] at hg ⊢
        rw [condT (by simp only [Bool.true_and, Bool.and_eq_true, decide_eq_true_eq, Nat.ble_eq, true_and]; omega), Nat.sub_zero]
        cases hq : (neF x (x 0 0).n (n + 1) 0).beq (n + 1) with
        | false => rfl
        | true =>
          rw [hq] at hg
          simp only [cond_true] at hg ⊢
          rw [condT (by rw [Nat.ble_eq]; omega)]
          cases hd : dfB (n + 1) (soF (n + 1) x) with
          | false => rfl
          | true =>
            rw [hd] at hg
            simp only [cond_true] at hg ⊢
            have ho : okB (n + 1) x = true := by simpa using hg
            obtain ⟨hd1, hd2⟩ := dom_stB (n := n + 1) hn ho
            unfold okB at ho
            simp only [Bool.and_eq_true, verB_iff] at ho
            rw [condF (decide_eq_false (by omega)), condT (by simp only [Bool.true_and, decide_eq_true_eq]; omega), condT (by rw [Bool.and_eq_true, Nat.ble_eq]; exact ⟨by omega, ho.1⟩), condT (by rw [Nat.beq_eq]; exact (ho.2.1 k0).1.symm), condT hd1, hd2]
            simp only [Nat.beq_refl, Bool.and_true, cond_true, beq_self_eq_true, Tr.run]
  · simp [Tr.run] at hh
open Go.Evl Go.RowKit
def dL (rec_ : Nat → Int → List (Nat × Int) → Option (List (Nat × Int))) (ix : Int) : List Nat → List (Nat × Int) → Option (List (Nat × Int))
  | [], s => some s
  | c :: r, s => if s.length < 1000 then match rec_ c (s.length : Int) (s ++ [(c, ix)]) with
    | none => none
    | some s' => dL rec_ ix r s' else none
def dK (ch : Option Nat → List Nat) : Nat → Option Nat → Int → List (Nat × Int) → Option (List (Nat × Int))
  | 0, _, _, _ => none
  | d + 1, J, ix, s => dL (fun c => dK ch d (some c)) ix (ch J) s
def preL (rec_ : Nat → Int → Nat → List (Nat × Int)) (ix : Int) : List Nat → Nat → List (Nat × Int)
  | [], _ => []
  | c :: r, m => (c, ix) :: rec_ c (m : Int) (m + 1) ++ preL rec_ ix r (m + 1 + (rec_ c (m : Int) (m + 1)).length)
def preT (ch : Option Nat → List Nat) : Nat → Option Nat → Int → Nat → List (Nat × Int)
  | 0, _, _, _ => []
  | d + 1, J, ix, m => preL (fun c => preT ch d (some c)) ix (ch J) m
theorem preT_fst (ch : Option Nat → List Nat) : ∀ d J ix m, (preT ch d J ix m).map (·.1) = subT ch d J
  | 0, _, _, _ => rfl
  | d + 1, J, ix, m => by
    simp only [preT, subT]
    generalize ch J = l
    induction l generalizing m with
    | nil => rfl
    | cons c r ih =>
      simp only [preL, List.flatMap_cons, List.map_append, List.map_cons]
      rw [ih, preT_fst ch d]
def OkD (ch : Option Nat → List Nat) : Nat → Option Nat → Prop
  | 0, _ => False
  | d + 1, J => ∀ c ∈ ch J, OkD ch d (some c)
theorem okD_some {q : Nat → Option Nat} {n : Nat} {ch : Option Nat → List Nat} (hf : Fam q n ch) : ∀ d j, j < n → (∀ k, k < n → upO q d k ≠ some j) → OkD ch d (some j)
  | 0, j, hj, h => h j hj rfl
  | d + 1, j, hj, h => fun c hc => by
    have hc' := (hf.mem _ _).1 hc
    refine okD_some hf d c hc'.1 fun k hk e => h k hk ?_
    simp [upO, e, hc'.2]
theorem okD_root {q : Nat → Option Nat} {n : Nat} {ch : Option Nat → List Nat} (hf : Fam q n ch) (he : Ends q n) {d : Nat} (hd : n ≤ d) : OkD ch (d + 1) none := fun c hc => by
  refine okD_some hf d c ((hf.mem _ _).1 hc).1 fun k hk e => ?_
  rw [upO_none (up_bound hf.q_lt he hk) hd] at e
  cases e
theorem dK_pre (ch : Option Nat → List Nat) : ∀ d J ix s, OkD ch d J → s.length + (subT ch d J).length ≤ 1000 → dK ch d J ix s = some (s ++ preT ch d J ix s.length)
  | 0, _, _, _, h, _ => h.elim
  | d + 1, J, ix, s, h, hs => by
    simp only [dK, preT]
    simp only [subT] at hs
    have h : ∀ c ∈ ch J, OkD ch d (some c) := h
    generalize ch J = l at *
    induction l generalizing s with
    | nil => simp [dL, preL]
    | cons c r ih =>
      rw [List.flatMap_cons, List.length_append, List.length_cons] at hs
      simp only [dL, preL]
      rw [if_pos (by omega), dK_pre ch d (some c) _ _ (h c (List.mem_cons_self ..)) (by rw [List.length_append, List.length_cons, List.length_nil]; omega)]
      have e1 : (preT ch d (some c) (s.length : Int) (s.length + 1)).length = (subT ch d (some c)).length := by
        rw [← preT_fst ch d (some c) (s.length : Int) (s.length + 1), List.length_map]
      have e2 : (s ++ [(c, ix)]).length = s.length + 1 := by rw [List.length_append]; rfl
      rw [e2]
      show dL _ ix r _ = _
      rw [ih _ (by rw [List.length_append, e2, e1]; omega) fun b hb => h b (List.mem_cons_of_mem _ hb)]
      rw [List.length_append, e2]
      simp only [List.append_assoc, List.cons_append, List.nil_append]
def repS (x : Nat → Nat → Dt) (s : List (Nat × Int)) : VS := s.foldl (fun S e => S.push (nmT (x e.1)) e.2) ⟨0, zeroEl, zeroEl⟩
theorem repS_push (x : Nat → Nat → Dt) (s : List (Nat × Int)) (k : Nat) (p : Int) : (repS x s).push (nmT (x k)) p = repS x (s ++ [(k, p)]) := by
  unfold repS
  rw [List.foldl_append]
  rfl
theorem repS_m (x : Nat → Nat → Dt) : ∀ s : List (Nat × Int), (repS x s).m = s.length := by
  have : ∀ (s : List (Nat × Int)) (S : VS), (s.foldl (fun S e => S.push (nmT (x e.1)) e.2) S).m = S.m + s.length := by
    intro s
    induction s with
    | nil => intro S; rfl
    | cons e r ih =>
      intro S
      rw [List.foldl_cons, ih]
      simp only [VS.push, List.length_cons]
      omega
  intro s
  unfold repS
  rw [this]
  simp
def kyO (x : Nat → Nat → Dt) : Option Nat → Int
  | none => 0
  | some j => (x j 1).n
def Rows (x : Nat → Nat → Dt) (l : List Nat) (r : Nat × (Nat → Nat → Dt)) : Prop := r.1 = l.length ∧ ∀ i (h : i < l.length), r.2 i = nmT (x l[i])
theorem visK_dK {x : Nat → Nat → Dt} {ch : Option Nat → List Nat} {rf : Ky → Nat × (Nat → Nat → Dt)} {P : Option Nat → Prop} (hP : ∀ J c, c ∈ ch J → P (some c)) (hr : ∀ J, P J → Rows x (ch J) (rf (.int (kyO x J)))) : ∀ d J ix s, P J → visK rf d (kyO x J) ix (repS x s) = (dK ch d J ix s).map (repS x)
  | 0, _, _, _, _ => rfl
  | d + 1, J, ix, s, hJ => by
    simp only [visK, dK]
    obtain ⟨h1, h2⟩ := hr J hJ
    rw [h1]
    have key : ∀ (l : List Nat) (i : Nat) (s : List (Nat × Int)), (∀ c ∈ l, P (some c)) → (∀ j (h : j < l.length), (rf (.int (kyO x J))).2 (i + j) = nmT (x l[j])) → visL (visK rf d) (rf (.int (kyO x J))).2 ix l.length i (repS x s) = (dL (fun c => dK ch d (some c)) ix l s).map (repS x) := by
      intro l
      induction l with
      | nil => intro i s _ _; rfl
      | cons c r ih =>
        intro i s hc hl
        have h0 := hl 0 (by simp)
        rw [Nat.add_zero] at h0
        simp only [List.getElem_cons_zero] at h0
        rw [List.length_cons, visL_succ, repS_m, h0, repS_push]
        simp only [dL]
        by_cases hm : s.length < 1000
        · rw [if_pos hm, if_pos hm]
          have := visK_dK hP hr d (some c) (s.length : Int) (s ++ [(c, ix)]) (hc c (List.mem_cons_self ..))
          rw [show (nmT (x c) 1).n = kyO x (some c) from rfl, this]
          cases dK ch d (some c) (s.length : Int) (s ++ [(c, ix)]) with
          | none => rfl
          | some s' =>
            show visL _ _ _ _ _ (repS x s') = _
            rw [ih (i + 1) s' (fun b hb => hc b (List.mem_cons_of_mem _ hb)) fun j hj => by
              have := hl (j + 1) (by simpa using hj)
              rw [show i + 1 + j = i + (j + 1) by omega, this]
              rfl]
        · rw [if_neg hm, if_neg hm]
          rfl
    exact key (ch J) 0 s (fun c hc => hP J c hc) fun j hj => by rw [Nat.zero_add]; exact h2 j hj
open Go.Evl Go.RowKit
theorem rows_app {x : Nat → Nat → Dt} {l : List Nat} {r : Nat × (Nat → Nat → Dt)} (h : Rows x l r) (k : Nat) : Rows x (l ++ [k]) (r.1 + 1, appEl r.2 r.1 (rwE x k)) := by
  obtain ⟨h1, h2⟩ := h
  refine ⟨by rw [List.length_append, h1]; rfl, fun i hi => ?_⟩
  rw [List.length_append, List.length_cons, List.length_nil] at hi
  show appEl r.2 r.1 (rwE x k) i = _
  unfold appEl
  by_cases e : i < l.length
  · rw [show Nat.blt i r.1 = true from by rw [Nat.blt_eq]; omega, cond_true, h2 i e, List.getElem_append_left e]
  · rw [show Nat.blt i r.1 = false from by rw [Bool.eq_false_iff]; intro z; rw [Nat.blt_eq] at z; omega, cond_false, List.getElem_append_right (by omega)]
    simp only [show i - r.1 = 0 by omega, show i - l.length = 0 by omega, List.getElem_cons_zero]
    rfl
set_option maxRecDepth 20000 in
theorem chF_ok (x pc o : Nat → Nat → Dt) : ∀ (f i : Nat) (s : Nat × (Ky → Option Nat) × (Ky → Nat × (Nat → Nat → Dt))) (l : List Nat), (∀ key, Rows x (l.filter fun k => pkF x pc k == key) (s.2.2 (.int key))) → verP i s.2.1 s.2.2 →
    (∀ key, Rows x ((l ++ (List.range f).map fun j => (o (i + j) 0).n.toNat).filter fun k => pkF x pc k == key) ((chF x pc o f i s).2.2 (.int key))) ∧ verP (i + f) (chF x pc o f i s).2.1 (chF x pc o f i s).2.2
  | 0, i, s, l, h, hv => by
    rw [List.range_zero, List.map_nil, List.append_nil]
    exact ⟨h, hv⟩
  | f + 1, i, s, l, h, hv => by
    simp only [chF]
    have hl : l ++ (List.range (f + 1)).map (fun j => (o (i + j) 0).n.toNat) = (l ++ [(o i 0).n.toNat]) ++ (List.range f).map (fun j => (o (i + 1 + j) 0).n.toNat) := by
      rw [List.range_succ_eq_map, List.map_cons, List.map_map, List.append_assoc]
      congr 2
      refine List.map_congr_left fun j _ => ?_
      simp only [Function.comp]
      rw [show i + 1 + j = i + (j + 1) by omega]
    rw [hl, show i + (f + 1) = i + 1 + f by omega]
    refine chF_ok x pc o f (i + 1) _ _ (fun key => ?_) (verP_put hv _ _)
    rw [List.filter_append]
    dsimp only
    by_cases e : key = pkF x pc (o i 0).n.toNat
    · subst e
      rw [putK_at, List.filter_cons, if_pos (beq_self_eq_true _), List.filter_nil]
      exact rows_app (h _) _
    · rw [putK_ne _ _ (show Ky.int key ≠ Ky.int (pkF x pc (o i 0).n.toNat) from fun z => e (Ky.int.inj z)), List.filter_cons, if_neg (by simpa using fun z => e z.symm), List.filter_nil, List.append_nil]
      exact h key
def chN (n : Nat) (x : Nat → Nat → Dt) (J : Option Nat) : List Nat := (olN n x).filter fun k => decide (parO (pcN n x) k = J)
theorem fam_chN (n : Nat) (x : Nat → Nat → Dt) : Fam (fun k => if k < n then parO (pcN n x) k else none) n (chN n x) where
  q_lt := fun k c h => by
    split at h
    · rename_i hk
      exact parO_lt (okP_true n x).2.1 hk h
    · cases h
  nodup := fun J => ((olN_perm n x).nodup_iff.2 List.nodup_range).filter _
  mem := fun J c => by
    unfold chN
    rw [List.mem_filter, (olN_perm n x).mem_iff, List.mem_range, decide_eq_true_eq]
    constructor
    · rintro ⟨h1, h2⟩
      exact ⟨h1, by rw [if_pos h1]; exact h2⟩
    · rintro ⟨h1, h2⟩
      refine ⟨h1, ?_⟩
      rw [if_pos h1] at h2
      exact h2
open Go.Evl Go.RowKit
structure Good (n : Nat) (y : Nat → Nat → Dt) : Prop where
  one : 1 ≤ n
  sp : ∀ k, k < n → spE y k = 0
  pos : ∀ k, k < n → 1 ≤ (y k 1).n
  inc : ∀ a b, a < b → b < n → (y a 1).n < (y b 1).n
  tr : ∀ k, k < n → (y k 0).n = (y 0 0).n
theorem spE_vE {x y : Nat → Nat → Dt} {i j : Nat} (h : vE x i = vE y j) : spE x i = spE y j := by
  obtain ⟨h0, h1, h2, h3, h4, h5, h6, h7, h8, h9, h10, h11⟩ := vE_cell h
  unfold spE
  rw [h0, h1, h2, h3, h4, h5, h6, h7, h8, h9, h10, h11]
theorem spE_pos {x : Nat → Nat → Dt} {k : Nat} (h : spE x k = 0) : 1 ≤ (x k 1).n := by
  unfold spE scE at h
  split at h
  · rename_i h1; exact h1.2.1.1
  · cases h
theorem caE_zero {n : Nat} {x : Nat → Nat → Dt} (h : caE n x = 0) : ∀ k, k < n → spE x k = 0 := by
  intro k hk
  unfold caE at h
  cases e : scan (spG x) n 0 with
  | none =>
    have := scan_none e k (by omega) (by omega)
    unfold spG at this
    split at this
    · assumption
    · cases this
  | some q =>
    exfalso
    rw [e] at h
    obtain ⟨a, b⟩ := q
    have h2 : spG x b = some a := by
      have : ∀ (f i : Nat), scan (spG x) f i = some (a, b) → spG x b = some a := by
        intro f
        induction f with
        | zero => intro i h; cases h
        | succ f ih =>
          intro i h
          simp only [scan] at h
          cases e2 : spG x i with
          | none => rw [e2] at h; exact ih _ h
          | some v =>
            rw [e2] at h
            cases h
            exact e2
      exact this n 0 e
    have h3 : a = 0 := h
    unfold spG at h2
    split at h2
    · cases h2
    · rename_i hne
      exact hne ((Option.some.inj h2).trans h3)
theorem neF_all {y : Nat → Nat → Dt} {t : Int} : ∀ (f i : Nat), neF y t f i = i + f → ∀ k, i ≤ k → k < i + f → (y k 0).n = t
  | 0, i, _, k, h1, h2 => by omega
  | f + 1, i, h, k, h1, h2 => by
    unfold neF at h
    cases hc : ((y i 0).n != t) with
    | true => rw [hc] at h; simp only [cond_true] at h; omega
    | false =>
      rw [hc] at h
      simp only [cond_false] at h
      by_cases e : k = i
      · subst e
        simpa using hc
      · exact neF_all f (i + 1) (by omega) k (by omega) (by omega)
theorem good_of {n : Nat} {x : Nat → Nat → Dt} (h : bdE n x = 0) : Good n (soF n x) ∧ dsL n x ∧ (∀ k, k < n → spE x k = 0) ∧ ∀ k, k < n → (x k 0).n = (x 0 0).n := by
  unfold bdE at h
  cases n with
  | zero => cases h
  | succ n =>
    rw [show Nat.beq (n + 1) 0 = false from rfl, cond_false] at h
    cases hc : caE (n + 1) x != 0 with
    | true =>
      rw [hc] at h
      simp only [cond_true] at h
      exact absurd h (bne_iff_ne.1 hc)
    | false =>
      have hca : caE (n + 1) x = 0 := by simpa using hc
      rw [hc, cond_false] at h
      cases hq : (neF x (x 0 0).n (n + 1) 0).beq (n + 1) with
      | false => rw [hq] at h; cases h
      | true =>
        rw [hq, cond_true] at h
        cases hd : dfB (n + 1) (soF (n + 1) x) with
        | false => rw [hd] at h; cases h
        | true =>
          have hds := (dfB_iff _ _).1 hd
          have htr : ∀ k, k < n + 1 → (x k 0).n = (x 0 0).n := fun k hk => neF_all (n + 1) 0 (by rw [Nat.zero_add]; exact (by simpa using hq)) k (by omega) (by omega)
          have hsp := caE_zero hca
          obtain ⟨so1, so2⟩ := soF_ok (n + 1) x
          have hrow : ∀ k, k < n + 1 → ∃ j, j < n + 1 ∧ vE (soF (n + 1) x) k = vE x j := fun k hk => toL_mem.1 (so2.mem_iff.1 (toL_mem.2 ⟨k, hk, rfl⟩))
          have hsp' : ∀ k, k < n + 1 → spE (soF (n + 1) x) k = 0 := fun k hk => by
            obtain ⟨j, hj, e⟩ := hrow k hk
            rw [spE_vE e]
            exact hsp j hj
          have htr' : ∀ k, k < n + 1 → (soF (n + 1) x k 0).n = (x 0 0).n := fun k hk => by
            obtain ⟨j, hj, e⟩ := hrow k hk
            rw [(vE_cell e).1]
            exact htr j hj
          refine ⟨⟨by omega, hsp', fun k hk => spE_pos (hsp' k hk), fun a b hab hb => ?_, fun k hk => by rw [htr' k hk, htr' 0 (by omega)]⟩, hds, hsp, htr⟩
          have h1 := so1 a b hab hb
          have h2 := dsL_iff.1 ((dsL_perm so2).2 hds) a b hab hb
          have h3 := htr' a (by omega)
          have h4 := htr' b hb
          unfold lxE at h1
          omega
open Go.Evl Go.RowKit
theorem pkF_ky (y pc : Nat → Nat → Dt) (k : Nat) : pkF y pc k = kyO y (parO pc k) := by
  unfold pkF parO
  by_cases h : (pc k 0).n ≥ 0
  · rw [decide_eq_true h, cond_true]
    unfold oi
    rw [if_pos h]
    rfl
  · rw [decide_eq_false h, cond_false, oi_neg (by omega)]
    rfl
theorem ky_inj {n : Nat} {y : Nat → Nat → Dt} (h : Good n y) {J K : Option Nat} (hJ : ∀ j, J = some j → j < n) (hK : ∀ j, K = some j → j < n) (e : kyO y J = kyO y K) : J = K := by
  cases J with
  | none =>
    cases K with
    | none => rfl
    | some k => have := h.pos k (hK k rfl); simp only [kyO] at e; omega
  | some j =>
    cases K with
    | none => have := h.pos j (hJ j rfl); simp only [kyO] at e; omega
    | some k =>
      simp only [kyO] at e
      rcases Nat.lt_trichotomy j k with h1 | h1 | h1
      · have := h.inc j k h1 (hK k rfl); omega
      · rw [h1]
      · have := h.inc k j h1 (hJ j rfl); omega
def enT (n : Nat) (y : Nat → Nat → Dt) : List (Nat × Int) := preT (chN n y) 13 none (-1) 0
theorem faN_rows {n : Nat} {y : Nat → Nat → Dt} (h : Good n y) : (∀ J, (∀ j, J = some j → j < n) → Rows y (chN n y J) ((faN n y).2.2 (.int (kyO y J)))) ∧ verP n (faN n y).2.1 (faN n y).2.2 := by
  have hh := chF_ok y (pcN n y) (orN n y) n 0 (0, (fun _ => none), fun _ => (0, zeroEl)) [] (fun key => ⟨rfl, fun i hi => by cases hi⟩) fun key => ⟨rfl, Nat.le_refl _⟩
  rw [Nat.zero_add] at hh
  refine ⟨fun J hJ => ?_, ?_⟩
  · have h1 := hh.1 (kyO y J)
    have e : chN n y J = ([] ++ (List.range n).map fun j => (orN n y (0 + j) 0).n.toNat).filter fun k => pkF y (pcN n y) k == kyO y J := by
      unfold chN olN
      rw [List.nil_append]
      simp only [Nat.zero_add]
      refine List.filter_congr fun k hk => ?_
      have hkn : k < n := List.mem_range.1 ((olN_perm n y).mem_iff.1 hk)
      rw [pkF_ky, Bool.eq_iff_iff, decide_eq_true_eq, beq_iff_eq]
      exact ⟨fun z => by rw [z], fun z => ky_inj h (fun j hj => parO_lt (okP_true n y).2.1 hkn hj) hJ z⟩
    rw [e]
    unfold faN
    rw [Nat.sub_zero]
    exact h1
  · unfold faN
    rw [Nat.sub_zero]
    exact hh.2
theorem up_if {n : Nat} {q : Nat → Option Nat} (hq : ∀ k, k < n → ∀ c, q k = some c → c < n) : ∀ t k, k < n → upO (fun k => if k < n then q k else none) t k = upO q t k
  | 0, _, _ => rfl
  | t + 1, k, hk => by
    rw [upO_one, upO_one]
    rw [if_pos hk]
    cases e : q k with
    | none => rfl
    | some c => exact up_if hq t c (hq k hk c e)
theorem ends_chN (n : Nat) (y : Nat → Nat → Dt) : Ends (fun k => if k < n then parO (pcN n y) k else none) n := fun k hk => by
  obtain ⟨_, h1, h2, _⟩ := okP_true n y
  obtain ⟨t, ht⟩ := h2 k hk
  exact ⟨t, by rw [up_if (fun k hk c => parO_lt h1 hk) t k hk]; exact ht⟩
theorem subT_chN {n : Nat} (hn : n ≤ 12) (y : Nat → Nat → Dt) : (subT (chN n y) 13 none).Perm (List.range n) := subT_perm (fam_chN n y) (ends_chN n y) (by omega)
theorem visK_en {n : Nat} {y : Nat → Nat → Dt} (h : Good n y) (hn : n ≤ 12) : visK (faN n y).2.2 13 0 (-1) ⟨0, zeroEl, zeroEl⟩ = some (repS y (enT n y)) := by
  have h1 := visK_dK (P := fun J => ∀ j, J = some j → j < n) (fun J c hc j hj => by
    cases hj
    exact (((fam_chN n y).mem J c).1 hc).1) (faN_rows h).1 13 none (-1) [] (fun j hj => by cases hj)
  have h2 := dK_pre (chN n y) 13 none (-1) [] (okD_root (fam_chN n y) (ends_chN n y) (by omega)) (by
    rw [(subT_chN hn y).length_eq, List.length_range, List.length_nil]; omega)
  rw [h2] at h1
  exact h1
theorem okB_true {n : Nat} {x : Nat → Nat → Dt} (hn : n ≤ 12) (h : bdE n x = 0) : okB n x = true ∧ vtB n x = repS (soF n x) (enT n (soF n x)) := by
  have hg := (good_of h).1
  have hv := visK_en hg hn
  constructor
  · unfold okB vtO
    rw [okF_true, hv, verB_iff.2 (show verP 12 (faN n (soF n x)).2.1 (faN n (soF n x)).2.2 from fun key => by
      have := (faN_rows hg).2 key
      exact ⟨this.1, by omega⟩)]
    rfl
  · unfold vtB vtO
    rw [hv]
    rfl
open Go.Evl Go.RowKit
def smV (v : List Dt) : Prop := (dtF v 8).len ≤ 1000000 ∧ (dtF v 9).len ≤ 1000000
theorem app_at {el el' : Nat → Nat → Dt} {n i : Nat} : appEl el n el' i = if i < n then el i else el' (i - n) := by
  unfold appEl
  by_cases h : i < n
  · rw [if_pos h, show Nat.blt i n = true by rw [Nat.blt_eq]; exact h]; rfl
  · rw [if_neg h, show Nat.blt i n = false by rw [Bool.eq_false_iff]; simpa using h]; rfl
theorem smV_perm {n : Nat} {x y : Nat → Nat → Dt} (hp : (toL n x).Perm (toL n y)) (h : ∀ i, i < n → smV (vE y i)) : ∀ i, i < n → smV (vE x i) := fun i hi => by
  obtain ⟨k, hk, e⟩ := toL_mem.1 (hp.mem_iff.1 (toL_mem.2 ⟨i, hi, rfl⟩))
  rw [e]; exact h k hk
def okL (n : Nat) (x : Nat → Nat → Dt) : Bool := Nat.ble n 9223372036854775807 && (lnB n x && (List.range n).all fun k => inI (x k 0).n && inB (x k 9).len (x k 9).el)
theorem gl_sm {n : Nat} {x : Nat → Nat → Dt} (h : glB n x = false) : n ≤ 12 ∧ ∀ k, k < n → gsG x k = false := by
  unfold glB at h
  simp only [Bool.or_eq_false_iff, Bool.not_eq_eq_eq_not, Bool.not_false, decide_eq_false_iff_not] at h
  refine ⟨by omega, fun k hk => ?_⟩
  have hs : scan (g16 n x) (n - 0) 0 = none := by simpa [sc16] using h.1
  have := scan_none hs k (Nat.zero_le _) (by omega)
  unfold g16 at this
  split at this
  · cases this
  · rename_i hh
    exact bnx hh
theorem gs_len {x : Nat → Nat → Dt} {k : Nat} (h : gsG x k = false) : (x k 8).len ≤ 17 ∧ (x k 9).len ≤ 17 := by
  unfold gsG gsB grB at h
  simp only [Bool.or_eq_false_iff, decide_eq_false_iff_not] at h
  omega
theorem okL_ck {n : Nat} {x : Nat → Nat → Dt} (h : okL n x = true) (hg : glB n x = false) : ckB n x = true ∧ ∀ k, k < n → smV (vE x k) := by
  unfold okL at h
  simp only [Bool.and_eq_true] at h
  obtain ⟨h1, h2⟩ := gl_sm hg
  refine ⟨List.all_eq_true.2 fun k hk => ?_, fun k hk => ?_⟩
  · have h3 := List.all_eq_true.1 h.2.2 k hk
    rw [Bool.and_eq_true] at h3
    have h4 := h2 k (List.mem_range.1 hk)
    unfold gsG at h4
    unfold siB
    rw [h3.1, h3.2, gs_sm h4]; rfl
  · obtain ⟨e1, e2⟩ := gs_len (h2 k hk)
    exact ⟨by show (x k 8).len ≤ 1000000; omega, by show (x k 9).len ≤ 1000000; omega⟩
open Go.Evl Go.RowKit
theorem preT_len (ch : Option Nat → List Nat) (d : Nat) (J : Option Nat) (ix : Int) (m : Nat) : (preT ch d J ix m).length = (subT ch d J).length := by
  rw [← preT_fst ch d J ix m, List.length_map]
def kE (n : Nat) (y : Nat → Nat → Dt) (i : Nat) : Nat := ((enT n y)[i]?.getD (0, -1)).1
def pE (n : Nat) (y : Nat → Nat → Dt) (i : Nat) : Int := ((enT n y)[i]?.getD (0, -1)).2
theorem enT_len {n : Nat} (hn : n ≤ 12) (y : Nat → Nat → Dt) : (enT n y).length = n := by
  unfold enT
  rw [preT_len, (subT_chN hn y).length_eq, List.length_range]
theorem enT_get {n : Nat} (hn : n ≤ 12) (y : Nat → Nat → Dt) {i : Nat} (hi : i < n) : (enT n y)[i]'(by rw [enT_len hn]; exact hi) = (kE n y i, pE n y i) := by
  unfold kE pE
  rw [List.getElem?_eq_getElem (by rw [enT_len hn]; exact hi)]
  rfl
theorem enT_fst {n : Nat} (hn : n ≤ 12) (y : Nat → Nat → Dt) : ((List.range n).map (kE n y)).Perm (List.range n) := by
  have h := preT_fst (chN n y) 13 none (-1) 0
  have h2 : (List.range n).map (kE n y) = (enT n y).map (·.1) := by
    apply List.ext_getElem
    · rw [List.length_map, List.length_map, List.length_range, enT_len hn]
    · intro i h1 h2
      rw [List.length_map, List.length_range] at h1
      rw [List.getElem_map, List.getElem_map, List.getElem_range, enT_get hn y h1]
  rw [h2]
  unfold enT
  rw [h]
  exact subT_chN hn y
theorem kE_lt {n : Nat} (hn : n ≤ 12) {y : Nat → Nat → Dt} {i : Nat} (hi : i < n) : kE n y i < n :=
  List.mem_range.1 ((enT_fst hn y).mem_iff.1 (List.mem_map_of_mem (List.mem_range.2 hi)))
theorem kE_sur {n : Nat} (hn : n ≤ 12) (y : Nat → Nat → Dt) {k : Nat} (hk : k < n) : ∃ i, i < n ∧ kE n y i = k := by
  have h := (enT_fst hn y).mem_iff.2 (List.mem_range.2 hk)
  rw [List.mem_map] at h
  obtain ⟨i, hi, e⟩ := h
  exact ⟨i, List.mem_range.1 hi, e⟩
theorem rep_at (y : Nat → Nat → Dt) (s : List (Nat × Int)) : ∀ i (h : i < s.length), (repS y s).sp i = nmT (y s[i].1) ∧ ((repS y s).pa i 0).n = s[i].2 := by
  have key : ∀ (r : List (Nat × Int)) (q : List (Nat × Int)), (∀ i (h : i < q.length), (repS y q).sp i = nmT (y q[i].1) ∧ ((repS y q).pa i 0).n = q[i].2) → ∀ i (h : i < (q ++ r).length), (repS y (q ++ r)).sp i = nmT (y (q ++ r)[i].1) ∧ ((repS y (q ++ r)).pa i 0).n = (q ++ r)[i].2 := by
    intro r
    induction r with
    | nil => intro q h; simpa using h
    | cons e r ih =>
      intro q h
      rw [show q ++ e :: r = (q ++ [e]) ++ r by simp]
      refine ih (q ++ [e]) fun i hi => ?_
      rw [← show (repS y q).push (nmT (y e.1)) e.2 = repS y (q ++ [e]) from repS_push y q e.1 e.2]
      rw [List.length_append, List.length_cons, List.length_nil] at hi
      show appEl (repS y q).sp (repS y q).m _ i = _ ∧ (appEl (repS y q).pa (repS y q).m _ i 0).n = _
      rw [repS_m, app_at, app_at]
      by_cases hq : i < q.length
      · rw [if_pos hq, if_pos hq, List.getElem_append_left hq]
        exact h i hq
      · rw [if_neg hq, if_neg hq, show i - q.length = 0 by omega, List.getElem_append_right (by omega)]
        simp only [show i - q.length = 0 by omega, List.getElem_cons_zero]
        exact ⟨rfl, rfl⟩
  intro i h
  simpa using key s [] (fun i h => by cases h) i (by simpa using h)
theorem vt_at {n : Nat} {x : Nat → Nat → Dt} (hn : n ≤ 12) (h : bdE n x = 0) : (vtB n x).m = n ∧ ∀ i, i < n → (vtB n x).sp i = nmT (soF n x (kE n (soF n x) i)) ∧ ((vtB n x).pa i 0).n = pE n (soF n x) i := by
  rw [(okB_true hn h).2]
  refine ⟨by rw [repS_m, enT_len hn], fun i hi => ?_⟩
  have := rep_at (soF n x) (enT n (soF n x)) i (by rw [enT_len hn]; exact hi)
  rw [enT_get hn _ hi] at this
  exact this
end Go.Proofs.YtfepnmpoplcbmaaGreat.T
