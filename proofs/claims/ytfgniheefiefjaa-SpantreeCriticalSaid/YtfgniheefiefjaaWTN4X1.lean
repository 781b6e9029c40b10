/- SpantreeCritical returns true for every input, and its arguments read as they did. No condition. -/
import Derived.Test.YtfgniheefiefjaaWCore8
/- The critical path: the last child of each span. Conditions: none beyond the context's. -/
namespace Go.Proofs.Ytfgniheefiefjaa
open Go.Evl Go.RowKit
noncomputable def rfC : Operand × Array Tmp × Code × Code := ((rfs (codeOf Try.prog 18))[0]?).getD (.tmp 0, #[], .skip, .skip)
/-- Critical's slots as its range is entered -/
def tmC (ti : Int) (n : Nat) (y : Nat → Nat → Dt) (m : Nat) (p : Nat → Nat → Dt) : List AV := ((mkF 84 [1, 3] [.ptr 0 0, .ptr 2 0]).set 14 (.agg [.int .i64 ti, .isz n SS y, .isz m [.int .i64] p])).set 15 (.fn (.func 72) [.ptr 3 0])
structure S72 where
  ti : Int
  n : Nat
  y : Nat → Nat → Dt
  m : Nat
  p : Nat → Nat → Dt
  c : Nat
  mf : Ky → Option Dt
  ti2 : Int
  n2 : Nat
  y2 : Nat → Nat → Dt
  m2 : Nat
  p2 : Nat → Nat → Dt
  l : Int
  i : Int
abbrev keep72 : List Nat := [0, 1, 11, 12]
abbrev vs72 (s : RgS S72) : List AV := [.yld 5, .ptr 3 0, .int .i64 s.c.l, .int .i64 s.c.i]
abbrev hp72 (s : RgS S72) : List Ob := [.cells [.int .i64 s.c.ti, .isz s.c.n SS s.c.y, .isz s.c.m [.int .i64] s.c.p] 36, .mapF (.int .i64) s.c.c (.dat (.int .i64) s.c.mf), .cells [.map 1] 44, .cells [.int .i64 s.c.ti2, .isz s.c.n2 SS s.c.y2, .isz s.c.m2 [.int .i64] s.c.p2] 36, .dfr, .loop s.tm s.ps s.asg s.bd 4 .ready]
noncomputable def dec72 : List AV → List Ob → Option (RgS S72)
  | [.yld 5, .ptr 3 0, .int .i64 l, .int .i64 i], [.cells [.int .i64 ti, .isz n [.int .i64, .int .i64, .int .i64, .str, .str, .int .i64, .int .i64, .int .i64, .row [.str, .str], .row [.int .i64, .int .i64]] y, .isz m [.int .i64] p] 36, .mapF (.int .i64) c (.dat (.int .i64) mf), .cells [.map 1] 44, .cells [.int .i64 ti2, .isz n2 [.int .i64, .int .i64, .int .i64, .str, .str, .int .i64, .int .i64, .int .i64, .row [.str, .str], .row [.int .i64, .int .i64]] y2, .isz m2 [.int .i64] p2] 36, .dfr, .loop tm ps asg bd 4 .ready] => some ⟨⟨ti, n, y, m, p, c, mf, ti2, n2, y2, m2, p2, l, i⟩, tm, ps, asg, bd⟩
  | _, _ => none
noncomputable def emb72 (s : S72) : RgS S72 := ⟨s, (tmC s.ti s.n s.y s.m s.p), rfC.2.1, rfC.2.2.1, rfC.2.2.2⟩
noncomputable def rnd72 (s : S72) : Option (Ex × List AV × List Ob) :=
  bif decide (s.i < s.l) then bif decide (0 ≤ s.i) && decide (s.i < ↑s.m2) then bif decide ((s.p2 s.i.toNat 0).n ≥ ↑s.n2) then some (.normal, [.yld 5, .ptr 3 0, .int .i64 s.l, .int .i64 (IntKind.i64.wrap (s.i + 1))], [.cells [.int .i64 s.ti, .isz s.n SS s.y, .isz s.m [.int .i64] s.p] 36, .mapF (Dk.int .i64) s.c (MF.dat (.int .i64) s.mf), .cells [.map 1] 44, .cells [.int .i64 s.ti2, .isz s.n2 SS s.y2, .isz s.m2 [.int .i64] s.p2] 36, .dfr, .loop (tmC s.ti s.n s.y s.m s.p) rfC.2.1 rfC.2.2.1 rfC.2.2.2 4 LS.ready]) else bif Option.isSome (s.mf (Ky.int (s.p2 s.i.toNat 0).n)) then bif decide (0 ≤ Dt.n ((s.mf (Ky.int (s.p2 s.i.toNat 0).n)).getD (Dt.int 0))) && decide (Dt.n ((s.mf (Ky.int (s.p2 s.i.toNat 0).n)).getD (Dt.int 0)) < ↑s.n) then bif decide (0 ≤ s.i) && decide (s.i < ↑s.n) then bif decide (0 ≤ s.i) && decide (s.i < ↑s.n) then bif decide (0 ≤ Dt.n ((s.mf (Ky.int (s.p2 s.i.toNat 0).n)).getD (Dt.int 0))) && decide (Dt.n ((s.mf (Ky.int (s.p2 s.i.toNat 0).n)).getD (Dt.int 0)) < ↑s.n) then bif decide (orI (cmI (s.y ((s.mf (Ky.int (s.p2 s.i.toNat 0).n)).getD (Dt.int 0)).n.toNat 6).n (s.y s.i.toNat 6).n) (cmI (s.y s.i.toNat 1).n (s.y ((s.mf (Ky.int (s.p2 s.i.toNat 0).n)).getD (Dt.int 0)).n.toNat 1).n) < 0) then some (.normal, [.yld 5, .ptr 3 0, .int .i64 s.l, .int .i64 (IntKind.i64.wrap (s.i + 1))], [.cells [.int .i64 s.ti, .isz s.n SS s.y, .isz s.m [.int .i64] s.p] 36, .mapF (Dk.int .i64) (bif Option.isSome (s.mf (Ky.int (s.p2 s.i.toNat 0).n)) then s.c else s.c + 1) (MF.dat (.int .i64) (putK s.mf (Ky.int (s.p2 s.i.toNat 0).n) (some (Dt.int s.i)))), .cells [.map 1] 44, .cells [.int .i64 s.ti2, .isz s.n2 SS s.y2, .isz s.m2 [.int .i64] s.p2] 36, .dfr, .loop (tmC s.ti s.n s.y s.m s.p) rfC.2.1 rfC.2.2.1 rfC.2.2.2 4 LS.ready]) else some (.normal, [.yld 5, .ptr 3 0, .int .i64 s.l, .int .i64 (IntKind.i64.wrap (s.i + 1))], [.cells [.int .i64 s.ti, .isz s.n SS s.y, .isz s.m [.int .i64] s.p] 36, .mapF (Dk.int .i64) s.c (MF.dat (.int .i64) s.mf), .cells [.map 1] 44, .cells [.int .i64 s.ti2, .isz s.n2 SS s.y2, .isz s.m2 [.int .i64] s.p2] 36, .dfr, .loop (tmC s.ti s.n s.y s.m s.p) rfC.2.1 rfC.2.2.1 rfC.2.2.2 4 LS.ready]) else none else none else none else none else some (.normal, [.yld 5, .ptr 3 0, .int .i64 s.l, .int .i64 (IntKind.i64.wrap (s.i + 1))], [.cells [.int .i64 s.ti, .isz s.n SS s.y, .isz s.m [.int .i64] s.p] 36, .mapF (Dk.int .i64) (bif Option.isSome (s.mf (Ky.int (s.p2 s.i.toNat 0).n)) then s.c else s.c + 1) (MF.dat (.int .i64) (putK s.mf (Ky.int (s.p2 s.i.toNat 0).n) (some (Dt.int s.i)))), .cells [.map 1] 44, .cells [.int .i64 s.ti2, .isz s.n2 SS s.y2, .isz s.m2 [.int .i64] s.p2] 36, .dfr, .loop (tmC s.ti s.n s.y s.m s.p) rfC.2.1 rfC.2.2.1 rfC.2.2.2 4 LS.ready]) else none else some (.exit 0, [.yld 5, .ptr 3 0, .int .i64 s.l, .int .i64 s.i], [.cells [.int .i64 s.ti, .isz s.n SS s.y, .isz s.m [.int .i64] s.p] 36, .mapF (Dk.int .i64) s.c (MF.dat (.int .i64) s.mf), .cells [.map 1] 44, .cells [.int .i64 s.ti2, .isz s.n2 SS s.y2, .isz s.m2 [.int .i64] s.p2] 36, .dfr, .loop (tmC s.ti s.n s.y s.m s.p) rfC.2.1 rfC.2.2.1 rfC.2.2.2 4 LS.ready])
noncomputable def L72g : Lg S72 := ⟨0, dec72, vs72, hp72, emb72, rnd72⟩
theorem L72g_ok : L72g.Ok := by
  refine ⟨fun vs H s h => ?_, fun _ => rfl⟩
  have h : dec72 vs H = some s := h
  unfold dec72 at h
  split at h
  · obtain rfl := Option.some.inj h
    exact ⟨rfl, rfl⟩
  · cases h
noncomputable abbrev L72 : Ls S72 := L72g.ls
noncomputable def gd72 (s : RgS S72) : Bool := L72g.gd s
theorem gd72_emb (c : S72) : gd72 (emb72 c) = true := L72g.gd_emb L72g_ok c
theorem dec72_emb {c : S72} (h : dec72 (vs72 (emb72 c)) (hp72 (emb72 c)) = some (emb72 c)) : L72.dec (L72.vs c) (L72.hp c) = some c := L72g.ls_dec L72g_ok h
noncomputable def ok72 (s : S72) : Bool := L72.ok 0 s
noncomputable def out72 (s : S72) : S72 := (L72.end_ s).2
noncomputable def ret72 (s : S72) : Bool := (L72.end_ s).1
noncomputable def fin72 (s : RgS S72) : Tr (Ex × List AV × List Ob) := .leaf (.exit 0, vs72 (emb72 (out72 s.c)), hp72 (emb72 (out72 s.c)))
noncomputable abbrev f72s : List AV → List Ob → Tr (Ex × List AV × List Ob) := stF dec72 (fun s => gd72 s && ok72 s.c) fin72
theorem de72 (c : S72) : L72.dec (L72.vs c) (L72.hp c) = some c := dec72_emb (by kernel_rfl)
theorem on72 {s s1 s2 : S72} {b : Bool} (h : rnd72 s = some (.normal, vs72 (emb72 s1), hp72 (emb72 s1))) (h2 : L72.To s1 b s2) : L72.To s b s2 := L72.to_on h (de72 s1) h2
theorem ot72 {s s1 : S72} (h : rnd72 s = some (.exit 0, vs72 (emb72 s1), hp72 (emb72 s1))) : L72.To s false s1 := L72.to_out h (de72 s1)
theorem ok72_of {s s1 : S72} {b : Bool} (h : L72.To s b s1) (hb : mdB 0 b = true) : ok72 s = true := h.ok L72 (m := 0) hb
theorem out72_of {s s1 : S72} {b : Bool} (h : L72.To s b s1) : out72 s = s1 := congrArg Prod.snd (h.end_ L72)
theorem ret72_of {s s1 : S72} {b : Bool} (h : L72.To s b s1) : ret72 s = b := congrArg Prod.fst (h.end_ L72)
theorem loop72 (s : S72) : evC (β := Ex × List AV × List Ob) Try.prog (spOf [t50, t51]) (inlOf [56, 72]) extD (cKD [t50, t51] [56, 72]) ((fun _ => .sum keep72 f72s)) (bodyOf Try.prog 72 0) ⟨mkF Try.f72.ntmps keep72 (vs72 (emb72 s)), hp72 (emb72 s)⟩ (fun e st => (cutBack keep72 6 st).map fun q => (e, q.1, q.2)) = rnd72 s := by kernel_rfl
theorem sum72 : LoopOkT Try.prog (spOf [t50, t51]) (inlOf [56, 72]) extD (cKD [t50, t51] [56, 72]) (fun _ => .sum keep72 f72s) Try.f72.ntmps (bodyOf Try.prog 72 0) (.sum keep72 f72s) := by
  dsimp only [LoopOkT]
  exact ⟨by decide, by decide, sum_lg L72g 0 L72g_ok loop72⟩
end Go.Proofs.Ytfgniheefiefjaa

/- The critical path: its spans. Conditions: none beyond the context's. -/
namespace Go.Proofs.Ytfgniheefiefjaa
open Go.Evl Go.RowKit
noncomputable abbrev lp72 (_ : Nat) : LT := .sum keep72 f72s
structure S18 where
  ti : Int
  n : Nat
  y : Nat → Nat → Dt
  m : Nat
  p : Nat → Nat → Dt
  c : Nat
  mf : Ky → Option Dt
  ti2 : Int
  n2 : Nat
  y2 : Nat → Nat → Dt
  m2 : Nat
  p2 : Nat → Nat → Dt
  tm : List AV
  ps : Array Tmp
  asg : Code
  bd : Code
  v : Nat
  h : Nat
  q : Nat → Nat → Dt
  a : Int
  l : Int
  i : Int
abbrev keep18 : List Nat := [1, 3, 9, 10, 66, 67]
abbrev vs18 (s : S18) : List AV := [.ptr 0 0, .ptr 2 0, .own 6 k0 s.v, .int .i64 s.a, .int .i64 s.l, .int .i64 s.i]
abbrev hp18 (s : S18) : List Ob := [.cells [.int .i64 s.ti, .isz s.n SS s.y, .isz s.m [.int .i64] s.p] 36, .mapF (.int .i64) s.c (.dat (.int .i64) s.mf), .cells [.map 1] 44, .cells [.int .i64 s.ti2, .isz s.n2 SS s.y2, .isz s.m2 [.int .i64] s.p2] 36, .dfr, .loop s.tm s.ps s.asg s.bd 4 (.over none), .own 3 [.int .i64] s.h s.q]
noncomputable def dec18 : List AV → List Ob → Option S18
  | [.ptr 0 0, .ptr 2 0, .own 6 (.int 0) v, .int .i64 a, .int .i64 l, .int .i64 i], [.cells [.int .i64 ti, .isz n [.int .i64, .int .i64, .int .i64, .str, .str, .int .i64, .int .i64, .int .i64, .row [.str, .str], .row [.int .i64, .int .i64]] y, .isz m [.int .i64] p] 36, .mapF (.int .i64) c (.dat (.int .i64) mf), .cells [.map 1] 44, .cells [.int .i64 ti2, .isz n2 [.int .i64, .int .i64, .int .i64, .str, .str, .int .i64, .int .i64, .int .i64, .row [.str, .str], .row [.int .i64, .int .i64]] y2, .isz m2 [.int .i64] p2] 36, .dfr, .loop tm ps asg bd 4 (.over none), .own 3 [.int .i64] h q] => some ⟨ti, n, y, m, p, c, mf, ti2, n2, y2, m2, p2, tm, ps, asg, bd, v, h, q, a, l, i⟩
  | _, _ => none
noncomputable def rnd18 (s : S18) : Option (Ex × List AV × List Ob) :=
  bif decide (s.i < s.l) then bif Option.isSome (s.mf (Ky.int s.a)) then bif s.h.beq s.v && (s.h.ble 1000000 && true) then some (.normal, [.ptr 0 0, .ptr 2 0, .own 6 k0 (s.h + 1), .int .i64 (Dt.n ((s.mf (Ky.int s.a)).getD (Dt.int 0))), .int .i64 s.l, .int .i64 (IntKind.i64.wrap (s.i + 1))], [.cells [.int .i64 s.ti, .isz s.n SS s.y, .isz s.m [.int .i64] s.p] 36, .mapF (Dk.int .i64) s.c (MF.dat (.int .i64) s.mf), .cells [.map 1] 44, .cells [.int .i64 s.ti2, .isz s.n2 SS s.y2, .isz s.m2 [.int .i64] s.p2] 36, .dfr, .loop s.tm s.ps s.asg s.bd 4 (LS.over none), .own 3 [.int .i64] (s.h + 1) (appEl s.q s.h (dtFs [[Dt.int ((s.mf (Ky.int s.a)).getD (Dt.int 0)).n]]))]) else none else some (.exit 2, [.ptr 0 0, .ptr 2 0, .own 6 k0 s.v, .int .i64 s.a, .int .i64 s.l, .int .i64 s.i], [.cells [.int .i64 s.ti, .isz s.n SS s.y, .isz s.m [.int .i64] s.p] 36, .mapF (Dk.int .i64) s.c (MF.dat (.int .i64) s.mf), .cells [.map 1] 44, .cells [.int .i64 s.ti2, .isz s.n2 SS s.y2, .isz s.m2 [.int .i64] s.p2] 36, .dfr, .loop s.tm s.ps s.asg s.bd 4 (LS.over none), .own 3 [.int .i64] s.h s.q]) else some (.exit 2, [.ptr 0 0, .ptr 2 0, .own 6 k0 s.v, .int .i64 s.a, .int .i64 s.l, .int .i64 s.i], [.cells [.int .i64 s.ti, .isz s.n SS s.y, .isz s.m [.int .i64] s.p] 36, .mapF (Dk.int .i64) s.c (MF.dat (.int .i64) s.mf), .cells [.map 1] 44, .cells [.int .i64 s.ti2, .isz s.n2 SS s.y2, .isz s.m2 [.int .i64] s.p2] 36, .dfr, .loop s.tm s.ps s.asg s.bd 4 (LS.over none), .own 3 [.int .i64] s.h s.q])
noncomputable def L18 : Ls S18 := ⟨2, dec18, vs18, hp18, rnd18⟩
theorem L18_ok : L18.Ok := fun vs H s h => by
  have h : dec18 vs H = some s := h
  unfold dec18 at h
  split at h
  · obtain rfl := Option.some.inj h
    exact ⟨rfl, rfl⟩
  · cases h
noncomputable def ok18 (s : S18) : Bool := L18.ok 0 s
noncomputable def out18 (s : S18) : S18 := (L18.end_ s).2
noncomputable def ret18 (s : S18) : Bool := (L18.end_ s).1
noncomputable def fin18 (s : S18) : Tr (Ex × List AV × List Ob) := .leaf (.exit 2, vs18 (out18 s), hp18 (out18 s))
noncomputable abbrev f18s : List AV → List Ob → Tr (Ex × List AV × List Ob) := stF dec18 ok18 fin18
theorem de18 (c : S18) : L18.dec (L18.vs c) (L18.hp c) = some c := by kernel_rfl
theorem on18 {s s1 s2 : S18} {b : Bool} (h : rnd18 s = some (.normal, vs18 s1, hp18 s1)) (h2 : L18.To s1 b s2) : L18.To s b s2 := L18.to_on h (de18 s1) h2
theorem ot18 {s s1 : S18} (h : rnd18 s = some (.exit 2, vs18 s1, hp18 s1)) : L18.To s false s1 := L18.to_out h (de18 s1)
theorem ok18_of {s s1 : S18} {b : Bool} (h : L18.To s b s1) (hb : mdB 0 b = true) : ok18 s = true := h.ok L18 (m := 0) hb
theorem out18_of {s s1 : S18} {b : Bool} (h : L18.To s b s1) : out18 s = s1 := congrArg Prod.snd (h.end_ L18)
theorem ret18_of {s s1 : S18} {b : Bool} (h : L18.To s b s1) : ret18 s = b := congrArg Prod.fst (h.end_ L18)
noncomputable abbrev lp18 (i : Nat) : LT := bif Nat.beq i 2000001 then .ghost [.mapD 13 (.int .i64) (.int .i64)] else bif Nat.beq i 1000002 then .forget [1, 3] else bif Nat.beq i 2000009 then .ghost [.nil 9 3 [.int .i64]] else .sum keep18 f18s
theorem loop18 (s : S18) : evC (β := Ex × List AV × List Ob) Try.prog (spOf [t50, t51]) (inlOf [56, 72]) extD (cKL [t50, t51] [56, 72] [(72, lp72)]) (lp18) (bodyOf Try.prog 18 2) ⟨mkF Try.f18.ntmps keep18 (vs18 s), hp18 s⟩ (fun e st => (cutBack keep18 7 st).map fun q => (e, q.1, q.2)) = rnd18 s := by kernel_rfl
theorem sum18 : LoopOkT Try.prog (spOf [t50, t51]) (inlOf [56, 72]) extD (cKL [t50, t51] [56, 72] [(72, lp72)]) lp18 Try.f18.ntmps (bodyOf Try.prog 18 2) (.sum keep18 f18s) := by
  dsimp only [LoopOkT]
  exact ⟨by decide, by decide, sum_ls L18 0 L18_ok loop18⟩
end Go.Proofs.Ytfgniheefiefjaa

/- The critical path: the contract. Conditions: none beyond the context's. -/
namespace Go.Proofs.Ytfgniheefiefjaa
open Go.Evl Go.RowKit
/-- the last to end of the children so far -/
def BstP (w q : Nat → Nat → Dt) (i : Nat) (mf : Ky → Option Dt) : Prop := ∀ v : Int, (mf (.int v) = none ∧ ∀ j, j < i → (q j 0).n ≠ v) ∨ ∃ b : Nat, b < i ∧ mf (.int v) = some (.int (b : Int)) ∧ (q b 0).n = v ∧ ∀ j, j < i → (q j 0).n = v → (w j 6).n ≤ (w b 6).n
def s72i (ti : Int) (n : Nat) (y : Nat → Nat → Dt) (m : Nat) (p : Nat → Nat → Dt) : S72 := ⟨ti, n, y, m, p, 0, fun _ => none, ti, n, y, m, p, bif decide ((m : Int) < (n : Int)) then (m : Int) else (n : Int), 0⟩
theorem cmI_lt {a b : Int} : cmI a b < 0 ↔ a < b := by
  unfold cmI
  repeat' split
  all_goals omega
theorem orI_cm {a b c d : Int} (h : ¬ orI (cmI a b) (cmI c d) < 0) : b ≤ a := by
  unfold orI at h
  have := @cmI_lt a b
  by_cases h0 : cmI a b = 0
  · unfold cmI at h0
    revert h0
    repeat' split
    all_goals omega
  · rw [if_neg h0] at h
    omega
theorem orI_cm' {a b c d : Int} (h : orI (cmI a b) (cmI c d) < 0) : a ≤ b := by
  unfold orI at h
  have h1 := @cmI_lt a b
  by_cases h0 : cmI a b = 0
  · unfold cmI at h0
    revert h0
    repeat' split
    all_goals omega
  · rw [if_neg h0] at h
    omega
theorem to72 {ti : Int} {n : Nat} {w q : Nat → Nat → Dt} (hn : n ≤ 1000) (hq : ∀ i, i < n → (q i 0).n < (n : Int)) : ∀ f i c mf, i + f = n → BstP w q i mf → ∃ c' mf', BstP w q n mf' ∧
    L72.To ⟨ti, n, w, n, q, c, mf, ti, n, w, n, q, (n : Int), (i : Int)⟩ false ⟨ti, n, w, n, q, c', mf', ti, n, w, n, q, (n : Int), (n : Int)⟩
  | 0, i, c, mf, hi, hb => by
    obtain rfl : i = n := by omega
    refine ⟨c, mf, hb, ot72 ?_⟩
    simp only [rnd72]
    rw [condF (decide_eq_false (by omega))]
    kernel_rfl
  | f + 1, i, c, mf, hi, hb => by
    have hin : i < n := by omega
    have c1 : decide ((i : Int) < (n : Int)) = true := decide_eq_true (by omega)
    have c2 : (decide (0 ≤ (i : Int)) && decide ((i : Int) < (n : Int))) = true := by rw [c1, decide_eq_true (by omega)]; rfl
    have w1 : IntKind.i64.wrap ((i : Int) + 1) = ((i + 1 : Nat) : Int) := by rw [wrapI (by omega) (by omega)]; omega
    have hqi := hq i hin
    -- the map is written
    have put : (∀ j, j < i → (q j 0).n = (q i 0).n → (w j 6).n ≤ (w i 6).n) → BstP w q (i + 1) (putK mf (.int (q i 0).n) (some (.int (i : Int)))) := fun hle v => by
      by_cases e : v = (q i 0).n
      · subst e
        right
        refine ⟨i, by omega, putK_at _ _ _, rfl, fun j hj hjv => ?_⟩
        by_cases e2 : j = i
        · subst e2; exact Int.le_refl _
        · exact hle j (by omega) hjv
      · rw [putK_ne _ _ (show Ky.int v ≠ Ky.int (q i 0).n from fun z => e (Ky.int.inj z))]
        rcases hb v with ⟨h1, h2⟩ | ⟨b, h1, h2, h3, h4⟩
        · refine .inl ⟨h1, fun j hj hjv => ?_⟩
          by_cases e2 : j = i
          · subst e2; exact e hjv.symm
          · exact h2 j (by omega) hjv
        · refine .inr ⟨b, by omega, h2, h3, fun j hj hjv => ?_⟩
          by_cases e2 : j = i
          · subst e2; exact absurd hjv.symm e
          · exact h4 j (by omega) hjv
    rcases hb (q i 0).n with ⟨h1, h2⟩ | ⟨b, h1, h2, h3, h4⟩
    · obtain ⟨c', mf', hb', hto⟩ := to72 (ti := ti) hn hq f (i + 1) (c + 1) _ (by omega) (put fun j hj hjv => absurd hjv (h2 j hj))
      refine ⟨c', mf', hb', on72 ?_ hto⟩
      simp only [rnd72, Int.toNat_natCast]
      rw [condT c1, condT c2, condF (decide_eq_false (by omega)), condF (by rw [h1]; rfl), w1, condF (by rw [h1]; rfl)]
      kernel_rfl
    · have hb0 : (decide (0 ≤ Dt.n ((mf (Ky.int (q i 0).n)).getD (Dt.int 0))) && decide (Dt.n ((mf (Ky.int (q i 0).n)).getD (Dt.int 0)) < (n : Int))) = true := by
        rw [h2]
        show (decide (0 ≤ (b : Int)) && decide ((b : Int) < (n : Int))) = true
        rw [decide_eq_true (by omega), decide_eq_true (by omega)]; rfl
      have hbn : ((mf (Ky.int (q i 0).n)).getD (Dt.int 0)).n.toNat = b := by rw [h2]; rfl
      by_cases hlt : orI (cmI (w b 6).n (w i 6).n) (cmI (w i 1).n (w b 1).n) < 0
      · obtain ⟨c', mf', hb', hto⟩ := to72 (ti := ti) hn hq f (i + 1) c _ (by omega) (put fun j hj hjv => Int.le_trans (h4 j hj hjv) (orI_cm' hlt))
        refine ⟨c', mf', hb', on72 ?_ hto⟩
        simp only [rnd72, Int.toNat_natCast]
        rw [condT c1, condT c2, condF (decide_eq_false (by omega)), condT (by rw [h2]; rfl), condT hb0, condT c2, condT c2, condT hb0, condT (decide_eq_true (by rw [hbn]; exact hlt)), w1, condT (by rw [h2]; rfl)]
        kernel_rfl
      · obtain ⟨c', mf', hb', hto⟩ := to72 (ti := ti) hn hq f (i + 1) c mf (by omega) fun v => by
          rcases hb v with ⟨g1, g2⟩ | ⟨b', g1, g2, g3, g4⟩
          · refine .inl ⟨g1, fun j hj hjv => ?_⟩
            by_cases e2 : j = i
            · subst e2
              rw [hjv, g1] at h2
              cases h2
            · exact g2 j (by omega) hjv
          · refine .inr ⟨b', by omega, g2, g3, fun j hj hjv => ?_⟩
            by_cases e2 : j = i
            · subst e2
              rw [hjv, g2] at h2
              obtain rfl : b' = b := by
                have := congrArg Dt.n (Option.some.inj h2)
                exact Int.ofNat.inj this
              exact orI_cm hlt
            · exact g4 j (by omega) hjv
        refine ⟨c', mf', hb', on72 ?_ hto⟩
        simp only [rnd72, Int.toNat_natCast]
        rw [condT c1, condT c2, condF (decide_eq_false (by omega)), condT (by rw [h2]; rfl), condT hb0, condT c2, condT c2, condT hb0, condF (decide_eq_false (by rw [hbn]; exact hlt)), w1]
        kernel_rfl
/-- a path so far: from a root down, always to the child that ends last -/
def PthP (w q : Nat → Nat → Dt) (n : Nat) (mf : Ky → Option Dt) (h : Nat) (r : Nat → Nat → Dt) (a : Int) : Prop :=
  (∀ t, t < h → ∃ b : Nat, t ≤ b ∧ b < n ∧ (r t 0).n = (b : Int) ∧ mf (.int (if t = 0 then -1 else (r (t - 1) 0).n)) = some (.int (b : Int))) ∧ a = if h = 0 then -1 else (r (h - 1) 0).n
noncomputable def s18i (o : S72) : S18 := ⟨o.ti, o.n, o.y, o.m, o.p, o.c, o.mf, o.ti2, o.n2, o.y2, o.m2, o.p2, tmC o.ti o.n o.y o.m o.p, rfC.2.1, rfC.2.2.1, rfC.2.2.2, 0, 0, zeroEl, -1, (o.n : Int), 0⟩
theorem to18 {w q : Nat → Nat → Dt} {n : Nat} {mf : Ky → Option Dt} (hn : n ≤ 1000) (hb : BstP w q n mf) (hq : ∀ i, i < n → (q i 0).n < (i : Int))
    {ti : Int} {m c : Nat} {ti2 : Int} {n2 : Nat} {y2 : Nat → Nat → Dt} {m2 : Nat} {p p2 y : Nat → Nat → Dt} {tm : List AV} {ps : Array Tmp} {asg bd : Code} : ∀ f i r a, i + f = n → PthP w q n mf i r a → ∃ h' r' a' s, h' ≤ n ∧ i ≤ h' ∧ PthP w q n mf h' r' a' ∧ mf (.int a') = none ∧ s.h = h' ∧ s.v = h' ∧ s.q = r' ∧
      L18.To ⟨ti, n, y, m, p, c, mf, ti2, n2, y2, m2, p2, tm, ps, asg, bd, i, i, r, a, (n : Int), (i : Int)⟩ false s
  | 0, i, r, a, hi, hp => by
    obtain rfl : i = n := by omega
    refine ⟨i, r, a, _, Nat.le_refl _, Nat.le_refl _, hp, ?_, rfl, rfl, rfl, ot18 (s1 := ⟨ti, i, y, m, p, c, mf, ti2, n2, y2, m2, p2, tm, ps, asg, bd, i, i, r, a, (i : Int), (i : Int)⟩) ?_⟩
    · rcases hb a with ⟨h1, _⟩ | ⟨b, h1, h2, h3, _⟩
      · exact h1
      · exfalso
        have h4 := hq b h1
        rw [h3, hp.2] at h4
        by_cases e : i = 0
        · omega
        · rw [if_neg e] at h4
          obtain ⟨b', g1, g2, g3, _⟩ := hp.1 (i - 1) (by omega)
          omega
    · simp only [rnd18]
      rw [condF (decide_eq_false (by omega))]
  | f + 1, i, r, a, hi, hp => by
    have c1 : decide ((i : Int) < (n : Int)) = true := decide_eq_true (by omega)
    have w1 : IntKind.i64.wrap ((i : Int) + 1) = ((i + 1 : Nat) : Int) := by rw [wrapI (by omega) (by omega)]; omega
    rcases hb a with ⟨h1, _⟩ | ⟨b, h1, h2, h3, _⟩
    · refine ⟨i, r, a, _, by omega, Nat.le_refl _, hp, h1, rfl, rfl, rfl, ot18 (s1 := ⟨ti, n, y, m, p, c, mf, ti2, n2, y2, m2, p2, tm, ps, asg, bd, i, i, r, a, (n : Int), (i : Int)⟩) ?_⟩
      simp only [rnd18]
      rw [condT c1, condF (by rw [h1]; rfl)]
    · have hp' : PthP w q n mf (i + 1) (appEl r i (dtFs [[Dt.int (b : Int)]])) (b : Int) := by
        have hat : ∀ t, t < i → appEl r i (dtFs [[Dt.int (b : Int)]]) t = r t := fun t ht => by rw [app_at, if_pos ht]
        have hi0 : (appEl r i (dtFs [[Dt.int (b : Int)]]) i 0).n = (b : Int) := by
          rw [app_at, if_neg (by omega), Nat.sub_self]
          rfl
        refine ⟨fun t ht => ?_, ?_⟩
        · by_cases e : t = i
          · subst e
            refine ⟨b, ?_, h1, hi0, ?_⟩
            · have h4 := hq b h1
              rw [h3, hp.2] at h4
              by_cases e : t = 0
              · omega
              · rw [if_neg e] at h4
                obtain ⟨b', g1, g2, g3, _⟩ := hp.1 (t - 1) (by omega)
                omega
            · rw [← h2, hp.2]
              by_cases e : t = 0
              · rw [if_pos e, if_pos e]
              · rw [if_neg e, if_neg e, hat _ (by omega)]
          · obtain ⟨b', g1, g2, g3, g4⟩ := hp.1 t (by omega)
            refine ⟨b', g1, g2, by rw [hat t (by omega)]; exact g3, ?_⟩
            rw [← g4]
            by_cases e : t = 0
            · rw [if_pos e, if_pos e]
            · rw [if_neg e, if_neg e, hat _ (by omega)]
        · rw [if_neg (by omega), Nat.add_sub_cancel, hi0]
      obtain ⟨h', r', a', s, e1, e2, e3, e4, e5, e6, e7, hto⟩ := to18 (ti := ti) (m := m) (c := c) (ti2 := ti2) (n2 := n2) (y2 := y2) (m2 := m2) (p := p) (p2 := p2) (y := y) (tm := tm) (ps := ps) (asg := asg) (bd := bd) hn hb hq f (i + 1) _ _ (by omega) hp'
      refine ⟨h', r', a', s, e1, by omega, e3, e4, e5, e6, e7, on18 ?_ hto⟩
      simp only [rnd18]
      rw [condT c1, condT (by rw [h2]; rfl), condT (by rw [Nat.beq_refl, Nat.ble_eq_true_of_le (by omega)]; rfl), w1, h2]
      rfl
noncomputable def crO (ti : Int) (n : Nat) (y : Nat → Nat → Dt) (m : Nat) (p : Nat → Nat → Dt) : S18 := out18 (s18i (out72 (s72i ti n y m p)))
noncomputable def okC (ti : Int) (n : Nat) (y : Nat → Nat → Dt) (m : Nat) (p : Nat → Nat → Dt) : Bool := ok72 (s72i ti n y m p) && (ok18 (s18i (out72 (s72i ti n y m p))) && Nat.beq (crO ti n y m p).h (crO ti n y m p).v)
noncomputable def crN (ti : Int) (n : Nat) (y : Nat → Nat → Dt) (m : Nat) (p : Nat → Nat → Dt) : Nat := (crO ti n y m p).h
noncomputable def crQ (ti : Int) (n : Nat) (y : Nat → Nat → Dt) (m : Nat) (p : Nat → Nat → Dt) : Nat → Nat → Dt := (crO ti n y m p).q
noncomputable def t18 : Ent := ⟨18, fun
  | [.agg [.int .i64 ti, .isz n [.int .i64, .int .i64, .int .i64, .str, .str, .int .i64, .int .i64, .int .i64, .row [.str, .str], .row [.int .i64, .int .i64]] y, .isz m [.int .i64] p]] => .chk (okC ti n y m p) (.leaf (.ret (.isz (crN ti n y m p) [.int .i64] (crQ ti n y m p))))
  | _ => .non⟩
theorem vt18 (ti : Int) (n : Nat) (y : Nat → Nat → Dt) (m : Nat) (p : Nat → Nat → Dt) : (evFnT Try.prog (spOf [t50, t51]) (inlOf [56, 72]) extD (cKL [t50, t51] [56, 72] [(72, lp72)]) lp18 Try.f18 [.agg [.int .i64 ti, .isz n SS y, .isz m [.int .i64] p]] [] (castT (.row [.int .i64]))).run =
    (bif gd72 (emb72 (s72i ti n y m p)) && ok72 (s72i ti n y m p) then bif ok18 (s18i (out72 (s72i ti n y m p))) then bif (crO ti n y m p).h.beq (crO ti n y m p).v then some (.ret (.isz (crO ti n y m p).h [.int .i64] (crO ti n y m p).q)) else none else none else none : Option Res) := by kernel_rfl
theorem lx18 : (mkCx Try.prog (spOf [t50, t51]) (inlOf [56, 72]) extD).Ok InvD := cx_of [56, 72] (by kernel_rfl) (by
  intro p hp
  simp only [List.mem_cons, List.not_mem_nil, or_false] at hp
  rcases hp with rfl | rfl
  · exact t50_ok
  · exact t51_ok)
set_option maxRecDepth 10000 in
theorem lps18 : LpsOk (mkCx Try.prog (spOf [t50, t51]) (inlOf [56, 72]) extD) (callN (mkCx Try.prog (spOf [t50, t51]) (inlOf [56, 72]) extD) attD uD 20) [(72, lp72)] := by
  refine lps_one (cK := cKD [t50, t51] [56, 72]) (fun {β} => callK_eq (β := β) Try.prog (spOf [t50, t51]) (inlOf [56, 72]) extD attD uD 20) Try.func72 (c := codeOf Try.prog 72) (by kernel_rfl) fun p hp => ?_
  have hl : loops (codeOf Try.prog 72) = [(0, bodyOf Try.prog 72 0)] := by kernel_rfl
  rw [hl, List.mem_singleton] at hp
  subst hp
  exact sum72
set_option maxRecDepth 10000 in
theorem t18_ok : SpecHolds Try.prog InvD 18 fun a => (t18.2 a).run := by
  refine specDLC lx18 lps18 Try.func18 (c := codeOf Try.prog 18) (by kernel_rfl) lp18 (fun p hp => by
    have hl : loops (codeOf Try.prog 18) = [(2, bodyOf Try.prog 18 2)] := by kernel_rfl
    rw [hl, List.mem_singleton] at hp
    subst hp
    exact sum18) (.row [.int .i64]) fun args r hh => ?_
  simp only [t18] at hh
  split at hh
  · rename_i ti n y m p
    obtain ⟨hg, hh⟩ := chk_run hh
    refine ⟨by kernel_rfl, (vt18 ti n y m p).trans (Eq.trans ?_ hh)⟩
    unfold okC at hg
    simp only [Bool.and_eq_true] at hg
    rw [condT (by rw [gd72_emb, hg.1]; rfl), condT hg.2.1, condT hg.2.2]
    rfl
  · simp [Tr.run] at hh
/-- the path of a tree -/
theorem crit_ok {n : Nat} {y w q : Nat → Nat → Dt} (hT : TrW n y w q) (ti : Int) : okC ti n w n q = true ∧ ∃ mf a, BstP w q n mf ∧ crN ti n w n q ≤ n ∧ PthP w q n mf (crN ti n w n q) (crQ ti n w n q) a ∧ mf (.int a) = none := by
  have hn := hT.n12
  have hq : ∀ i, i < n → (q i 0).n < (i : Int) := fun i hi => by
    rw [hT.pa i hi]
    rcases pE_par hn (y := y) hi with ⟨e, _⟩ | ⟨j, hj, e, _⟩ <;> omega
  obtain ⟨c', mf, hb, h1⟩ := to72 (ti := ti) (w := w) (q := q) (n := n) (by omega) (fun i hi => by have := hq i hi; omega) n 0 0 (fun _ => none) (by omega) fun v => .inl ⟨rfl, fun j hj => by omega⟩
  have e1 : s72i ti n w n q = ⟨ti, n, w, n, q, 0, fun _ => none, ti, n, w, n, q, (n : Int), ((0 : Nat) : Int)⟩ := by
    unfold s72i
    rw [condF (decide_eq_false (by omega))]
    rfl
  rw [← e1] at h1
  have e2 := out72_of h1
  obtain ⟨h', r', a', s, g1, g2, g3, g4, g5, g6, g7, hto⟩ := to18 (w := w) (q := q) (n := n) (mf := mf) (by omega) hb hq (ti := ti) (m := n) (c := c') (ti2 := ti) (n2 := n) (y2 := w) (m2 := n) (p := q) (p2 := q) (y := w) (tm := tmC ti n w n q) (ps := rfC.2.1) (asg := rfC.2.2.1) (bd := rfC.2.2.2) n 0 zeroEl (-1) (by omega) ⟨fun t ht => by omega, rfl⟩
  have e3 : s18i (out72 (s72i ti n w n q)) = ⟨ti, n, w, n, q, c', mf, ti, n, w, n, q, tmC ti n w n q, rfC.2.1, rfC.2.2.1, rfC.2.2.2, 0, 0, zeroEl, -1, (n : Int), ((0 : Nat) : Int)⟩ := by
    rw [e2]; rfl
  rw [← e3] at hto
  have e4 : crO ti n w n q = s := out18_of hto
  refine ⟨?_, mf, a', hb, ?_, ?_, g4⟩
  · unfold okC
    rw [e4, ok72_of h1 rfl, ok18_of hto rfl, g5, g6, Nat.beq_refl]
    rfl
  · unfold crN; rw [e4, g5]; exact g1
  · unfold crN crQ; rw [e4, g5, g7]; exact g3
end Go.Proofs.Ytfgniheefiefjaa

/- slices.Clone of numbers: a new row of its own. Conditions: none beyond the context's. -/
namespace Go.Proofs.Ytfgniheefiefjaa
open Go.Evl Go.RowKit
theorem vt19a (cap : Nat) : evFn (β := Res × List Ob) Try.prog (spOf []) (inlOf []) extD (cKD [] []) (fun _ => .unroll 0) Try.f19 [.raw (.slice none 0 cap)] [] (fun r H => some (r, H)) = some (.ret .nsl, []) := by kernel_rfl
theorem vt19b (a : Addr) (cap : Nat) : evFn (β := Res × List Ob) Try.prog (spOf []) (inlOf []) extD (cKD [] []) (fun _ => .unroll 0) Try.f19 [.raw (.slice (some a) 0 cap)] [] (fun r H => some (r, H)) = some (.ret (.own 0 k0 0), [.own 3 [.int .i64] 0 (appEl zeroEl 0 fun _ _ => .int 0)]) := by kernel_rfl
theorem vt19c (n : Nat) (x : Nat → Nat → Dt) : evFn (β := Res × List Ob) Try.prog (spOf []) (inlOf []) extD (cKD [] []) (fun _ => .unroll 0) Try.f19 [.isz n [.int .i64] x] [] (fun r H => some (r, H)) =
    (bif Nat.blt 0 n then bif Nat.ble n 1000000 then some (.ret (.own 0 k0 (0 + n)), [.own 3 [.int .i64] (0 + n) x]) else none else none) := by kernel_rfl
theorem fr19 (n : Nat) (x : Nat → Nat → Dt) (hn : n ≤ 1000000) : FrsAt Try.prog InvD 19 [.isz n [.int .i64] x] (.own 0 k0 n) [.own 3 [.int .i64] n x] := by
  refine frs_clone (fun cap => frsD cx0 Try.func19 (c := codeOf Try.prog 19) (by kernel_rfl) (fun _ => .unroll 0) (fun _ _ => trivial) (by kernel_rfl) (vt19a cap)) (fun a cap => ?_) (fun n x h0 h1 => ?_) n x hn
  · have := frsD cx0 Try.func19 (c := codeOf Try.prog 19) (by kernel_rfl) (fun _ => .unroll 0) (fun _ _ => trivial) (by kernel_rfl) (vt19b a cap)
    intro ρ A w vs hA hi hv
    refine (this ρ A w vs hA hi hv).mono ?_
    rintro e w' ⟨ρ', A', u, h1, h2, h3, rfl, h4⟩
    refine ⟨ρ', A', u, own_zero h1, h2, h3, rfl, h4.mono (fun i ⟨o, ho, _⟩ => ?_) (Nle.refl _ _) (fun _ h => h) (fun _ _ => rfl)⟩
    cases i with
    | zero => exact ⟨.own 3 [.int .i64] 0 zeroEl, rfl, rfl⟩
    | succ i => simp at ho
  · refine frsD cx0 Try.func19 (c := codeOf Try.prog 19) (by kernel_rfl) (fun _ => .unroll 0) (fun _ _ => trivial) (by kernel_rfl) ((vt19c n x).trans ?_)
    rw [show Nat.blt 0 n = true by rw [Nat.blt_eq]; exact h0, Nat.ble_eq_true_of_le h1, Nat.zero_add]
    rfl
/-- a copy that may be written to -/
def h19 : HEnt := ⟨19, fun
  | [.isz n [.int .i64] x] => .chk (Nat.ble n 1000000) (.leaf (.own 0 k0 n, [.own 3 [.int .i64] n x]))
  | _ => .non⟩
theorem h19_ok : FrsHolds Try.prog InvD 19 fun a => (h19.2 a).run := by
  intro args v obs h
  unfold h19 at h
  simp only at h
  split at h
  · rename_i n x
    simp only [Tr.run] at h
    cases hn : Nat.ble n 1000000 with
    | false => rw [hn] at h; cases h
    | true =>
      rw [hn] at h
      obtain ⟨rfl, rfl⟩ := h
      exact fr19 n x (by simpa using hn)
  · cases h
end Go.Proofs.Ytfgniheefiefjaa

/- SpantreeCritical: the loops. Conditions: none beyond the context's. -/
namespace Go.Proofs.Ytfgniheefiefjaa
open Go.Evl Go.RowKit
structure S4i where
  z : Bool
  n5 : Nat
  q5 : Nat → Nat → Dt
  a : Int
  i : Int
  n7 : Nat
  q7 : Nat → Nat → Dt
  l : Int
  j : Int
  n6 : Nat
  q6 : Nat → Nat → Dt
  l6 : Int
  k : Int
  ti : Int
  n : Nat
  y : Nat → Nat → Dt
  m : Nat
  p : Nat → Nat → Dt
  n9 : Nat
  q9 : Nat → Nat → Dt
abbrev keep4i : List Nat := [2, 3, 5, 6, 8, 27, 28, 29, 34, 35, 36]
abbrev vs4i (s : S4i) : List AV := [.bool s.z, .ptr 0 0, .isz s.n5 [.int .i64] s.q5, .int .i64 s.a, .int .i64 s.i, .isz s.n7 [.int .i64] s.q7, .int .i64 s.l, .int .i64 s.j, .isz s.n6 [.int .i64] s.q6, .int .i64 s.l6, .int .i64 s.k]
abbrev hp4i (s : S4i) : List Ob := [.cells [.int .i64 s.ti, .isz s.n SS s.y, .isz s.m [.int .i64] s.p] 36, .frz 3 [.int .i64] s.n9 s.q9]
noncomputable def dec4i : List AV → List Ob → Option S4i
  | [.bool z, .ptr 0 0, .isz n5 [.int .i64] q5, .int .i64 a, .int .i64 i, .isz n7 [.int .i64] q7, .int .i64 l, .int .i64 j, .isz n6 [.int .i64] q6, .int .i64 l6, .int .i64 k], [.cells [.int .i64 ti, .isz n [.int .i64, .int .i64, .int .i64, .str, .str, .int .i64, .int .i64, .int .i64, .row [.str, .str], .row [.int .i64, .int .i64]] y, .isz m [.int .i64] p] 36, .frz 3 [.int .i64] n9 q9] => some ⟨z, n5, q5, a, i, n7, q7, l, j, n6, q6, l6, k, ti, n, y, m, p, n9, q9⟩
  | _, _ => none
noncomputable def rnd4i (s : S4i) : Option (Ex × List AV × List Ob) :=
  bif decide (s.k < s.l6) then bif decide (0 ≤ s.k) && decide (s.k < ↑s.n6) then bif (s.q6 s.k.toNat 0).n != s.a then some (.normal, [.bool s.z, .ptr 0 0, .isz s.n5 [.int .i64] s.q5, .int .i64 s.a, .int .i64 s.i, .isz s.n7 [.int .i64] s.q7, .int .i64 s.l, .int .i64 s.j, .isz s.n6 [.int .i64] s.q6, .int .i64 s.l6, .int .i64 (IntKind.i64.wrap (s.k + 1))], [.cells [.int .i64 s.ti, .isz s.n SS s.y, .isz s.m [.int .i64] s.p] 36, .frz 3 [.int .i64] s.n9 s.q9]) else bif decide (s.k ≥ ↑s.n) then some (.normal, [.bool s.z, .ptr 0 0, .isz s.n5 [.int .i64] s.q5, .int .i64 s.a, .int .i64 s.i, .isz s.n7 [.int .i64] s.q7, .int .i64 s.l, .int .i64 s.j, .isz s.n6 [.int .i64] s.q6, .int .i64 s.l6, .int .i64 (IntKind.i64.wrap (s.k + 1))], [.cells [.int .i64 s.ti, .isz s.n SS s.y, .isz s.m [.int .i64] s.p] 36, .frz 3 [.int .i64] s.n9 s.q9]) else bif decide (s.i < 0) then some (.ret, [.bool false, .ptr 0 0, .isz s.n5 [.int .i64] s.q5, .int .i64 s.a, .int .i64 s.i, .isz s.n7 [.int .i64] s.q7, .int .i64 s.l, .int .i64 s.j, .isz s.n6 [.int .i64] s.q6, .int .i64 s.l6, .int .i64 s.k], [.cells [.int .i64 s.ti, .isz s.n SS s.y, .isz s.m [.int .i64] s.p] 36, .frz 3 [.int .i64] s.n9 s.q9]) else bif decide (s.i ≥ ↑s.n) then some (.ret, [.bool false, .ptr 0 0, .isz s.n5 [.int .i64] s.q5, .int .i64 s.a, .int .i64 s.i, .isz s.n7 [.int .i64] s.q7, .int .i64 s.l, .int .i64 s.j, .isz s.n6 [.int .i64] s.q6, .int .i64 s.l6, .int .i64 s.k], [.cells [.int .i64 s.ti, .isz s.n SS s.y, .isz s.m [.int .i64] s.p] 36, .frz 3 [.int .i64] s.n9 s.q9]) else bif decide (0 ≤ s.i) && decide (s.i < ↑s.m) then bif (s.p s.i.toNat 0).n != s.a then some (.ret, [.bool false, .ptr 0 0, .isz s.n5 [.int .i64] s.q5, .int .i64 s.a, .int .i64 s.i, .isz s.n7 [.int .i64] s.q7, .int .i64 s.l, .int .i64 s.j, .isz s.n6 [.int .i64] s.q6, .int .i64 s.l6, .int .i64 s.k], [.cells [.int .i64 s.ti, .isz s.n SS s.y, .isz s.m [.int .i64] s.p] 36, .frz 3 [.int .i64] s.n9 s.q9]) else bif decide (0 ≤ s.k) && decide (s.k < ↑s.n) then bif decide (0 ≤ s.i) && decide (s.i < ↑s.n) then bif decide ((s.y s.k.toNat 6).n > (s.y s.i.toNat 6).n) then some (.ret, [.bool false, .ptr 0 0, .isz s.n5 [.int .i64] s.q5, .int .i64 s.a, .int .i64 s.i, .isz s.n7 [.int .i64] s.q7, .int .i64 s.l, .int .i64 s.j, .isz s.n6 [.int .i64] s.q6, .int .i64 s.l6, .int .i64 s.k], [.cells [.int .i64 s.ti, .isz s.n SS s.y, .isz s.m [.int .i64] s.p] 36, .frz 3 [.int .i64] s.n9 s.q9]) else some (.normal, [.bool s.z, .ptr 0 0, .isz s.n5 [.int .i64] s.q5, .int .i64 s.a, .int .i64 s.i, .isz s.n7 [.int .i64] s.q7, .int .i64 s.l, .int .i64 s.j, .isz s.n6 [.int .i64] s.q6, .int .i64 s.l6, .int .i64 (IntKind.i64.wrap (s.k + 1))], [.cells [.int .i64 s.ti, .isz s.n SS s.y, .isz s.m [.int .i64] s.p] 36, .frz 3 [.int .i64] s.n9 s.q9]) else none else none else none else none else some (.exit 2, [.bool s.z, .ptr 0 0, .isz s.n5 [.int .i64] s.q5, .int .i64 s.a, .int .i64 s.i, .isz s.n7 [.int .i64] s.q7, .int .i64 s.l, .int .i64 s.j, .isz s.n6 [.int .i64] s.q6, .int .i64 s.l6, .int .i64 s.k], [.cells [.int .i64 s.ti, .isz s.n SS s.y, .isz s.m [.int .i64] s.p] 36, .frz 3 [.int .i64] s.n9 s.q9])
noncomputable def L4i : Ls S4i := ⟨2, dec4i, vs4i, hp4i, rnd4i⟩
theorem L4i_ok : L4i.Ok := fun vs H s h => by
  have h : dec4i vs H = some s := h
  unfold dec4i at h
  split at h
  · obtain rfl := Option.some.inj h
    exact ⟨rfl, rfl⟩
  · cases h
noncomputable def ok4i (s : S4i) : Bool := L4i.ok 0 s
noncomputable def out4i (s : S4i) : S4i := (L4i.end_ s).2
noncomputable def ret4i (s : S4i) : Bool := (L4i.end_ s).1
noncomputable def fin4i (s : S4i) : Tr (Ex × List AV × List Ob) := .leaf (.exit 2, vs4i (out4i s), hp4i (out4i s))
noncomputable abbrev f4is : List AV → List Ob → Tr (Ex × List AV × List Ob) := stF dec4i ok4i fin4i
theorem de4i (c : S4i) : L4i.dec (L4i.vs c) (L4i.hp c) = some c := by kernel_rfl
theorem on4i {s s1 s2 : S4i} {b : Bool} (h : rnd4i s = some (.normal, vs4i s1, hp4i s1)) (h2 : L4i.To s1 b s2) : L4i.To s b s2 := L4i.to_on h (de4i s1) h2
theorem ot4i {s s1 : S4i} (h : rnd4i s = some (.exit 2, vs4i s1, hp4i s1)) : L4i.To s false s1 := L4i.to_out h (de4i s1)
theorem ok4i_of {s s1 : S4i} {b : Bool} (h : L4i.To s b s1) (hb : mdB 0 b = true) : ok4i s = true := h.ok L4i (m := 0) hb
theorem out4i_of {s s1 : S4i} {b : Bool} (h : L4i.To s b s1) : out4i s = s1 := congrArg Prod.snd (h.end_ L4i)
theorem ret4i_of {s s1 : S4i} {b : Bool} (h : L4i.To s b s1) : ret4i s = b := congrArg Prod.fst (h.end_ L4i)
structure S4 where
  z : Bool
  n5 : Nat
  q5 : Nat → Nat → Dt
  a : Int
  n7 : Nat
  q7 : Nat → Nat → Dt
  l : Int
  j : Int
  ti : Int
  n : Nat
  y : Nat → Nat → Dt
  m : Nat
  p : Nat → Nat → Dt
  n9 : Nat
  q9 : Nat → Nat → Dt
abbrev keep4 : List Nat := [2, 3, 5, 6, 27, 28, 29]
abbrev vs4 (s : S4) : List AV := [.bool s.z, .ptr 0 0, .isz s.n5 [.int .i64] s.q5, .int .i64 s.a, .isz s.n7 [.int .i64] s.q7, .int .i64 s.l, .int .i64 s.j]
abbrev hp4 (s : S4) : List Ob := [.cells [.int .i64 s.ti, .isz s.n SS s.y, .isz s.m [.int .i64] s.p] 36, .frz 3 [.int .i64] s.n9 s.q9]
noncomputable def dec4 : List AV → List Ob → Option S4
  | [.bool z, .ptr 0 0, .isz n5 [.int .i64] q5, .int .i64 a, .isz n7 [.int .i64] q7, .int .i64 l, .int .i64 j], [.cells [.int .i64 ti, .isz n [.int .i64, .int .i64, .int .i64, .str, .str, .int .i64, .int .i64, .int .i64, .row [.str, .str], .row [.int .i64, .int .i64]] y, .isz m [.int .i64] p] 36, .frz 3 [.int .i64] n9 q9] => some ⟨z, n5, q5, a, n7, q7, l, j, ti, n, y, m, p, n9, q9⟩
  | _, _ => none
noncomputable def rnd4 (s : S4) : Option (Ex × List AV × List Ob) :=
  bif decide (s.j < s.l) then bif decide (0 ≤ s.j) && decide (s.j < ↑s.n7) then bif ok4i { z := s.z, n5 := s.n5, q5 := s.q5, a := s.a, i := (s.q7 s.j.toNat 0).n, n7 := s.n7, q7 := s.q7, l := s.l, j := s.j, n6 := s.m, q6 := s.p, l6 := ↑s.m, k := 0, ti := s.ti, n := s.n, y := s.y, m := s.m, p := s.p, n9 := s.n9, q9 := s.q9 } then bif decide ((out4i { z := s.z, n5 := s.n5, q5 := s.q5, a := s.a, i := (s.q7 s.j.toNat 0).n, n7 := s.n7, q7 := s.q7, l := s.l, j := s.j, n6 := s.m, q6 := s.p, l6 := ↑s.m, k := 0, ti := s.ti, n := s.n, y := s.y, m := s.m, p := s.p, n9 := s.n9, q9 := s.q9 }).5 < 0) then some (.exit 0, [.bool (out4i { z := s.z, n5 := s.n5, q5 := s.q5, a := s.a, i := (s.q7 s.j.toNat 0).n, n7 := s.n7, q7 := s.q7, l := s.l, j := s.j, n6 := s.m, q6 := s.p, l6 := ↑s.m, k := 0, ti := s.ti, n := s.n, y := s.y, m := s.m, p := s.p, n9 := s.n9, q9 := s.q9 }).1, .ptr 0 0, .isz (out4i { z := s.z, n5 := s.n5, q5 := s.q5, a := s.a, i := (s.q7 s.j.toNat 0).n, n7 := s.n7, q7 := s.q7, l := s.l, j := s.j, n6 := s.m, q6 := s.p, l6 := ↑s.m, k := 0, ti := s.ti, n := s.n, y := s.y, m := s.m, p := s.p, n9 := s.n9, q9 := s.q9 }).2 [.int .i64] (out4i { z := s.z, n5 := s.n5, q5 := s.q5, a := s.a, i := (s.q7 s.j.toNat 0).n, n7 := s.n7, q7 := s.q7, l := s.l, j := s.j, n6 := s.m, q6 := s.p, l6 := ↑s.m, k := 0, ti := s.ti, n := s.n, y := s.y, m := s.m, p := s.p, n9 := s.n9, q9 := s.q9 }).q5, .int .i64 (out4i { z := s.z, n5 := s.n5, q5 := s.q5, a := s.a, i := (s.q7 s.j.toNat 0).n, n7 := s.n7, q7 := s.q7, l := s.l, j := s.j, n6 := s.m, q6 := s.p, l6 := ↑s.m, k := 0, ti := s.ti, n := s.n, y := s.y, m := s.m, p := s.p, n9 := s.n9, q9 := s.q9 }).5, .isz (out4i { z := s.z, n5 := s.n5, q5 := s.q5, a := s.a, i := (s.q7 s.j.toNat 0).n, n7 := s.n7, q7 := s.q7, l := s.l, j := s.j, n6 := s.m, q6 := s.p, l6 := ↑s.m, k := 0, ti := s.ti, n := s.n, y := s.y, m := s.m, p := s.p, n9 := s.n9, q9 := s.q9 }).6 [.int .i64] (out4i { z := s.z, n5 := s.n5, q5 := s.q5, a := s.a, i := (s.q7 s.j.toNat 0).n, n7 := s.n7, q7 := s.q7, l := s.l, j := s.j, n6 := s.m, q6 := s.p, l6 := ↑s.m, k := 0, ti := s.ti, n := s.n, y := s.y, m := s.m, p := s.p, n9 := s.n9, q9 := s.q9 }).q7, .int .i64 (out4i { z := s.z, n5 := s.n5, q5 := s.q5, a := s.a, i := (s.q7 s.j.toNat 0).n, n7 := s.n7, q7 := s.q7, l := s.l, j := s.j, n6 := s.m, q6 := s.p, l6 := ↑s.m, k := 0, ti := s.ti, n := s.n, y := s.y, m := s.m, p := s.p, n9 := s.n9, q9 := s.q9 }).8, .int .i64 (out4i { z := s.z, n5 := s.n5, q5 := s.q5, a := s.a, i := (s.q7 s.j.toNat 0).n, n7 := s.n7, q7 := s.q7, l := s.l, j := s.j, n6 := s.m, q6 := s.p, l6 := ↑s.m, k := 0, ti := s.ti, n := s.n, y := s.y, m := s.m, p := s.p, n9 := s.n9, q9 := s.q9 }).9], [.cells [.int .i64 (out4i { z := s.z, n5 := s.n5, q5 := s.q5, a := s.a, i := (s.q7 s.j.toNat 0).n, n7 := s.n7, q7 := s.q7, l := s.l, j := s.j, n6 := s.m, q6 := s.p, l6 := ↑s.m, k := 0, ti := s.ti, n := s.n, y := s.y, m := s.m, p := s.p, n9 := s.n9, q9 := s.q9 }).14, .isz (out4i { z := s.z, n5 := s.n5, q5 := s.q5, a := s.a, i := (s.q7 s.j.toNat 0).n, n7 := s.n7, q7 := s.q7, l := s.l, j := s.j, n6 := s.m, q6 := s.p, l6 := ↑s.m, k := 0, ti := s.ti, n := s.n, y := s.y, m := s.m, p := s.p, n9 := s.n9, q9 := s.q9 }).15 SS (out4i { z := s.z, n5 := s.n5, q5 := s.q5, a := s.a, i := (s.q7 s.j.toNat 0).n, n7 := s.n7, q7 := s.q7, l := s.l, j := s.j, n6 := s.m, q6 := s.p, l6 := ↑s.m, k := 0, ti := s.ti, n := s.n, y := s.y, m := s.m, p := s.p, n9 := s.n9, q9 := s.q9 }).y, .isz (out4i { z := s.z, n5 := s.n5, q5 := s.q5, a := s.a, i := (s.q7 s.j.toNat 0).n, n7 := s.n7, q7 := s.q7, l := s.l, j := s.j, n6 := s.m, q6 := s.p, l6 := ↑s.m, k := 0, ti := s.ti, n := s.n, y := s.y, m := s.m, p := s.p, n9 := s.n9, q9 := s.q9 }).17 [.int .i64] (out4i { z := s.z, n5 := s.n5, q5 := s.q5, a := s.a, i := (s.q7 s.j.toNat 0).n, n7 := s.n7, q7 := s.q7, l := s.l, j := s.j, n6 := s.m, q6 := s.p, l6 := ↑s.m, k := 0, ti := s.ti, n := s.n, y := s.y, m := s.m, p := s.p, n9 := s.n9, q9 := s.q9 }).p] 36, .frz 3 [.int .i64] (out4i { z := s.z, n5 := s.n5, q5 := s.q5, a := s.a, i := (s.q7 s.j.toNat 0).n, n7 := s.n7, q7 := s.q7, l := s.l, j := s.j, n6 := s.m, q6 := s.p, l6 := ↑s.m, k := 0, ti := s.ti, n := s.n, y := s.y, m := s.m, p := s.p, n9 := s.n9, q9 := s.q9 }).19 (out4i { z := s.z, n5 := s.n5, q5 := s.q5, a := s.a, i := (s.q7 s.j.toNat 0).n, n7 := s.n7, q7 := s.q7, l := s.l, j := s.j, n6 := s.m, q6 := s.p, l6 := ↑s.m, k := 0, ti := s.ti, n := s.n, y := s.y, m := s.m, p := s.p, n9 := s.n9, q9 := s.q9 }).q9]) else some (.normal, [.bool (out4i { z := s.z, n5 := s.n5, q5 := s.q5, a := s.a, i := (s.q7 s.j.toNat 0).n, n7 := s.n7, q7 := s.q7, l := s.l, j := s.j, n6 := s.m, q6 := s.p, l6 := ↑s.m, k := 0, ti := s.ti, n := s.n, y := s.y, m := s.m, p := s.p, n9 := s.n9, q9 := s.q9 }).1, .ptr 0 0, .isz (out4i { z := s.z, n5 := s.n5, q5 := s.q5, a := s.a, i := (s.q7 s.j.toNat 0).n, n7 := s.n7, q7 := s.q7, l := s.l, j := s.j, n6 := s.m, q6 := s.p, l6 := ↑s.m, k := 0, ti := s.ti, n := s.n, y := s.y, m := s.m, p := s.p, n9 := s.n9, q9 := s.q9 }).2 [.int .i64] (out4i { z := s.z, n5 := s.n5, q5 := s.q5, a := s.a, i := (s.q7 s.j.toNat 0).n, n7 := s.n7, q7 := s.q7, l := s.l, j := s.j, n6 := s.m, q6 := s.p, l6 := ↑s.m, k := 0, ti := s.ti, n := s.n, y := s.y, m := s.m, p := s.p, n9 := s.n9, q9 := s.q9 }).q5, .int .i64 (out4i { z := s.z, n5 := s.n5, q5 := s.q5, a := s.a, i := (s.q7 s.j.toNat 0).n, n7 := s.n7, q7 := s.q7, l := s.l, j := s.j, n6 := s.m, q6 := s.p, l6 := ↑s.m, k := 0, ti := s.ti, n := s.n, y := s.y, m := s.m, p := s.p, n9 := s.n9, q9 := s.q9 }).5, .isz (out4i { z := s.z, n5 := s.n5, q5 := s.q5, a := s.a, i := (s.q7 s.j.toNat 0).n, n7 := s.n7, q7 := s.q7, l := s.l, j := s.j, n6 := s.m, q6 := s.p, l6 := ↑s.m, k := 0, ti := s.ti, n := s.n, y := s.y, m := s.m, p := s.p, n9 := s.n9, q9 := s.q9 }).6 [.int .i64] (out4i { z := s.z, n5 := s.n5, q5 := s.q5, a := s.a, i := (s.q7 s.j.toNat 0).n, n7 := s.n7, q7 := s.q7, l := s.l, j := s.j, n6 := s.m, q6 := s.p, l6 := ↑s.m, k := 0, ti := s.ti, n := s.n, y := s.y, m := s.m, p := s.p, n9 := s.n9, q9 := s.q9 }).q7, .int .i64 (out4i { z := s.z, n5 := s.n5, q5 := s.q5, a := s.a, i := (s.q7 s.j.toNat 0).n, n7 := s.n7, q7 := s.q7, l := s.l, j := s.j, n6 := s.m, q6 := s.p, l6 := ↑s.m, k := 0, ti := s.ti, n := s.n, y := s.y, m := s.m, p := s.p, n9 := s.n9, q9 := s.q9 }).8, .int .i64 (IntKind.i64.wrap ((out4i { z := s.z, n5 := s.n5, q5 := s.q5, a := s.a, i := (s.q7 s.j.toNat 0).n, n7 := s.n7, q7 := s.q7, l := s.l, j := s.j, n6 := s.m, q6 := s.p, l6 := ↑s.m, k := 0, ti := s.ti, n := s.n, y := s.y, m := s.m, p := s.p, n9 := s.n9, q9 := s.q9 }).9 + 1))], [.cells [.int .i64 (out4i { z := s.z, n5 := s.n5, q5 := s.q5, a := s.a, i := (s.q7 s.j.toNat 0).n, n7 := s.n7, q7 := s.q7, l := s.l, j := s.j, n6 := s.m, q6 := s.p, l6 := ↑s.m, k := 0, ti := s.ti, n := s.n, y := s.y, m := s.m, p := s.p, n9 := s.n9, q9 := s.q9 }).14, .isz (out4i { z := s.z, n5 := s.n5, q5 := s.q5, a := s.a, i := (s.q7 s.j.toNat 0).n, n7 := s.n7, q7 := s.q7, l := s.l, j := s.j, n6 := s.m, q6 := s.p, l6 := ↑s.m, k := 0, ti := s.ti, n := s.n, y := s.y, m := s.m, p := s.p, n9 := s.n9, q9 := s.q9 }).15 SS (out4i { z := s.z, n5 := s.n5, q5 := s.q5, a := s.a, i := (s.q7 s.j.toNat 0).n, n7 := s.n7, q7 := s.q7, l := s.l, j := s.j, n6 := s.m, q6 := s.p, l6 := ↑s.m, k := 0, ti := s.ti, n := s.n, y := s.y, m := s.m, p := s.p, n9 := s.n9, q9 := s.q9 }).y, .isz (out4i { z := s.z, n5 := s.n5, q5 := s.q5, a := s.a, i := (s.q7 s.j.toNat 0).n, n7 := s.n7, q7 := s.q7, l := s.l, j := s.j, n6 := s.m, q6 := s.p, l6 := ↑s.m, k := 0, ti := s.ti, n := s.n, y := s.y, m := s.m, p := s.p, n9 := s.n9, q9 := s.q9 }).17 [.int .i64] (out4i { z := s.z, n5 := s.n5, q5 := s.q5, a := s.a, i := (s.q7 s.j.toNat 0).n, n7 := s.n7, q7 := s.q7, l := s.l, j := s.j, n6 := s.m, q6 := s.p, l6 := ↑s.m, k := 0, ti := s.ti, n := s.n, y := s.y, m := s.m, p := s.p, n9 := s.n9, q9 := s.q9 }).p] 36, .frz 3 [.int .i64] (out4i { z := s.z, n5 := s.n5, q5 := s.q5, a := s.a, i := (s.q7 s.j.toNat 0).n, n7 := s.n7, q7 := s.q7, l := s.l, j := s.j, n6 := s.m, q6 := s.p, l6 := ↑s.m, k := 0, ti := s.ti, n := s.n, y := s.y, m := s.m, p := s.p, n9 := s.n9, q9 := s.q9 }).19 (out4i { z := s.z, n5 := s.n5, q5 := s.q5, a := s.a, i := (s.q7 s.j.toNat 0).n, n7 := s.n7, q7 := s.q7, l := s.l, j := s.j, n6 := s.m, q6 := s.p, l6 := ↑s.m, k := 0, ti := s.ti, n := s.n, y := s.y, m := s.m, p := s.p, n9 := s.n9, q9 := s.q9 }).q9]) else none else none else some (.exit 0, [.bool s.z, .ptr 0 0, .isz s.n5 [.int .i64] s.q5, .int .i64 s.a, .isz s.n7 [.int .i64] s.q7, .int .i64 s.l, .int .i64 s.j], [.cells [.int .i64 s.ti, .isz s.n SS s.y, .isz s.m [.int .i64] s.p] 36, .frz 3 [.int .i64] s.n9 s.q9])
noncomputable def L4 : Ls S4 := ⟨0, dec4, vs4, hp4, rnd4⟩
theorem L4_ok : L4.Ok := fun vs H s h => by
  have h : dec4 vs H = some s := h
  unfold dec4 at h
  split at h
  · obtain rfl := Option.some.inj h
    exact ⟨rfl, rfl⟩
  · cases h
noncomputable def ok4 (s : S4) : Bool := L4.ok 0 s
noncomputable def out4 (s : S4) : S4 := (L4.end_ s).2
noncomputable def ret4 (s : S4) : Bool := (L4.end_ s).1
noncomputable def fin4 (s : S4) : Tr (Ex × List AV × List Ob) := .leaf (.exit 0, vs4 (out4 s), hp4 (out4 s))
noncomputable abbrev f4s : List AV → List Ob → Tr (Ex × List AV × List Ob) := stF dec4 ok4 fin4
theorem de4 (c : S4) : L4.dec (L4.vs c) (L4.hp c) = some c := by kernel_rfl
theorem on4 {s s1 s2 : S4} {b : Bool} (h : rnd4 s = some (.normal, vs4 s1, hp4 s1)) (h2 : L4.To s1 b s2) : L4.To s b s2 := L4.to_on h (de4 s1) h2
theorem ot4 {s s1 : S4} (h : rnd4 s = some (.exit 0, vs4 s1, hp4 s1)) : L4.To s false s1 := L4.to_out h (de4 s1)
theorem ok4_of {s s1 : S4} {b : Bool} (h : L4.To s b s1) (hb : mdB 0 b = true) : ok4 s = true := h.ok L4 (m := 0) hb
theorem out4_of {s s1 : S4} {b : Bool} (h : L4.To s b s1) : out4 s = s1 := congrArg Prod.snd (h.end_ L4)
theorem ret4_of {s s1 : S4} {b : Bool} (h : L4.To s b s1) : ret4 s = b := congrArg Prod.fst (h.end_ L4)
noncomputable abbrev lp4 (i : Nat) : LT := bif Nat.beq i 2000008 then .ghost [.frz 27] else bif Nat.beq i 2 then .sum keep4i f4is else .sum keep4 f4s
theorem loop4i (s : S4i) : evC (β := Ex × List AV × List Ob) Try.prog (spOf [t16, t17, t18, iAw]) (inlOf [19]) extD (cKH [t16, t17, t18, iAw] [19] [h19]) (lp4) (bodyOf Try.prog 4 2) ⟨mkF Try.f4.ntmps keep4i (vs4i s), hp4i s⟩ (fun e st => (cutBack keep4i 2 st).map fun q => (e, q.1, q.2)) = rnd4i s := by kernel_rfl
theorem sum4i : LoopOkT Try.prog (spOf [t16, t17, t18, iAw]) (inlOf [19]) extD (cKH [t16, t17, t18, iAw] [19] [h19]) lp4 Try.f4.ntmps (bodyOf Try.prog 4 2) (.sum keep4i f4is) := by
  dsimp only [LoopOkT]
  exact ⟨by decide, by decide, sum_ls L4i 0 L4i_ok loop4i⟩
theorem loop4 (s : S4) : evC (β := Ex × List AV × List Ob) Try.prog (spOf [t16, t17, t18, iAw]) (inlOf [19]) extD (cKH [t16, t17, t18, iAw] [19] [h19]) (lp4) (bodyOf Try.prog 4 0) ⟨mkF Try.f4.ntmps keep4 (vs4 s), hp4 s⟩ (fun e st => (cutBack keep4 2 st).map fun q => (e, q.1, q.2)) = rnd4 s := by kernel_rfl
theorem sum4 : LoopOkT Try.prog (spOf [t16, t17, t18, iAw]) (inlOf [19]) extD (cKH [t16, t17, t18, iAw] [19] [h19]) lp4 Try.f4.ntmps (bodyOf Try.prog 4 0) (.sum keep4 f4s) := by
  dsimp only [LoopOkT]
  exact ⟨by decide, by decide, sum_ls L4 0 L4_ok loop4⟩
end Go.Proofs.Ytfgniheefiefjaa

/- SpantreeCritical's walk. Conditions: none beyond the context's. -/
namespace Go.Proofs.Ytfgniheefiefjaa
open Go.Evl Go.RowKit
section
variable {z : Bool} {n5 : Nat} {q5 : Nat → Nat → Dt} {ti : Int} {n : Nat} {w q : Nat → Nat → Dt} {n7 : Nat} {q7 : Nat → Nat → Dt} {l j : Int} {n9 : Nat} {q9 : Nat → Nat → Dt}
theorem to4i (hn : n ≤ 1000) {a i : Int} (h : ∀ k, k < n → (q k 0).n = a → 0 ≤ i ∧ i < (n : Int) ∧ (q i.toNat 0).n = a ∧ (w k 6).n ≤ (w i.toNat 6).n) : ∀ f k, k + f = n →
    L4i.To ⟨z, n5, q5, a, i, n7, q7, l, j, n, q, (n : Int), (k : Int), ti, n, w, n, q, n9, q9⟩ false ⟨z, n5, q5, a, i, n7, q7, l, j, n, q, (n : Int), (n : Int), ti, n, w, n, q, n9, q9⟩
  | 0, k, hk => by
    obtain rfl : k = n := by omega
    refine ot4i ?_
    simp only [rnd4i]
    rw [condF (decide_eq_false (by omega))]
  | f + 1, k, hk => by
    have ih := to4i hn h f (k + 1) (by omega)
    have w1 : IntKind.i64.wrap ((k : Int) + 1) = ((k + 1 : Nat) : Int) := by rw [wrapI (by omega) (by omega)]; omega
    have c1 : decide ((k : Int) < (n : Int)) = true := decide_eq_true (by omega)
    have c2 : (decide (0 ≤ (k : Int)) && decide ((k : Int) < (n : Int))) = true := by rw [c1, decide_eq_true (by omega)]; rfl
    refine on4i ?_ ih
    simp only [rnd4i, Int.toNat_natCast]
    by_cases e : (q k 0).n = a
    · obtain ⟨h1, h2, h3, h4⟩ := h k (by omega) e
      have c3 : (decide (0 ≤ i) && decide (i < (n : Int))) = true := by rw [decide_eq_true h1, decide_eq_true h2]; rfl
      rw [condT c1, condT c2, condF (by rw [e, bne_self_eq_false]), condF (decide_eq_false (by omega)), condF (decide_eq_false (by omega)), condF (decide_eq_false (by omega)), condT c3, condF (by rw [h3, bne_self_eq_false]), condT c2, condT c3, condF (decide_eq_false (by omega)), w1]
    · rw [condT c1, condT c2, condT (bne_iff_ne.2 e), w1]
/-- what the law asks of a path: at, then the path's next -/
theorem to4 (hn : n ≤ 1000) (hn7 : n7 ≤ 1001) {h : Nat} (h7 : n7 = h + 1) {at_ : Nat → Int} (hat : ∀ t, t < h → (q7 t 0).n = at_ (t + 1) ∧ 0 ≤ at_ (t + 1)) (hlast : (q7 h 0).n = -1)
    (hstep : ∀ t, t ≤ h → ∀ k, k < n → (q k 0).n = at_ t → 0 ≤ (q7 t 0).n ∧ (q7 t 0).n < (n : Int) ∧ (q (q7 t 0).n.toNat 0).n = at_ t ∧ (w k 6).n ≤ (w (q7 t 0).n.toNat 6).n) : ∀ f t, t + f = h →
    ∃ s, s.z = z ∧ s.n5 = n5 ∧ s.n = n ∧ L4.To ⟨z, n5, q5, at_ t, n7, q7, (n7 : Int), (t : Int), ti, n, w, n, q, n9, q9⟩ false s
  | 0, t, ht => by
    obtain rfl : t = h := by omega
    have c1 : decide ((t : Int) < (n7 : Int)) = true := decide_eq_true (by omega)
    have c2 : (decide (0 ≤ (t : Int)) && decide ((t : Int) < (n7 : Int))) = true := by rw [c1, decide_eq_true (by omega)]; rfl
    have hi := to4i (z := z) (n5 := n5) (q5 := q5) (ti := ti) (w := w) (n7 := n7) (q7 := q7) (l := (n7 : Int)) (j := (t : Int)) (n9 := n9) (q9 := q9) hn (hstep t (Nat.le_refl _)) n 0 (by omega)
    rw [show ((0 : Nat) : Int) = 0 from rfl] at hi
    refine ⟨⟨z, n5, q5, (q7 t 0).n, n7, q7, (n7 : Int), (t : Int), ti, n, w, n, q, n9, q9⟩, rfl, rfl, rfl, ot4 ?_⟩
    simp only [rnd4, Int.toNat_natCast]
    have ho := out4i_of hi
    rw [condT c1, condT c2, condT (ok4i_of hi rfl), condT (decide_eq_true (by rw [ho]; dsimp only; omega)), ho]
  | f + 1, t, ht => by
    obtain ⟨s, h1, h2, h3, hs⟩ := to4 hn hn7 h7 hat hlast hstep f (t + 1) (by omega)
    have c1 : decide ((t : Int) < (n7 : Int)) = true := decide_eq_true (by omega)
    have c2 : (decide (0 ≤ (t : Int)) && decide ((t : Int) < (n7 : Int))) = true := by rw [c1, decide_eq_true (by omega)]; rfl
    have w1 : IntKind.i64.wrap ((t : Int) + 1) = ((t + 1 : Nat) : Int) := by rw [wrapI (by omega) (by omega)]; omega
    have hi := to4i (z := z) (n5 := n5) (q5 := q5) (ti := ti) (w := w) (n7 := n7) (q7 := q7) (l := (n7 : Int)) (j := (t : Int)) (n9 := n9) (q9 := q9) hn (hstep t (by omega)) n 0 (by omega)
    rw [show ((0 : Nat) : Int) = 0 from rfl] at hi
    have hh := hat t (by omega)
    refine ⟨s, h1, h2, h3, on4 ?_ hs⟩
    simp only [rnd4, Int.toNat_natCast]
    have ho := out4i_of hi
    rw [condT c1, condT c2, condT (ok4i_of hi rfl), condF (decide_eq_false (by rw [ho]; dsimp only; omega)), ho, hh.1, w1]
end
theorem lx4 : (mkCx Try.prog (spOf [t16, t17, t18, iAw]) (inlOf [19]) extD).Ok InvD := cx_of [19] (by kernel_rfl) (by
  intro p hp
  simp only [List.mem_cons, List.not_mem_nil, or_false] at hp
  rcases hp with rfl | rfl | rfl | rfl
  · exact t16_ok
  · exact t17_ok
  · exact t18_ok
  · exact iAw_ok)
/-- the law's state as its loop is entered -/
noncomputable def s4i (ti : Int) (n : Nat) (y p : Nat → Nat → Dt) : S4 := ⟨false, crN ti n y n p, crQ ti n y n p, -1, crN ti n y n p + 1, appEl (crQ ti n y n p) (crN ti n y n p) (dtFs [[Dt.int (-1)]]), ((crN ti n y n p + 1 : Nat) : Int), 0, ti, n, y, n, p, crN ti n y n p + 1, appEl (crQ ti n y n p) (crN ti n y n p) (dtFs [[Dt.int (-1)]])⟩
theorem lt4 (n : Nat) (x : Nat → Nat → Dt) : (evFnT Try.prog (spOf [t16, t17, t18, iAw]) (inlOf [19]) extD (cKH [t16, t17, t18, iAw] [19] [h19]) lp4 Try.f4 [.isz n SS x] [] (castT .any)).run =
    (bif n.ble 9223372036854775807 && lnB n x then bif glB n x then RB true else bif n.ble 12 && (bdE n x != 0 || okB n x) then bif bdE n x != 0 then RB true else bif okC (bdI n x) (bdN n x) (bdS n x) (bdN n x) (bdP n x) then bif (crN (bdI n x) (bdN n x) (bdS n x) (bdN n x) (bdP n x)).ble 1000000 then bif (crN (bdI n x) (bdN n x) (bdS n x) (bdN n x) (bdP n x)).beq (crN (bdI n x) (bdN n x) (bdS n x) (bdN n x) (bdP n x)) && ((crN (bdI n x) (bdN n x) (bdS n x) (bdN n x) (bdP n x)).ble 1000000 && true) then
      bif (crN (bdI n x) (bdN n x) (bdS n x) (bdN n x) (bdP n x) + 1).beq (crN (bdI n x) (bdN n x) (bdS n x) (bdN n x) (bdP n x) + 1) then bif (crN (bdI n x) (bdN n x) (bdS n x) (bdN n x) (bdP n x) + 1).beq (crN (bdI n x) (bdN n x) (bdS n x) (bdN n x) (bdP n x) + 1) && true then
        bif ok4 (s4i (bdI n x) (bdN n x) (bdS n x) (bdP n x)) then bif decide (((out4 (s4i (bdI n x) (bdN n x) (bdS n x) (bdP n x))).n5 : Int) > 0) then bif decide (((out4 (s4i (bdI n x) (bdN n x) (bdS n x) (bdP n x))).n5 : Int) ≤ ((out4 (s4i (bdI n x) (bdN n x) (bdS n x) (bdP n x))).n : Int)) then RB true else RB false else RB false else none else none else none else none else none else none else none else none : Option Res) := by kernel_rfl
def l4 : Ent := ⟨4, fun
  | [.isz n [.int .i64, .int .i64, .int .i64, .str, .str, .int .i64, .int .i64, .int .i64, .row [.str, .str], .row [.int .i64, .int .i64]] x] => .chk (okL n x) (.leaf (.ret (.bool true)))
  | _ => .non⟩
theorem law4 {n : Nat} {x : Nat → Nat → Dt} (hn : n ≤ 12) (h : bdE n x = 0) : okC (bdI n x) (bdN n x) (bdS n x) (bdN n x) (bdP n x) = true ∧ crN (bdI n x) (bdN n x) (bdS n x) (bdN n x) (bdP n x) ≤ 12 ∧
    ∃ s, s.n5 = crN (bdI n x) (bdN n x) (bdS n x) (bdN n x) (bdP n x) ∧ 0 < s.n5 ∧ s.n5 ≤ s.n ∧ L4.To (s4i (bdI n x) (bdN n x) (bdS n x) (bdP n x)) false s := by
  obtain ⟨e1, e2⟩ := trW_of hn h
  rw [e1]
  obtain ⟨h1, mf, a, hb, h2, h3, h4⟩ := crit_ok e2 (bdI n x)
  have hpos : 0 < crN (bdI n x) n (bdS n x) n (bdP n x) := by
    rcases Nat.eq_zero_or_pos (crN (bdI n x) n (bdS n x) n (bdP n x)) with e | e
    · exfalso
      rw [e] at h3
      obtain ⟨_, ha⟩ := h3
      rw [if_pos rfl] at ha
      subst ha
      have h0 := e2.good.one
      have hp0 := e2.pa 0 (by omega)
      rcases pE_par hn (y := soF n x) (i := 0) (by omega) with ⟨e3, _⟩ | ⟨j, hj, _⟩
      · rcases hb (-1) with ⟨_, h5⟩ | ⟨b, _, h5, _⟩
        · exact h5 0 (by omega) (by rw [hp0, e3])
        · rw [h4] at h5; cases h5
      · omega
    · exact e
  refine ⟨h1, by omega, ?_⟩
  generalize hr : crQ (bdI n x) n (bdS n x) n (bdP n x) = r at h3
  generalize hN : crN (bdI n x) n (bdS n x) n (bdP n x) = N at *
  obtain ⟨h3, ha⟩ := h3
  have hat : ∀ t, t < N → appEl r N (dtFs [[Dt.int (-1)]]) t = r t := fun t ht => by rw [app_at, if_pos ht]
  have hN0 : (appEl r N (dtFs [[Dt.int (-1)]]) N 0).n = -1 := by rw [app_at, if_neg (by omega), Nat.sub_self]; rfl
  obtain ⟨s, g1, g2, g3, g4⟩ := to4 (z := false) (n5 := N) (q5 := r) (ti := bdI n x) (n := n) (w := bdS n x) (q := bdP n x) (n7 := N + 1) (q7 := appEl r N (dtFs [[Dt.int (-1)]])) (n9 := N + 1) (q9 := appEl r N (dtFs [[Dt.int (-1)]])) (by omega) (by omega) (h := N) rfl (at_ := fun t => if t = 0 then -1 else (r (t - 1) 0).n)
    (fun t ht => by
      obtain ⟨b, _, _, b3, _⟩ := h3 t ht
      rw [hat t ht]
      simp only [Nat.add_sub_cancel]
      rw [if_neg (by omega)]
      exact ⟨rfl, by omega⟩) hN0 (fun t ht k hk hkt => by
      rcases Nat.lt_or_ge t N with h5 | h5
      · obtain ⟨b, b1, b2, b3, b4⟩ := h3 t h5
        rw [hat t h5, b3, Int.toNat_natCast]
        rcases hb (if t = 0 then -1 else (r (t - 1) 0).n) with ⟨c1, _⟩ | ⟨b', c1, c2, c3, c4⟩
        · rw [b4] at c1; cases c1
        · rw [b4] at c2
          obtain rfl : b = b' := Int.ofNat.inj (congrArg Dt.n (Option.some.inj c2))
          exact ⟨by omega, by omega, c3, c4 k hk hkt⟩
      · obtain rfl : t = N := by omega
        exfalso
        rcases hb (if t = 0 then -1 else (r (t - 1) 0).n) with ⟨_, c2⟩ | ⟨b', _, c2, _⟩
        · exact c2 k hk hkt
        · rw [← ha, h4] at c2; cases c2) N 0 (by omega)
  refine ⟨s, g2, by omega, by omega, ?_⟩
  unfold s4i
  rw [hN, hr]
  exact g4
set_option maxRecDepth 10000 in
theorem l4_ok : SpecHolds Try.prog InvD 4 fun a => (l4.2 a).run := by
  refine specDHC lx4 (fun f s hf => by
    have hf : (f, s) = h19 := List.mem_singleton.1 hf
    have h1 : f = 19 := congrArg Prod.fst hf
    have h2 : s = h19.2 := congrArg Prod.snd hf
    subst h1 h2
    exact h19_ok) Try.func4 (c := codeOf Try.prog 4) (by kernel_rfl) lp4 (fun p hp => by
    have hl : loops (codeOf Try.prog 4) = [(0, bodyOf Try.prog 4 0), (2, bodyOf Try.prog 4 2)] := by kernel_rfl
    rw [hl] at hp
    simp only [List.mem_cons, List.not_mem_nil, or_false] at hp
    rcases hp with rfl | rfl
    · exact sum4
    · exact sum4i) .any fun args r hh => ?_
  unfold l4 at hh
  simp only at hh
  split at hh
  · rename_i n x
    obtain ⟨hg, hh⟩ := chk_run hh
    refine ⟨by kernel_rfl, ?_⟩
    refine (lt4 n x).trans (Eq.trans ?_ hh)
    have hg' := hg
    unfold okL at hg'
    simp only [Bool.and_eq_true] at hg'
    rw [condT (by rw [hg'.1, hg'.2.1]; rfl)]
    cases hb : glB n x with
    | true => rfl
    | false =>
      rw [cond_false, condT (okL_bd hb)]
      cases e : bdE n x != 0 with
      | true => rfl
      | false =>
        obtain ⟨h1, h2, s, h3, h4, h5, hs⟩ := law4 (gl_sm hb).1 (show bdE n x = 0 by simpa using e)
        have ho := out4_of hs
        rw [cond_false, condT h1, condT (Nat.ble_eq_true_of_le (by omega)), condT (by rw [Nat.beq_refl, Nat.ble_eq_true_of_le (by omega)]; rfl), condT (Nat.beq_refl _), condT (by rw [Nat.beq_refl]; rfl), condT (ok4_of hs rfl), condT (decide_eq_true (by rw [ho]; omega)), condT (decide_eq_true (by rw [ho]; omega))]
        rfl
  · simp [Tr.run] at hh
end Go.Proofs.Ytfgniheefiefjaa

/- SpantreeCritical returns true for every input, and its arguments read as they did. No condition. -/
namespace Go.Proofs.Ytfgniheefiefjaa
open Go.ChangeShapes Go.WideShapes Go.ChangeAt Go.RowKit Go.Joins Go.Evl

section
variable {H : Type} {enc : TypeId × Value → H} {w : World} {base b0 : Nat} {spare : Nat → Bool} {held : Bool} {rc : Reach} {v : Value} {d : DataW H} {p : List MemPlace}
set_option maxRecDepth 100000 in
theorem spans_form (hv : Value.okWide Try.prog w rc b0 32 v) (h : DataW.Trod enc Try.prog w base spare held 32 v d p) : ∃ (n : Nat) (x : Nat → Nat → Dt), Rv (Nm.one 0 0) (fun b => b < w.heap.size) w None_ (.isz n SS x) v ∧ okL n x = true := by
  obtain ⟨y, hr, hok⟩ := arg_row (ρ := Nm.one 0 0) (d := 8) (s := SS) (show Try.prog.underlying 32 = some (.slice 25) by kernel_rfl) (by kernel_rfl) (by kernel_rfl) hv h
  refine ⟨y.len, y.el, hr, ?_⟩
  have h1 : y.len ≤ maxLen ∧ ∀ i, i < y.len → ∀ j s, SS[j]? = some s → dtOk 2 s (y.el i j) := hok 3
  unfold okL lnB
  rw [Nat.ble_eq_true_of_le (show y.len ≤ 9223372036854775807 from h1.1), Bool.true_and, Bool.and_eq_true]
  refine ⟨List.all_eq_true.2 fun k hk => ?_, List.all_eq_true.2 fun k hk => ?_⟩
  · have h8 : dtOk 2 (.row SL) (y.el k 8) := h1.2 k (List.mem_range.1 hk) 8 _ rfl
    exact Nat.ble_eq_true_of_le h8.1
  · rw [Bool.and_eq_true]
    have h0 : dtOk 2 (.int .i64) (y.el k 0) := h1.2 k (List.mem_range.1 hk) 0 _ rfl
    have h9 : dtOk 2 (.row SK) (y.el k 9) := h1.2 k (List.mem_range.1 hk) 9 _ rfl
    exact ⟨wf_inI h0, List.all_eq_true.2 fun i hi => wf_inI (h9.2 i (List.mem_range.1 hi) 0 _ rfl)⟩
end
set_option maxRecDepth 100000 in
theorem spantreeCritical_lifted (os : Os) (started : os.Started) (H : Type) (enc : TypeId × Value → H) :
    ReturnsInHanded {} Try.checked os 4 .any (Rows.spantreeCriticalSpec.pre6 enc Try.prog Try.f4 Rows.spantreeCriticalRow.domain false) (Rows.spantreeCriticalSpec.post enc Try.prog Try.f4 false true false false) := by
  refine returnsInHanded_of_change (C := Try.checked) own started (by kernel_rfl) Try.func4
    (ChangeSpec.witness6 (enc := enc) (C := Try.checked) false ⟨#[], #[.slice none 0 0], []⟩ 4 (by kernel_rfl) (by kernel_rfl) (by kernel_rfl) (by kernel_rfl)) ?_
  intro W base args ds gs before hval0 hW _ _
  have hval : ∀ (j : Nat) t v, Try.f4.params[j]? = some t → args[j]? = some v → Value.okWide Try.prog W .any base t v := hval0
  have hW' := hW
  obtain ⟨p, q, hA0, hV, rfl, hfz, hnd⟩ := hW
  have hA : DataW.TrodAll enc Try.prog W 0 (fun _ => true) true Try.f4.params.toList args.toList ds p := hA0
  rw [Try.params4] at hA hval
  obtain ⟨u0, d0, rfl, rfl, h0⟩ := trodAll_one hA
  obtain ⟨rfl, rfl⟩ := trodVars_none hV
  have hlt0 : ∀ x ∈ p, x.block < W.heap.size := fun x hx => by simpa using hW'.lt x (by simp [hx])
  obtain ⟨n, x, rv0, g0⟩ := spans_form (hval 0 32 u0 rfl rfl) h0
  clear hA0 hval0
  have hrun : (l4.2 [.isz n SS x]).run = some (.ret (.bool true)) := by
    show (Tr.chk (okL n x) (Tr.leaf (Res.ret (AV.bool true)))).run = _
    rw [g0]; rfl
  refine (l4_ok _ (.ret (.bool true)) hrun (Nm.one 0 0) (fun b => b < W.heap.size) W [u0] (fun _ h => h) trivial (.cons rv0 .nil)).mono fun e W' ⟨hbel, u, he, hu⟩ => ?_
  subst he
  rw [hu.of_bool]
  refine ⟨_, rfl, _, _, _, [], p, [], hW', ?_, ?_, rfl, hbel.frame _, fun h => by cases h⟩
  · exact trodAll_mk1 (shut_bool Try.underlying4 true)
  · exact trodAll_mk1 (below_trod (by kernel_rfl) (of_decide_eq_true (by kernel_rfl)) h0 hbel hlt0)
theorem spantreeCritical_holds : Rows.SpantreeCriticalSaid :=
  OpenClaim.holds_of_wide 4 Try.f4 rfl rfl rfl rfl rfl rfl rfl ⟨rfl, rfl, rfl, rfl, rfl⟩ rfl rfl rfl rfl rfl (by kernel_rfl) Try.func4 (by kernel_rfl)
    (of_decide_eq_true (by kernel_rfl)) (by unfold Func.isWrapper; first | (rw [if_pos (by decide +kernel)]; kernel_rfl) | (rw [if_neg (by decide +kernel)]; exact ⟨rfl, rfl⟩))
    (fun os started H enc _ => spantreeCritical_lifted os started H enc)
#print axioms spantreeCritical_holds
end Go.Proofs.Ytfgniheefiefjaa
