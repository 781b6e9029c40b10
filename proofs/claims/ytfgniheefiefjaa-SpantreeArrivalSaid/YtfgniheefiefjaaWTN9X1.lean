/- SpantreeArrival returns true for every input, and its arguments read as they did. No condition. -/
import Derived.Test.YtfgniheefiefjaaWCore8
/- The critical path: the last child of each span. Conditions: none beyond the context's. -/
namespace Go.Proofs.Ytfgniheefiefjaa
open Go.Evl Go.RowKit
noncomputable def rfC : Operand × Array Tmp × Code × Code := ((rfs (codeOf Try.prog 18))[0]?).getD (.tmp 0, #[], .skip, .skip)
/-- Critical's slots as its range is entered -/
def tmC (ti : Int) (n : Nat) (y : Nat → Nat → Dt) (m : Nat) (p : Nat → Nat → Dt) : List AV := ((mkF 84 [1, 3] [.ptr 0 0, .ptr 2 0]).set 14 (.agg [.int .i64 ti, .isz n SS y, .isz m [.int .i64] p])).set 15 (.fn (.func 72) [.ptr 3 0])
structure S72 where
  ti : Int
  n : Nat
  y : Nat → Nat → Dt
  m : Nat
  p : Nat → Nat → Dt
  c : Nat
  mf : Ky → Option Dt
  ti2 : Int
  n2 : Nat
  y2 : Nat → Nat → Dt
  m2 : Nat
  p2 : Nat → Nat → Dt
  l : Int
  i : Int
abbrev keep72 : List Nat := [0, 1, 11, 12]
abbrev vs72 (s : RgS S72) : List AV := [.yld 5, .ptr 3 0, .int .i64 s.c.l, .int .i64 s.c.i]
abbrev hp72 (s : RgS S72) : List Ob := [.cells [.int .i64 s.c.ti, .isz s.c.n SS s.c.y, .isz s.c.m [.int .i64] s.c.p] 36, .mapF (.int .i64) s.c.c (.dat (.int .i64) s.c.mf), .cells [.map 1] 44, .cells [.int .i64 s.c.ti2, .isz s.c.n2 SS s.c.y2, .isz s.c.m2 [.int .i64] s.c.p2] 36, .dfr, .loop s.tm s.ps s.asg s.bd 4 .ready]
noncomputable def dec72 : List AV → List Ob → Option (RgS S72)
  | [.yld 5, .ptr 3 0, .int .i64 l, .int .i64 i], [.cells [.int .i64 ti, .isz n [.int .i64, .int .i64, .int .i64, .str, .str, .int .i64, .int .i64, .int .i64, .row [.str, .str], .row [.int .i64, .int .i64]] y, .isz m [.int .i64] p] 36, .mapF (.int .i64) c (.dat (.int .i64) mf), .cells [.map 1] 44, .cells [.int .i64 ti2, .isz n2 [.int .i64, .int .i64, .int .i64, .str, .str, .int .i64, .int .i64, .int .i64, .row [.str, .str], .row [.int .i64, .int .i64]] y2, .isz m2 [.int .i64] p2] 36, .dfr, .loop tm ps asg bd 4 .ready] => some ⟨⟨ti, n, y, m, p, c, mf, ti2, n2, y2, m2, p2, l, i⟩, tm, ps, asg, bd⟩
  | _, _ => none
noncomputable def emb72 (s : S72) : RgS S72 := ⟨s, (tmC s.ti s.n s.y s.m s.p), rfC.2.1, rfC.2.2.1, rfC.2.2.2⟩
noncomputable def rnd72 (s : S72) : Option (Ex × List AV × List Ob) :=
  bif decide (s.i < s.l) then bif decide (0 ≤ s.i) && decide (s.i < ↑s.m2) then bif decide ((s.p2 s.i.toNat 0).n ≥ ↑s.n2) then some (.normal, [.yld 5, .ptr 3 0, .int .i64 s.l, .int .i64 (IntKind.i64.wrap (s.i + 1))], [.cells [.int .i64 s.ti, .isz s.n SS s.y, .isz s.m [.int .i64] s.p] 36, .mapF (Dk.int .i64) s.c (MF.dat (.int .i64) s.mf), .cells [.map 1] 44, .cells [.int .i64 s.ti2, .isz s.n2 SS s.y2, .isz s.m2 [.int .i64] s.p2] 36, .dfr, .loop (tmC s.ti s.n s.y s.m s.p) rfC.2.1 rfC.2.2.1 rfC.2.2.2 4 LS.ready]) else bif Option.isSome (s.mf (Ky.int (s.p2 s.i.toNat 0).n)) then bif decide (0 ≤ Dt.n ((s.mf (Ky.int (s.p2 s.i.toNat 0).n)).getD (Dt.int 0))) && decide (Dt.n ((s.mf (Ky.int (s.p2 s.i.toNat 0).n)).getD (Dt.int 0)) < ↑s.n) then bif decide (0 ≤ s.i) && decide (s.i < ↑s.n) then bif decide (0 ≤ s.i) && decide (s.i < ↑s.n) then bif decide (0 ≤ Dt.n ((s.mf (Ky.int (s.p2 s.i.toNat 0).n)).getD (Dt.int 0))) && decide (Dt.n ((s.mf (Ky.int (s.p2 s.i.toNat 0).n)).getD (Dt.int 0)) < ↑s.n) then bif decide (orI (cmI (s.y ((s.mf (Ky.int (s.p2 s.i.toNat 0).n)).getD (Dt.int 0)).n.toNat 6).n (s.y s.i.toNat 6).n) (cmI (s.y s.i.toNat 1).n (s.y ((s.mf (Ky.int (s.p2 s.i.toNat 0).n)).getD (Dt.int 0)).n.toNat 1).n) < 0) then some (.normal, [.yld 5, .ptr 3 0, .int .i64 s.l, .int .i64 (IntKind.i64.wrap (s.i + 1))], [.cells [.int .i64 s.ti, .isz s.n SS s.y, .isz s.m [.int .i64] s.p] 36, .mapF (Dk.int .i64) (bif Option.isSome (s.mf (Ky.int (s.p2 s.i.toNat 0).n)) then s.c else s.c + 1) (MF.dat (.int .i64) (putK s.mf (Ky.int (s.p2 s.i.toNat 0).n) (some (Dt.int s.i)))), .cells [.map 1] 44, .cells [.int .i64 s.ti2, .isz s.n2 SS s.y2, .isz s.m2 [.int .i64] s.p2] 36, .dfr, .loop (tmC s.ti s.n s.y s.m s.p) rfC.2.1 rfC.2.2.1 rfC.2.2.2 4 LS.ready]) else some (.normal, [.yld 5, .ptr 3 0, .int .i64 s.l, .int .i64 (IntKind.i64.wrap (s.i + 1))], [.cells [.int .i64 s.ti, .isz s.n SS s.y, .isz s.m [.int .i64] s.p] 36, .mapF (Dk.int .i64) s.c (MF.dat (.int .i64) s.mf), .cells [.map 1] 44, .cells [.int .i64 s.ti2, .isz s.n2 SS s.y2, .isz s.m2 [.int .i64] s.p2] 36, .dfr, .loop (tmC s.ti s.n s.y s.m s.p) rfC.2.1 rfC.2.2.1 rfC.2.2.2 4 LS.ready]) else none else none else none else none else some (.normal, [.yld 5, .ptr 3 0, .int .i64 s.l, .int .i64 (IntKind.i64.wrap (s.i + 1))], [.cells [.int .i64 s.ti, .isz s.n SS s.y, .isz s.m [.int .i64] s.p] 36, .mapF (Dk.int .i64) (bif Option.isSome (s.mf (Ky.int (s.p2 s.i.toNat 0).n)) then s.c else s.c + 1) (MF.dat (.int .i64) (putK s.mf (Ky.int (s.p2 s.i.toNat 0).n) (some (Dt.int s.i)))), .cells [.map 1] 44, .cells [.int .i64 s.ti2, .isz s.n2 SS s.y2, .isz s.m2 [.int .i64] s.p2] 36, .dfr, .loop (tmC s.ti s.n s.y s.m s.p) rfC.2.1 rfC.2.2.1 rfC.2.2.2 4 LS.ready]) else none else some (.exit 0, [.yld 5, .ptr 3 0, .int .i64 s.l, .int .i64 s.i], [.cells [.int .i64 s.ti, .isz s.n SS s.y, .isz s.m [.int .i64] s.p] 36, .mapF (Dk.int .i64) s.c (MF.dat (.int .i64) s.mf), .cells [.map 1] 44, .cells [.int .i64 s.ti2, .isz s.n2 SS s.y2, .isz s.m2 [.int .i64] s.p2] 36, .dfr, .loop (tmC s.ti s.n s.y s.m s.p) rfC.2.1 rfC.2.2.1 rfC.2.2.2 4 LS.ready])
noncomputable def L72g : Lg S72 := ⟨0, dec72, vs72, hp72, emb72, rnd72⟩
theorem L72g_ok : L72g.Ok := by
  refine ⟨fun vs H s h => ?_, fun _ => rfl⟩
  have h : dec72 vs H = some s := h
  unfold dec72 at h
  split at h
  · obtain rfl := Option.some.inj h
    exact ⟨rfl, rfl⟩
  · cases h
noncomputable abbrev L72 : Ls S72 := L72g.ls
noncomputable def gd72 (s : RgS S72) : Bool := L72g.gd s
theorem gd72_emb (c : S72) : gd72 (emb72 c) = true := L72g.gd_emb L72g_ok c
theorem dec72_emb {c : S72} (h : dec72 (vs72 (emb72 c)) (hp72 (emb72 c)) = some (emb72 c)) : L72.dec (L72.vs c) (L72.hp c) = some c := L72g.ls_dec L72g_ok h
noncomputable def ok72 (s : S72) : Bool := L72.ok 0 s
noncomputable def out72 (s : S72) : S72 := (L72.end_ s).2
noncomputable def ret72 (s : S72) : Bool := (L72.end_ s).1
noncomputable def fin72 (s : RgS S72) : Tr (Ex × List AV × List Ob) := .leaf (.exit 0, vs72 (emb72 (out72 s.c)), hp72 (emb72 (out72 s.c)))
noncomputable abbrev f72s : List AV → List Ob → Tr (Ex × List AV × List Ob) := stF dec72 (fun s => gd72 s && ok72 s.c) fin72
theorem de72 (c : S72) : L72.dec (L72.vs c) (L72.hp c) = some c := dec72_emb (by kernel_rfl)
theorem on72 {s s1 s2 : S72} {b : Bool} (h : rnd72 s = some (.normal, vs72 (emb72 s1), hp72 (emb72 s1))) (h2 : L72.To s1 b s2) : L72.To s b s2 := L72.to_on h (de72 s1) h2
theorem ot72 {s s1 : S72} (h : rnd72 s = some (.exit 0, vs72 (emb72 s1), hp72 (emb72 s1))) : L72.To s false s1 := L72.to_out h (de72 s1)
theorem ok72_of {s s1 : S72} {b : Bool} (h : L72.To s b s1) (hb : mdB 0 b = true) : ok72 s = true := h.ok L72 (m := 0) hb
theorem out72_of {s s1 : S72} {b : Bool} (h : L72.To s b s1) : out72 s = s1 := congrArg Prod.snd (h.end_ L72)
theorem ret72_of {s s1 : S72} {b : Bool} (h : L72.To s b s1) : ret72 s = b := congrArg Prod.fst (h.end_ L72)
theorem loop72 (s : S72) : evC (β := Ex × List AV × List Ob) Try.prog (spOf [t50, t51]) (inlOf [56, 72]) extD (cKD [t50, t51] [56, 72]) ((fun _ => .sum keep72 f72s)) (bodyOf Try.prog 72 0) ⟨mkF Try.f72.ntmps keep72 (vs72 (emb72 s)), hp72 (emb72 s)⟩ (fun e st => (cutBack keep72 6 st).map fun q => (e, q.1, q.2)) = rnd72 s := by kernel_rfl
theorem sum72 : LoopOkT Try.prog (spOf [t50, t51]) (inlOf [56, 72]) extD (cKD [t50, t51] [56, 72]) (fun _ => .sum keep72 f72s) Try.f72.ntmps (bodyOf Try.prog 72 0) (.sum keep72 f72s) := by
  dsimp only [LoopOkT]
  exact ⟨by decide, by decide, sum_lg L72g 0 L72g_ok loop72⟩
end Go.Proofs.Ytfgniheefiefjaa

/- The critical path: its spans. Conditions: none beyond the context's. -/
namespace Go.Proofs.Ytfgniheefiefjaa
open Go.Evl Go.RowKit
noncomputable abbrev lp72 (_ : Nat) : LT := .sum keep72 f72s
structure S18 where
  ti : Int
  n : Nat
  y : Nat → Nat → Dt
  m : Nat
  p : Nat → Nat → Dt
  c : Nat
  mf : Ky → Option Dt
  ti2 : Int
  n2 : Nat
  y2 : Nat → Nat → Dt
  m2 : Nat
  p2 : Nat → Nat → Dt
  tm : List AV
  ps : Array Tmp
  asg : Code
  bd : Code
  v : Nat
  h : Nat
  q : Nat → Nat → Dt
  a : Int
  l : Int
  i : Int
abbrev keep18 : List Nat := [1, 3, 9, 10, 66, 67]
abbrev vs18 (s : S18) : List AV := [.ptr 0 0, .ptr 2 0, .own 6 k0 s.v, .int .i64 s.a, .int .i64 s.l, .int .i64 s.i]
abbrev hp18 (s : S18) : List Ob := [.cells [.int .i64 s.ti, .isz s.n SS s.y, .isz s.m [.int .i64] s.p] 36, .mapF (.int .i64) s.c (.dat (.int .i64) s.mf), .cells [.map 1] 44, .cells [.int .i64 s.ti2, .isz s.n2 SS s.y2, .isz s.m2 [.int .i64] s.p2] 36, .dfr, .loop s.tm s.ps s.asg s.bd 4 (.over none), .own 3 [.int .i64] s.h s.q]
noncomputable def dec18 : List AV → List Ob → Option S18
  | [.ptr 0 0, .ptr 2 0, .own 6 (.int 0) v, .int .i64 a, .int .i64 l, .int .i64 i], [.cells [.int .i64 ti, .isz n [.int .i64, .int .i64, .int .i64, .str, .str, .int .i64, .int .i64, .int .i64, .row [.str, .str], .row [.int .i64, .int .i64]] y, .isz m [.int .i64] p] 36, .mapF (.int .i64) c (.dat (.int .i64) mf), .cells [.map 1] 44, .cells [.int .i64 ti2, .isz n2 [.int .i64, .int .i64, .int .i64, .str, .str, .int .i64, .int .i64, .int .i64, .row [.str, .str], .row [.int .i64, .int .i64]] y2, .isz m2 [.int .i64] p2] 36, .dfr, .loop tm ps asg bd 4 (.over none), .own 3 [.int .i64] h q] => some ⟨ti, n, y, m, p, c, mf, ti2, n2, y2, m2, p2, tm, ps, asg, bd, v, h, q, a, l, i⟩
  | _, _ => none
noncomputable def rnd18 (s : S18) : Option (Ex × List AV × List Ob) :=
  bif decide (s.i < s.l) then bif Option.isSome (s.mf (Ky.int s.a)) then bif s.h.beq s.v && (s.h.ble 1000000 && true) then some (.normal, [.ptr 0 0, .ptr 2 0, .own 6 k0 (s.h + 1), .int .i64 (Dt.n ((s.mf (Ky.int s.a)).getD (Dt.int 0))), .int .i64 s.l, .int .i64 (IntKind.i64.wrap (s.i + 1))], [.cells [.int .i64 s.ti, .isz s.n SS s.y, .isz s.m [.int .i64] s.p] 36, .mapF (Dk.int .i64) s.c (MF.dat (.int .i64) s.mf), .cells [.map 1] 44, .cells [.int .i64 s.ti2, .isz s.n2 SS s.y2, .isz s.m2 [.int .i64] s.p2] 36, .dfr, .loop s.tm s.ps s.asg s.bd 4 (LS.over none), .own 3 [.int .i64] (s.h + 1) (appEl s.q s.h (dtFs [[Dt.int ((s.mf (Ky.int s.a)).getD (Dt.int 0)).n]]))]) else none else some (.exit 2, [.ptr 0 0, .ptr 2 0, .own 6 k0 s.v, .int .i64 s.a, .int .i64 s.l, .int .i64 s.i], [.cells [.int .i64 s.ti, .isz s.n SS s.y, .isz s.m [.int .i64] s.p] 36, .mapF (Dk.int .i64) s.c (MF.dat (.int .i64) s.mf), .cells [.map 1] 44, .cells [.int .i64 s.ti2, .isz s.n2 SS s.y2, .isz s.m2 [.int .i64] s.p2] 36, .dfr, .loop s.tm s.ps s.asg s.bd 4 (LS.over none), .own 3 [.int .i64] s.h s.q]) else some (.exit 2, [.ptr 0 0, .ptr 2 0, .own 6 k0 s.v, .int .i64 s.a, .int .i64 s.l, .int .i64 s.i], [.cells [.int .i64 s.ti, .isz s.n SS s.y, .isz s.m [.int .i64] s.p] 36, .mapF (Dk.int .i64) s.c (MF.dat (.int .i64) s.mf), .cells [.map 1] 44, .cells [.int .i64 s.ti2, .isz s.n2 SS s.y2, .isz s.m2 [.int .i64] s.p2] 36, .dfr, .loop s.tm s.ps s.asg s.bd 4 (LS.over none), .own 3 [.int .i64] s.h s.q])
noncomputable def L18 : Ls S18 := ⟨2, dec18, vs18, hp18, rnd18⟩
theorem L18_ok : L18.Ok := fun vs H s h => by
  have h : dec18 vs H = some s := h
  unfold dec18 at h
  split at h
  · obtain rfl := Option.some.inj h
    exact ⟨rfl, rfl⟩
  · cases h
noncomputable def ok18 (s : S18) : Bool := L18.ok 0 s
noncomputable def out18 (s : S18) : S18 := (L18.end_ s).2
noncomputable def ret18 (s : S18) : Bool := (L18.end_ s).1
noncomputable def fin18 (s : S18) : Tr (Ex × List AV × List Ob) := .leaf (.exit 2, vs18 (out18 s), hp18 (out18 s))
noncomputable abbrev f18s : List AV → List Ob → Tr (Ex × List AV × List Ob) := stF dec18 ok18 fin18
theorem de18 (c : S18) : L18.dec (L18.vs c) (L18.hp c) = some c := by kernel_rfl
theorem on18 {s s1 s2 : S18} {b : Bool} (h : rnd18 s = some (.normal, vs18 s1, hp18 s1)) (h2 : L18.To s1 b s2) : L18.To s b s2 := L18.to_on h (de18 s1) h2
theorem ot18 {s s1 : S18} (h : rnd18 s = some (.exit 2, vs18 s1, hp18 s1)) : L18.To s false s1 := L18.to_out h (de18 s1)
theorem ok18_of {s s1 : S18} {b : Bool} (h : L18.To s b s1) (hb : mdB 0 b = true) : ok18 s = true := h.ok L18 (m := 0) hb
theorem out18_of {s s1 : S18} {b : Bool} (h : L18.To s b s1) : out18 s = s1 := congrArg Prod.snd (h.end_ L18)
theorem ret18_of {s s1 : S18} {b : Bool} (h : L18.To s b s1) : ret18 s = b := congrArg Prod.fst (h.end_ L18)
noncomputable abbrev lp18 (i : Nat) : LT := bif Nat.beq i 2000001 then .ghost [.mapD 13 (.int .i64) (.int .i64)] else bif Nat.beq i 1000002 then .forget [1, 3] else bif Nat.beq i 2000009 then .ghost [.nil 9 3 [.int .i64]] else .sum keep18 f18s
theorem loop18 (s : S18) : evC (β := Ex × List AV × List Ob) Try.prog (spOf [t50, t51]) (inlOf [56, 72]) extD (cKL [t50, t51] [56, 72] [(72, lp72)]) (lp18) (bodyOf Try.prog 18 2) ⟨mkF Try.f18.ntmps keep18 (vs18 s), hp18 s⟩ (fun e st => (cutBack keep18 7 st).map fun q => (e, q.1, q.2)) = rnd18 s := by kernel_rfl
theorem sum18 : LoopOkT Try.prog (spOf [t50, t51]) (inlOf [56, 72]) extD (cKL [t50, t51] [56, 72] [(72, lp72)]) lp18 Try.f18.ntmps (bodyOf Try.prog 18 2) (.sum keep18 f18s) := by
  dsimp only [LoopOkT]
  exact ⟨by decide, by decide, sum_ls L18 0 L18_ok loop18⟩
end Go.Proofs.Ytfgniheefiefjaa

/- The critical path: the contract. Conditions: none beyond the context's. -/
namespace Go.Proofs.Ytfgniheefiefjaa
open Go.Evl Go.RowKit
/-- the last to end of the children so far -/
def BstP (w q : Nat → Nat → Dt) (i : Nat) (mf : Ky → Option Dt) : Prop := ∀ v : Int, (mf (.int v) = none ∧ ∀ j, j < i → (q j 0).n ≠ v) ∨ ∃ b : Nat, b < i ∧ mf (.int v) = some (.int (b : Int)) ∧ (q b 0).n = v ∧ ∀ j, j < i → (q j 0).n = v → (w j 6).n ≤ (w b 6).n
def s72i (ti : Int) (n : Nat) (y : Nat → Nat → Dt) (m : Nat) (p : Nat → Nat → Dt) : S72 := ⟨ti, n, y, m, p, 0, fun _ => none, ti, n, y, m, p, bif decide ((m : Int) < (n : Int)) then (m : Int) else (n : Int), 0⟩
theorem cmI_lt {a b : Int} : cmI a b < 0 ↔ a < b := by
  unfold cmI
  repeat' split
  all_goals omega
theorem orI_cm {a b c d : Int} (h : ¬ orI (cmI a b) (cmI c d) < 0) : b ≤ a := by
  unfold orI at h
  have := @cmI_lt a b
  by_cases h0 : cmI a b = 0
  · unfold cmI at h0
    revert h0
    repeat' split
    all_goals omega
  · rw [if_neg h0] at h
    omega
theorem orI_cm' {a b c d : Int} (h : orI (cmI a b) (cmI c d) < 0) : a ≤ b := by
  unfold orI at h
  have h1 := @cmI_lt a b
  by_cases h0 : cmI a b = 0
  · unfold cmI at h0
    revert h0
    repeat' split
    all_goals omega
  · rw [if_neg h0] at h
    omega
theorem to72 {ti : Int} {n : Nat} {w q : Nat → Nat → Dt} (hn : n ≤ 1000) (hq : ∀ i, i < n → (q i 0).n < (n : Int)) : ∀ f i c mf, i + f = n → BstP w q i mf → ∃ c' mf', BstP w q n mf' ∧
    L72.To ⟨ti, n, w, n, q, c, mf, ti, n, w, n, q, (n : Int), (i : Int)⟩ false ⟨ti, n, w, n, q, c', mf', ti, n, w, n, q, (n : Int), (n : Int)⟩
  | 0, i, c, mf, hi, hb => by
    obtain rfl : i = n := by omega
    refine ⟨c, mf, hb, ot72 ?_⟩
    simp only [rnd72]
    rw [condF (decide_eq_false (by omega))]
    kernel_rfl
  | f + 1, i, c, mf, hi, hb => by
    have hin : i < n := by omega
    have c1 : decide ((i : Int) < (n : Int)) = true := decide_eq_true (by omega)
    have c2 : (decide (0 ≤ (i : Int)) && decide ((i : Int) < (n : Int))) = true := by rw [c1, decide_eq_true (by omega)]; rfl
    have w1 : IntKind.i64.wrap ((i : Int) + 1) = ((i + 1 : Nat) : Int) := by rw [wrapI (by omega) (by omega)]; omega
    have hqi := hq i hin
    -- the map is written
    have put : (∀ j, j < i → (q j 0).n = (q i 0).n → (w j 6).n ≤ (w i 6).n) → BstP w q (i + 1) (putK mf (.int (q i 0).n) (some (.int (i : Int)))) := fun hle v => by
      by_cases e : v = (q i 0).n
      · subst e
        right
        refine ⟨i, by omega, putK_at _ _ _, rfl, fun j hj hjv => ?_⟩
        by_cases e2 : j = i
        · subst e2; exact Int.le_refl _
        · exact hle j (by omega) hjv
      · rw [putK_ne _ _ (show Ky.int v ≠ Ky.int (q i 0).n from fun z => e (Ky.int.inj z))]
        rcases hb v with ⟨h1, h2⟩ | ⟨b, h1, h2, h3, h4⟩
        · refine .inl ⟨h1, fun j hj hjv => ?_⟩
          by_cases e2 : j = i
          · subst e2; exact e hjv.symm
          · exact h2 j (by omega) hjv
        · refine .inr ⟨b, by omega, h2, h3, fun j hj hjv => ?_⟩
          by_cases e2 : j = i
          · subst e2; exact absurd hjv.symm e
          · exact h4 j (by omega) hjv
    rcases hb (q i 0).n with ⟨h1, h2⟩ | ⟨b, h1, h2, h3, h4⟩
    · obtain ⟨c', mf', hb', hto⟩ := to72 (ti := ti) hn hq f (i + 1) (c + 1) _ (by omega) (put fun j hj hjv => absurd hjv (h2 j hj))
      refine ⟨c', mf', hb', on72 ?_ hto⟩
      simp only [rnd72, Int.toNat_natCast]
      rw [condT c1, condT c2, condF (decide_eq_false (by omega)), condF (by rw [h1]; rfl), w1, condF (by rw [h1]; rfl)]
      kernel_rfl
    · have hb0 : (decide (0 ≤ Dt.n ((mf (Ky.int (q i 0).n)).getD (Dt.int 0))) && decide (Dt.n ((mf (Ky.int (q i 0).n)).getD (Dt.int 0)) < (n : Int))) = true := by
        rw [h2]
        show (decide (0 ≤ (b : Int)) && decide ((b : Int) < (n : Int))) = true
        rw [decide_eq_true (by omega), decide_eq_true (by omega)]; rfl
      have hbn : ((mf (Ky.int (q i 0).n)).getD (Dt.int 0)).n.toNat = b := by rw [h2]; rfl
      by_cases hlt : orI (cmI (w b 6).n (w i 6).n) (cmI (w i 1).n (w b 1).n) < 0
      · obtain ⟨c', mf', hb', hto⟩ := to72 (ti := ti) hn hq f (i + 1) c _ (by omega) (put fun j hj hjv => Int.le_trans (h4 j hj hjv) (orI_cm' hlt))
        refine ⟨c', mf', hb', on72 ?_ hto⟩
        simp only [rnd72, Int.toNat_natCast]
        rw [condT c1, condT c2, condF (decide_eq_false (by omega)), condT (by rw [h2]; rfl), condT hb0, condT c2, condT c2, condT hb0, condT (decide_eq_true (by rw [hbn]; exact hlt)), w1, condT (by rw [h2]; rfl)]
        kernel_rfl
      · obtain ⟨c', mf', hb', hto⟩ := to72 (ti := ti) hn hq f (i + 1) c mf (by omega) fun v => by
          rcases hb v with ⟨g1, g2⟩ | ⟨b', g1, g2, g3, g4⟩
          · refine .inl ⟨g1, fun j hj hjv => ?_⟩
            by_cases e2 : j = i
            · subst e2
              rw [hjv, g1] at h2
              cases h2
            · exact g2 j (by omega) hjv
          · refine .inr ⟨b', by omega, g2, g3, fun j hj hjv => ?_⟩
            by_cases e2 : j = i
            · subst e2
              rw [hjv, g2] at h2
              obtain rfl : b' = b := by
                have := congrArg Dt.n (Option.some.inj h2)
                exact Int.ofNat.inj this
              exact orI_cm hlt
            · exact g4 j (by omega) hjv
        refine ⟨c', mf', hb', on72 ?_ hto⟩
        simp only [rnd72, Int.toNat_natCast]
        rw [condT c1, condT c2, condF (decide_eq_false (by omega)), condT (by rw [h2]; rfl), condT hb0, condT c2, condT c2, condT hb0, condF (decide_eq_false (by rw [hbn]; exact hlt)), w1]
        kernel_rfl
/-- a path so far: from a root down, always to the child that ends last -/
def PthP (w q : Nat → Nat → Dt) (n : Nat) (mf : Ky → Option Dt) (h : Nat) (r : Nat → Nat → Dt) (a : Int) : Prop :=
  (∀ t, t < h → ∃ b : Nat, t ≤ b ∧ b < n ∧ (r t 0).n = (b : Int) ∧ mf (.int (if t = 0 then -1 else (r (t - 1) 0).n)) = some (.int (b : Int))) ∧ a = if h = 0 then -1 else (r (h - 1) 0).n
noncomputable def s18i (o : S72) : S18 := ⟨o.ti, o.n, o.y, o.m, o.p, o.c, o.mf, o.ti2, o.n2, o.y2, o.m2, o.p2, tmC o.ti o.n o.y o.m o.p, rfC.2.1, rfC.2.2.1, rfC.2.2.2, 0, 0, zeroEl, -1, (o.n : Int), 0⟩
theorem to18 {w q : Nat → Nat → Dt} {n : Nat} {mf : Ky → Option Dt} (hn : n ≤ 1000) (hb : BstP w q n mf) (hq : ∀ i, i < n → (q i 0).n < (i : Int))
    {ti : Int} {m c : Nat} {ti2 : Int} {n2 : Nat} {y2 : Nat → Nat → Dt} {m2 : Nat} {p p2 y : Nat → Nat → Dt} {tm : List AV} {ps : Array Tmp} {asg bd : Code} : ∀ f i r a, i + f = n → PthP w q n mf i r a → ∃ h' r' a' s, h' ≤ n ∧ i ≤ h' ∧ PthP w q n mf h' r' a' ∧ mf (.int a') = none ∧ s.h = h' ∧ s.v = h' ∧ s.q = r' ∧
      L18.To ⟨ti, n, y, m, p, c, mf, ti2, n2, y2, m2, p2, tm, ps, asg, bd, i, i, r, a, (n : Int), (i : Int)⟩ false s
  | 0, i, r, a, hi, hp => by
    obtain rfl : i = n := by omega
    refine ⟨i, r, a, _, Nat.le_refl _, Nat.le_refl _, hp, ?_, rfl, rfl, rfl, ot18 (s1 := ⟨ti, i, y, m, p, c, mf, ti2, n2, y2, m2, p2, tm, ps, asg, bd, i, i, r, a, (i : Int), (i : Int)⟩) ?_⟩
    · rcases hb a with ⟨h1, _⟩ | ⟨b, h1, h2, h3, _⟩
      · exact h1
      · exfalso
        have h4 := hq b h1
        rw [h3, hp.2] at h4
        by_cases e : i = 0
        · omega
        · rw [if_neg e] at h4
          obtain ⟨b', g1, g2, g3, _⟩ := hp.1 (i - 1) (by omega)
          omega
    · simp only [rnd18]
      rw [condF (decide_eq_false (by omega))]
  | f + 1, i, r, a, hi, hp => by
    have c1 : decide ((i : Int) < (n : Int)) = true := decide_eq_true (by omega)
    have w1 : IntKind.i64.wrap ((i : Int) + 1) = ((i + 1 : Nat) : Int) := by rw [wrapI (by omega) (by omega)]; omega
    rcases hb a with ⟨h1, _⟩ | ⟨b, h1, h2, h3, _⟩
    · refine ⟨i, r, a, _, by omega, Nat.le_refl _, hp, h1, rfl, rfl, rfl, ot18 (s1 := ⟨ti, n, y, m, p, c, mf, ti2, n2, y2, m2, p2, tm, ps, asg, bd, i, i, r, a, (n : Int), (i : Int)⟩) ?_⟩
      simp only [rnd18]
      rw [condT c1, condF (by rw [h1]; rfl)]
    · have hp' : PthP w q n mf (i + 1) (appEl r i (dtFs [[Dt.int (b : Int)]])) (b : Int) := by
        have hat : ∀ t, t < i → appEl r i (dtFs [[Dt.int (b : Int)]]) t = r t := fun t ht => by rw [app_at, if_pos ht]
        have hi0 : (appEl r i (dtFs [[Dt.int (b : Int)]]) i 0).n = (b : Int) := by
          rw [app_at, if_neg (by omega), Nat.sub_self]
          rfl
        refine ⟨fun t ht => ?_, ?_⟩
        · by_cases e : t = i
          · subst e
            refine ⟨b, ?_, h1, hi0, ?_⟩
            · have h4 := hq b h1
              rw [h3, hp.2] at h4
              by_cases e : t = 0
              · omega
              · rw [if_neg e] at h4
                obtain ⟨b', g1, g2, g3, _⟩ := hp.1 (t - 1) (by omega)
                omega
            · rw [← h2, hp.2]
              by_cases e : t = 0
              · rw [if_pos e, if_pos e]
              · rw [if_neg e, if_neg e, hat _ (by omega)]
          · obtain ⟨b', g1, g2, g3, g4⟩ := hp.1 t (by omega)
            refine ⟨b', g1, g2, by rw [hat t (by omega)]; exact g3, ?_⟩
            rw [← g4]
            by_cases e : t = 0
            · rw [if_pos e, if_pos e]
            · rw [if_neg e, if_neg e, hat _ (by omega)]
        · rw [if_neg (by omega), Nat.add_sub_cancel, hi0]
      obtain ⟨h', r', a', s, e1, e2, e3, e4, e5, e6, e7, hto⟩ := to18 (ti := ti) (m := m) (c := c) (ti2 := ti2) (n2 := n2) (y2 := y2) (m2 := m2) (p := p) (p2 := p2) (y := y) (tm := tm) (ps := ps) (asg := asg) (bd := bd) hn hb hq f (i + 1) _ _ (by omega) hp'
      refine ⟨h', r', a', s, e1, by omega, e3, e4, e5, e6, e7, on18 ?_ hto⟩
      simp only [rnd18]
      rw [condT c1, condT (by rw [h2]; rfl), condT (by rw [Nat.beq_refl, Nat.ble_eq_true_of_le (by omega)]; rfl), w1, h2]
      rfl
noncomputable def crO (ti : Int) (n : Nat) (y : Nat → Nat → Dt) (m : Nat) (p : Nat → Nat → Dt) : S18 := out18 (s18i (out72 (s72i ti n y m p)))
noncomputable def okC (ti : Int) (n : Nat) (y : Nat → Nat → Dt) (m : Nat) (p : Nat → Nat → Dt) : Bool := ok72 (s72i ti n y m p) && (ok18 (s18i (out72 (s72i ti n y m p))) && Nat.beq (crO ti n y m p).h (crO ti n y m p).v)
noncomputable def crN (ti : Int) (n : Nat) (y : Nat → Nat → Dt) (m : Nat) (p : Nat → Nat → Dt) : Nat := (crO ti n y m p).h
noncomputable def crQ (ti : Int) (n : Nat) (y : Nat → Nat → Dt) (m : Nat) (p : Nat → Nat → Dt) : Nat → Nat → Dt := (crO ti n y m p).q
noncomputable def t18 : Ent := ⟨18, fun
  | [.agg [.int .i64 ti, .isz n [.int .i64, .int .i64, .int .i64, .str, .str, .int .i64, .int .i64, .int .i64, .row [.str, .str], .row [.int .i64, .int .i64]] y, .isz m [.int .i64] p]] => .chk (okC ti n y m p) (.leaf (.ret (.isz (crN ti n y m p) [.int .i64] (crQ ti n y m p))))
  | _ => .non⟩
theorem vt18 (ti : Int) (n : Nat) (y : Nat → Nat → Dt) (m : Nat) (p : Nat → Nat → Dt) : (evFnT Try.prog (spOf [t50, t51]) (inlOf [56, 72]) extD (cKL [t50, t51] [56, 72] [(72, lp72)]) lp18 Try.f18 [.agg [.int .i64 ti, .isz n SS y, .isz m [.int .i64] p]] [] (castT (.row [.int .i64]))).run =
    (bif gd72 (emb72 (s72i ti n y m p)) && ok72 (s72i ti n y m p) then bif ok18 (s18i (out72 (s72i ti n y m p))) then bif (crO ti n y m p).h.beq (crO ti n y m p).v then some (.ret (.isz (crO ti n y m p).h [.int .i64] (crO ti n y m p).q)) else none else none else none : Option Res) := by kernel_rfl
theorem lx18 : (mkCx Try.prog (spOf [t50, t51]) (inlOf [56, 72]) extD).Ok InvD := cx_of [56, 72] (by kernel_rfl) (by
  intro p hp
  simp only [List.mem_cons, List.not_mem_nil, or_false] at hp
  rcases hp with rfl | rfl
  · exact t50_ok
  · exact t51_ok)
set_option maxRecDepth 10000 in
theorem lps18 : LpsOk (mkCx Try.prog (spOf [t50, t51]) (inlOf [56, 72]) extD) (callN (mkCx Try.prog (spOf [t50, t51]) (inlOf [56, 72]) extD) attD uD 20) [(72, lp72)] := by
  refine lps_one (cK := cKD [t50, t51] [56, 72]) (fun {β} => callK_eq (β := β) Try.prog (spOf [t50, t51]) (inlOf [56, 72]) extD attD uD 20) Try.func72 (c := codeOf Try.prog 72) (by kernel_rfl) fun p hp => ?_
  have hl : loops (codeOf Try.prog 72) = [(0, bodyOf Try.prog 72 0)] := by kernel_rfl
  rw [hl, List.mem_singleton] at hp
  subst hp
  exact sum72
set_option maxRecDepth 10000 in
theorem t18_ok : SpecHolds Try.prog InvD 18 fun a => (t18.2 a).run := by
  refine specDLC lx18 lps18 Try.func18 (c := codeOf Try.prog 18) (by kernel_rfl) lp18 (fun p hp => by
    have hl : loops (codeOf Try.prog 18) = [(2, bodyOf Try.prog 18 2)] := by kernel_rfl
    rw [hl, List.mem_singleton] at hp
    subst hp
    exact sum18) (.row [.int .i64]) fun args r hh => ?_
  simp only [t18] at hh
  split at hh
  · rename_i ti n y m p
    obtain ⟨hg, hh⟩ := chk_run hh
    refine ⟨by kernel_rfl, (vt18 ti n y m p).trans (Eq.trans ?_ hh)⟩
    unfold okC at hg
    simp only [Bool.and_eq_true] at hg
    rw [condT (by rw [gd72_emb, hg.1]; rfl), condT hg.2.1, condT hg.2.2]
    rfl
  · simp [Tr.run] at hh
/-- the path of a tree -/
theorem crit_ok {n : Nat} {y w q : Nat → Nat → Dt} (hT : TrW n y w q) (ti : Int) : okC ti n w n q = true ∧ ∃ mf a, BstP w q n mf ∧ crN ti n w n q ≤ n ∧ PthP w q n mf (crN ti n w n q) (crQ ti n w n q) a ∧ mf (.int a) = none := by
  have hn := hT.n12
  have hq : ∀ i, i < n → (q i 0).n < (i : Int) := fun i hi => by
    rw [hT.pa i hi]
    rcases pE_par hn (y := y) hi with ⟨e, _⟩ | ⟨j, hj, e, _⟩ <;> omega
  obtain ⟨c', mf, hb, h1⟩ := to72 (ti := ti) (w := w) (q := q) (n := n) (by omega) (fun i hi => by have := hq i hi; omega) n 0 0 (fun _ => none) (by omega) fun v => .inl ⟨rfl, fun j hj => by omega⟩
  have e1 : s72i ti n w n q = ⟨ti, n, w, n, q, 0, fun _ => none, ti, n, w, n, q, (n : Int), ((0 : Nat) : Int)⟩ := by
    unfold s72i
    rw [condF (decide_eq_false (by omega))]
    rfl
  rw [← e1] at h1
  have e2 := out72_of h1
  obtain ⟨h', r', a', s, g1, g2, g3, g4, g5, g6, g7, hto⟩ := to18 (w := w) (q := q) (n := n) (mf := mf) (by omega) hb hq (ti := ti) (m := n) (c := c') (ti2 := ti) (n2 := n) (y2 := w) (m2 := n) (p := q) (p2 := q) (y := w) (tm := tmC ti n w n q) (ps := rfC.2.1) (asg := rfC.2.2.1) (bd := rfC.2.2.2) n 0 zeroEl (-1) (by omega) ⟨fun t ht => by omega, rfl⟩
  have e3 : s18i (out72 (s72i ti n w n q)) = ⟨ti, n, w, n, q, c', mf, ti, n, w, n, q, tmC ti n w n q, rfC.2.1, rfC.2.2.1, rfC.2.2.2, 0, 0, zeroEl, -1, (n : Int), ((0 : Nat) : Int)⟩ := by
    rw [e2]; rfl
  rw [← e3] at hto
  have e4 : crO ti n w n q = s := out18_of hto
  refine ⟨?_, mf, a', hb, ?_, ?_, g4⟩
  · unfold okC
    rw [e4, ok72_of h1 rfl, ok18_of hto rfl, g5, g6, Nat.beq_refl]
    rfl
  · unfold crN; rw [e4, g5]; exact g1
  · unfold crN crQ; rw [e4, g5, g7]; exact g3
end Go.Proofs.Ytfgniheefiefjaa

/- slices.Clone of numbers: a new row of its own. Conditions: none beyond the context's. -/
namespace Go.Proofs.Ytfgniheefiefjaa
open Go.Evl Go.RowKit
theorem vt19a (cap : Nat) : evFn (β := Res × List Ob) Try.prog (spOf []) (inlOf []) extD (cKD [] []) (fun _ => .unroll 0) Try.f19 [.raw (.slice none 0 cap)] [] (fun r H => some (r, H)) = some (.ret .nsl, []) := by kernel_rfl
theorem vt19b (a : Addr) (cap : Nat) : evFn (β := Res × List Ob) Try.prog (spOf []) (inlOf []) extD (cKD [] []) (fun _ => .unroll 0) Try.f19 [.raw (.slice (some a) 0 cap)] [] (fun r H => some (r, H)) = some (.ret (.own 0 k0 0), [.own 3 [.int .i64] 0 (appEl zeroEl 0 fun _ _ => .int 0)]) := by kernel_rfl
theorem vt19c (n : Nat) (x : Nat → Nat → Dt) : evFn (β := Res × List Ob) Try.prog (spOf []) (inlOf []) extD (cKD [] []) (fun _ => .unroll 0) Try.f19 [.isz n [.int .i64] x] [] (fun r H => some (r, H)) =
    (bif Nat.blt 0 n then bif Nat.ble n 1000000 then some (.ret (.own 0 k0 (0 + n)), [.own 3 [.int .i64] (0 + n) x]) else none else none) := by kernel_rfl
theorem fr19 (n : Nat) (x : Nat → Nat → Dt) (hn : n ≤ 1000000) : FrsAt Try.prog InvD 19 [.isz n [.int .i64] x] (.own 0 k0 n) [.own 3 [.int .i64] n x] := by
  refine frs_clone (fun cap => frsD cx0 Try.func19 (c := codeOf Try.prog 19) (by kernel_rfl) (fun _ => .unroll 0) (fun _ _ => trivial) (by kernel_rfl) (vt19a cap)) (fun a cap => ?_) (fun n x h0 h1 => ?_) n x hn
  · have := frsD cx0 Try.func19 (c := codeOf Try.prog 19) (by kernel_rfl) (fun _ => .unroll 0) (fun _ _ => trivial) (by kernel_rfl) (vt19b a cap)
    intro ρ A w vs hA hi hv
    refine (this ρ A w vs hA hi hv).mono ?_
    rintro e w' ⟨ρ', A', u, h1, h2, h3, rfl, h4⟩
    refine ⟨ρ', A', u, own_zero h1, h2, h3, rfl, h4.mono (fun i ⟨o, ho, _⟩ => ?_) (Nle.refl _ _) (fun _ h => h) (fun _ _ => rfl)⟩
    cases i with
    | zero => exact ⟨.own 3 [.int .i64] 0 zeroEl, rfl, rfl⟩
    | succ i => simp at ho
  · refine frsD cx0 Try.func19 (c := codeOf Try.prog 19) (by kernel_rfl) (fun _ => .unroll 0) (fun _ _ => trivial) (by kernel_rfl) ((vt19c n x).trans ?_)
    rw [show Nat.blt 0 n = true by rw [Nat.blt_eq]; exact h0, Nat.ble_eq_true_of_le h1, Nat.zero_add]
    rfl
/-- a copy that may be written to -/
def h19 : HEnt := ⟨19, fun
  | [.isz n [.int .i64] x] => .chk (Nat.ble n 1000000) (.leaf (.own 0 k0 n, [.own 3 [.int .i64] n x]))
  | _ => .non⟩
theorem h19_ok : FrsHolds Try.prog InvD 19 fun a => (h19.2 a).run := by
  intro args v obs h
  unfold h19 at h
  simp only at h
  split at h
  · rename_i n x
    simp only [Tr.run] at h
    cases hn : Nat.ble n 1000000 with
    | false => rw [hn] at h; cases h
    | true =>
      rw [hn] at h
      obtain ⟨rfl, rfl⟩ := h
      exact fr19 n x (by simpa using hn)
  · cases h
end Go.Proofs.Ytfgniheefiefjaa

/- Trees alike, and the law on spans' order: the loops. Conditions: none beyond the context's. -/
namespace Go.Proofs.Ytfgniheefiefjaa
open Go.Evl Go.RowKit
structure S34 where
  z : Bool
  i : Int
  ti : Int
  n : Nat
  y : Nat → Nat → Dt
  m : Nat
  p : Nat → Nat → Dt
  ti2 : Int
  n2 : Nat
  y2 : Nat → Nat → Dt
  m2 : Nat
  p2 : Nat → Nat → Dt
abbrev keep34 : List Nat := [2, 3, 4, 5]
abbrev vs34 (s : S34) : List AV := [.ptr 0 0, .ptr 1 0, .bool s.z, .int .i64 s.i]
abbrev hp34 (s : S34) : List Ob := [.cells [.int .i64 s.ti, .isz s.n SS s.y, .isz s.m [.int .i64] s.p] 36, .cells [.int .i64 s.ti2, .isz s.n2 SS s.y2, .isz s.m2 [.int .i64] s.p2] 36]
noncomputable def dec34 : List AV → List Ob → Option S34
  | [.ptr 0 0, .ptr 1 0, .bool z, .int .i64 i], [.cells [.int .i64 ti, .isz n [.int .i64, .int .i64, .int .i64, .str, .str, .int .i64, .int .i64, .int .i64, .row [.str, .str], .row [.int .i64, .int .i64]] y, .isz m [.int .i64] p] 36, .cells [.int .i64 ti2, .isz n2 [.int .i64, .int .i64, .int .i64, .str, .str, .int .i64, .int .i64, .int .i64, .row [.str, .str], .row [.int .i64, .int .i64]] y2, .isz m2 [.int .i64] p2] 36] => some ⟨z, i, ti, n, y, m, p, ti2, n2, y2, m2, p2⟩
  | _, _ => none
noncomputable def rnd34 (s : S34) : Option (Ex × List AV × List Ob) :=
  bif decide (s.i < (s.m : Int)) then bif decide (0 ≤ s.i) && decide (s.i < (s.m : Int)) then bif decide (0 ≤ s.i) && decide (s.i < (s.m2 : Int)) then bif (s.p s.i.toNat 0).n != (s.p2 s.i.toNat 0).n then some (.ret, [.ptr 0 0, .ptr 1 0, .bool false, .int .i64 s.i], [.cells [.int .i64 s.ti, .isz s.n SS s.y, .isz s.m [.int .i64] s.p] 36, .cells [.int .i64 s.ti2, .isz s.n2 SS s.y2, .isz s.m2 [.int .i64] s.p2] 36]) else some (.normal, [.ptr 0 0, .ptr 1 0, .bool s.z, .int .i64 (IntKind.i64.wrap (s.i + 1))], [.cells [.int .i64 s.ti, .isz s.n SS s.y, .isz s.m [.int .i64] s.p] 36, .cells [.int .i64 s.ti2, .isz s.n2 SS s.y2, .isz s.m2 [.int .i64] s.p2] 36]) else none else none else some (.exit 0, [.ptr 0 0, .ptr 1 0, .bool s.z, .int .i64 s.i], [.cells [.int .i64 s.ti, .isz s.n SS s.y, .isz s.m [.int .i64] s.p] 36, .cells [.int .i64 s.ti2, .isz s.n2 SS s.y2, .isz s.m2 [.int .i64] s.p2] 36])
noncomputable def L34 : Ls S34 := ⟨0, dec34, vs34, hp34, rnd34⟩
theorem L34_ok : L34.Ok := fun vs H s h => by
  have h : dec34 vs H = some s := h
  unfold dec34 at h
  split at h
  · obtain rfl := Option.some.inj h
    exact ⟨rfl, rfl⟩
  · cases h
noncomputable def ok34 (s : S34) : Bool := L34.ok 0 s
noncomputable def out34 (s : S34) : S34 := (L34.end_ s).2
noncomputable def ret34 (s : S34) : Bool := (L34.end_ s).1
noncomputable def fin34 (s : S34) : Tr (Ex × List AV × List Ob) := .leaf (.exit 0, vs34 (out34 s), hp34 (out34 s))
noncomputable abbrev f34s : List AV → List Ob → Tr (Ex × List AV × List Ob) := stF dec34 ok34 fin34
theorem de34 (c : S34) : L34.dec (L34.vs c) (L34.hp c) = some c := by kernel_rfl
theorem on34 {s s1 s2 : S34} {b : Bool} (h : rnd34 s = some (.normal, vs34 s1, hp34 s1)) (h2 : L34.To s1 b s2) : L34.To s b s2 := L34.to_on h (de34 s1) h2
theorem ot34 {s s1 : S34} (h : rnd34 s = some (.exit 0, vs34 s1, hp34 s1)) : L34.To s false s1 := L34.to_out h (de34 s1)
theorem ok34_of {s s1 : S34} {b : Bool} (h : L34.To s b s1) (hb : mdB 0 b = true) : ok34 s = true := h.ok L34 (m := 0) hb
theorem out34_of {s s1 : S34} {b : Bool} (h : L34.To s b s1) : out34 s = s1 := congrArg Prod.snd (h.end_ L34)
theorem ret34_of {s s1 : S34} {b : Bool} (h : L34.To s b s1) : ret34 s = b := congrArg Prod.fst (h.end_ L34)
noncomputable abbrev lp34 (_ : Nat) : LT := .sum keep34 f34s
theorem loop34 (s : S34) : evC (β := Ex × List AV × List Ob) Try.prog (spOf [t32]) (inlOf []) extD (cKD [t32] []) (lp34) (bodyOf Try.prog 34 0) ⟨mkF Try.f34.ntmps keep34 (vs34 s), hp34 s⟩ (fun e st => (cutBack keep34 2 st).map fun q => (e, q.1, q.2)) = rnd34 s := by kernel_rfl
theorem sum34 : LoopOkT Try.prog (spOf [t32]) (inlOf []) extD (cKD [t32] []) lp34 Try.f34.ntmps (bodyOf Try.prog 34 0) (.sum keep34 f34s) := by
  dsimp only [LoopOkT]
  exact ⟨by decide, by decide, sum_ls L34 0 L34_ok loop34⟩
def t34 : Ent := ⟨34, fun
  | [.agg [.int .i64 ti, .isz n [.int .i64, .int .i64, .int .i64, .str, .str, .int .i64, .int .i64, .int .i64, .row [.str, .str], .row [.int .i64, .int .i64]] y, .isz m [.int .i64] p], .agg [.int .i64 ti2, .isz n2 [.int .i64, .int .i64, .int .i64, .str, .str, .int .i64, .int .i64, .int .i64, .row [.str, .str], .row [.int .i64, .int .i64]] y2, .isz m2 [.int .i64] p2]] => .chk (decide (ti = ti2) && (Nat.beq m m2 && ((List.range m).all (fun i => decide ((p i 0).n = (p2 i 0).n)) && (Nat.ble m 1000000 && (Nat.ble n 1000000 && erB n y n2 y2))))) (.leaf (.ret (.bool true)))
  | _ => .non⟩
structure S9 where
  n : Nat
  x : Nat → Nat → Dt
  z : Bool
  v : Nat
  k : Nat
  sw : Nat → Nat → Dt
  l : Int
  i : Int
  n2 : Nat
  x2 : Nat → Nat → Dt
abbrev keep9 : List Nat := [0, 4, 5, 33, 34, 35]
abbrev vs9 (s : S9) : List AV := [.isz s.n SS s.x, .bool s.z, .own 0 k0 s.v, .isz s.k [.int .u8] s.sw, .int .i64 s.l, .int .i64 s.i]
abbrev hp9 (s : S9) : List Ob := [.own 25 SS s.n2 s.x2]
noncomputable def dec9 : List AV → List Ob → Option S9
  | [.isz n [.int .i64, .int .i64, .int .i64, .str, .str, .int .i64, .int .i64, .int .i64, .row [.str, .str], .row [.int .i64, .int .i64]] x, .bool z, .own 0 (.int 0) v, .isz k [.int .u8] sw, .int .i64 l, .int .i64 i], [.own 25 [.int .i64, .int .i64, .int .i64, .str, .str, .int .i64, .int .i64, .int .i64, .row [.str, .str], .row [.int .i64, .int .i64]] n2 x2] => some ⟨n, x, z, v, k, sw, l, i, n2, x2⟩
  | _, _ => none
noncomputable def rnd9 (s : S9) : Option (Ex × List AV × List Ob) :=
  bif decide (s.i < s.l) then bif decide (0 ≤ s.i) && decide (s.i < (s.k : Int)) then bif s.n2.beq s.v then bif !decide ((s.v : Int) = 0) then bif s.n2.beq s.v then bif !decide ((s.v : Int) = 0) then bif decide (0 ≤ (IntKind.i64.wrap (s.sw s.i.toNat 0).n).tmod (s.v : Int)) && decide ((IntKind.i64.wrap (s.sw s.i.toNat 0).n).tmod (s.v : Int) < (s.v : Int)) then bif s.n2.beq s.v then bif s.n2.beq s.v && ((IntKind.i64.wrap (s.sw s.i.toNat 0).n).tmod (s.v : Int)).toNat.blt s.n2 then bif decide (0 ≤ s.i.tmod (s.v : Int)) && decide (s.i.tmod (s.v : Int) < (s.v : Int)) then bif s.n2.beq s.v then bif s.n2.beq s.v && (s.i.tmod (s.v : Int)).toNat.blt s.n2 then bif decide (0 ≤ s.i.tmod (s.v : Int)) && decide (s.i.tmod (s.v : Int) < (s.v : Int)) then bif s.n2.beq s.v then bif s.n2.beq s.v && (s.i.tmod (s.v : Int)).toNat.blt s.n2 then bif decide (0 ≤ (IntKind.i64.wrap (s.sw s.i.toNat 0).n).tmod (s.v : Int)) && decide ((IntKind.i64.wrap (s.sw s.i.toNat 0).n).tmod (s.v : Int) < (s.v : Int)) then bif s.n2.beq s.v then bif s.n2.beq s.v && ((IntKind.i64.wrap (s.sw s.i.toNat 0).n).tmod (s.v : Int)).toNat.blt s.n2 then some (.normal, [.isz s.n SS s.x, .bool s.z, .own 0 k0 s.v, .isz s.k [.int .u8] s.sw, .int .i64 s.l, .int .i64 (IntKind.i64.wrap (s.i + 1))], [.own 25 SS s.n2 (setEl (setEl s.x2 (s.i.tmod (s.v : Int)).toNat 0 [Dt.int (s.x2 ((IntKind.i64.wrap (s.sw s.i.toNat 0).n).tmod (s.v : Int)).toNat 0).n, Dt.int (s.x2 ((IntKind.i64.wrap (s.sw s.i.toNat 0).n).tmod (s.v : Int)).toNat 1).n, Dt.int (s.x2 ((IntKind.i64.wrap (s.sw s.i.toNat 0).n).tmod (s.v : Int)).toNat 2).n, Dt.str (s.x2 ((IntKind.i64.wrap (s.sw s.i.toNat 0).n).tmod (s.v : Int)).toNat 3).s, Dt.str (s.x2 ((IntKind.i64.wrap (s.sw s.i.toNat 0).n).tmod (s.v : Int)).toNat 4).s, Dt.int (s.x2 ((IntKind.i64.wrap (s.sw s.i.toNat 0).n).tmod (s.v : Int)).toNat 5).n, Dt.int (s.x2 ((IntKind.i64.wrap (s.sw s.i.toNat 0).n).tmod (s.v : Int)).toNat 6).n, Dt.int (s.x2 ((IntKind.i64.wrap (s.sw s.i.toNat 0).n).tmod (s.v : Int)).toNat 7).n, Dt.row (s.x2 ((IntKind.i64.wrap (s.sw s.i.toNat 0).n).tmod (s.v : Int)).toNat 8).len (s.x2 ((IntKind.i64.wrap (s.sw s.i.toNat 0).n).tmod (s.v : Int)).toNat 8).el, Dt.row (s.x2 ((IntKind.i64.wrap (s.sw s.i.toNat 0).n).tmod (s.v : Int)).toNat 9).len (s.x2 ((IntKind.i64.wrap (s.sw s.i.toNat 0).n).tmod (s.v : Int)).toNat 9).el]) ((IntKind.i64.wrap (s.sw s.i.toNat 0).n).tmod (s.v : Int)).toNat 0 [Dt.int (s.x2 (s.i.tmod (s.v : Int)).toNat 0).n, Dt.int (s.x2 (s.i.tmod (s.v : Int)).toNat 1).n, Dt.int (s.x2 (s.i.tmod (s.v : Int)).toNat 2).n, Dt.str (s.x2 (s.i.tmod (s.v : Int)).toNat 3).s, Dt.str (s.x2 (s.i.tmod (s.v : Int)).toNat 4).s, Dt.int (s.x2 (s.i.tmod (s.v : Int)).toNat 5).n, Dt.int (s.x2 (s.i.tmod (s.v : Int)).toNat 6).n, Dt.int (s.x2 (s.i.tmod (s.v : Int)).toNat 7).n, Dt.row (s.x2 (s.i.tmod (s.v : Int)).toNat 8).len (s.x2 (s.i.tmod (s.v : Int)).toNat 8).el, Dt.row (s.x2 (s.i.tmod (s.v : Int)).toNat 9).len (s.x2 (s.i.tmod (s.v : Int)).toNat 9).el])]) else none else none else none else none else none else none else none else none else none else none else none else none else none else none else none else none else none else some (.exit 0, [.isz s.n SS s.x, .bool s.z, .own 0 k0 s.v, .isz s.k [.int .u8] s.sw, .int .i64 s.l, .int .i64 s.i], [.own 25 SS s.n2 s.x2])
noncomputable def L9 : Ls S9 := ⟨0, dec9, vs9, hp9, rnd9⟩
theorem L9_ok : L9.Ok := fun vs H s h => by
  have h : dec9 vs H = some s := h
  unfold dec9 at h
  split at h
  · obtain rfl := Option.some.inj h
    exact ⟨rfl, rfl⟩
  · cases h
noncomputable def ok9 (s : S9) : Bool := L9.ok 0 s
noncomputable def out9 (s : S9) : S9 := (L9.end_ s).2
noncomputable def ret9 (s : S9) : Bool := (L9.end_ s).1
noncomputable def fin9 (s : S9) : Tr (Ex × List AV × List Ob) := .leaf (.exit 0, vs9 (out9 s), hp9 (out9 s))
noncomputable abbrev f9s : List AV → List Ob → Tr (Ex × List AV × List Ob) := stF dec9 ok9 fin9
theorem de9 (c : S9) : L9.dec (L9.vs c) (L9.hp c) = some c := by kernel_rfl
theorem on9 {s s1 s2 : S9} {b : Bool} (h : rnd9 s = some (.normal, vs9 s1, hp9 s1)) (h2 : L9.To s1 b s2) : L9.To s b s2 := L9.to_on h (de9 s1) h2
theorem ot9 {s s1 : S9} (h : rnd9 s = some (.exit 0, vs9 s1, hp9 s1)) : L9.To s false s1 := L9.to_out h (de9 s1)
theorem ok9_of {s s1 : S9} {b : Bool} (h : L9.To s b s1) (hb : mdB 0 b = true) : ok9 s = true := h.ok L9 (m := 0) hb
theorem out9_of {s s1 : S9} {b : Bool} (h : L9.To s b s1) : out9 s = s1 := congrArg Prod.snd (h.end_ L9)
theorem ret9_of {s s1 : S9} {b : Bool} (h : L9.To s b s1) : ret9 s = b := congrArg Prod.fst (h.end_ L9)
noncomputable abbrev lp9 (i : Nat) : LT := bif Nat.beq i 1000010 then .ghost [.frz 5] else .sum keep9 f9s
theorem loop9 (s : S9) : evC (β := Ex × List AV × List Ob) Try.prog (spOf [t16, t17, t29, t31, t34, iAw]) (inlOf [33]) extD (cKH [t16, t17, t29, t31, t34, iAw] [33] [h33]) (lp9) (bodyOf Try.prog 9 0) ⟨mkF Try.f9.ntmps keep9 (vs9 s), hp9 s⟩ (fun e st => (cutBack keep9 1 st).map fun q => (e, q.1, q.2)) = rnd9 s := by kernel_rfl
theorem sum9 : LoopOkT Try.prog (spOf [t16, t17, t29, t31, t34, iAw]) (inlOf [33]) extD (cKH [t16, t17, t29, t31, t34, iAw] [33] [h33]) lp9 Try.f9.ntmps (bodyOf Try.prog 9 0) (.sum keep9 f9s) := by
  dsimp only [LoopOkT]
  exact ⟨by decide, by decide, sum_ls L9 0 L9_ok loop9⟩
end Go.Proofs.Ytfgniheefiefjaa

/- Spans in another order: the same tree, the same groups. Plain laws; no condition. -/
namespace Go.Proofs.Ytfgniheefiefjaa
open Go.Evl Go.RowKit
theorem perm_ord {R : Nat → Nat → Prop} : ∀ {l m : List Nat}, l.Perm m → l.Pairwise R → m.Pairwise R → (∀ a ∈ l, ∀ b ∈ l, a ≠ b → R a b → ¬ R b a) → l = m
  | [], m, h, _, _, _ => h.nil_eq
  | a :: l, [], h, _, _, _ => by have := h.length_eq; simp at this
  | a :: l, b :: m, h, h1, h2, hR => by
    rw [List.pairwise_cons] at h1 h2
    by_cases e : a = b
    · subst e
      rw [perm_ord ((List.perm_cons a).1 h) h1.2 h2.2 fun x hx y hy => hR x (List.mem_cons_of_mem _ hx) y (List.mem_cons_of_mem _ hy)]
    · exfalso
      have ha : a ∈ m := by
        have := h.mem_iff.1 (List.mem_cons_self (a := a) (l := l))
        rcases List.mem_cons.1 this with h3 | h3
        · exact absurd h3 e
        · exact h3
      have hb : b ∈ l := by
        have := h.mem_iff.2 (List.mem_cons_self (a := b) (l := m))
        rcases List.mem_cons.1 this with h3 | h3
        · exact absurd h3.symm e
        · exact h3
      exact hR a (List.mem_cons_self ..) b (List.mem_cons_of_mem _ hb) e (h1.1 b hb) (h2.1 a ha)
section
variable {n : Nat} {y y' : Nat → Nat → Dt}
theorem plF_congr : ∀ f i c mf, (∀ k, i ≤ k → k < i + f → (y k 1).n = (y' k 1).n) → plF y f i c mf = plF y' f i c mf
  | 0, _, _, _, _ => rfl
  | f + 1, i, c, mf, h => by
    simp only [plF]
    rw [h i (Nat.le_refl _) (by omega)]
    exact plF_congr f (i + 1) _ _ fun k h1 h2 => h k (by omega) (by omega)
theorem pfF_congr (mf : Ky → Option Dt) : ∀ f i pa, (∀ k, i ≤ k → k < i + f → (y k 2).n = (y' k 2).n) → pfF y mf f i pa = pfF y' mf f i pa
  | 0, _, _, _ => rfl
  | f + 1, i, pa, h => by
    simp only [pfF]
    rw [h i (Nat.le_refl _) (by omega)]
    exact pfF_congr mf f (i + 1) _ fun k h1 h2 => h k (by omega) (by omega)
theorem pcN_congr (h : ∀ i, i < n → vE y i = vE y' i) : p0N n y = p0N n y' ∧ pcN n y = pcN n y' := by
  have e : p0N n y = p0N n y' := by
    unfold p0N plN
    rw [plF_congr (y' := y') (n - 0) 0 0 _ fun k _ hk => (vE_cell (h k (by omega))).2.1]
    exact pfF_congr _ _ _ _ fun k _ hk => (vE_cell (h k (by omega))).2.2.1
  exact ⟨e, by unfold pcN; rw [e]⟩
theorem bfN_congr (h : ∀ i, i < n → vE y i = vE y' i) {a b : Nat} (ha : a < n) (hb : b < n) : bfN y a b ↔ bfN y' a b := by
  obtain ⟨_, a1, _, _, _, a5, _⟩ := vE_cell (h a ha)
  obtain ⟨_, b1, _, _, _, b5, _⟩ := vE_cell (h b hb)
  unfold bfN
  rw [a1, a5, b1, b5]
theorem olN_congr (h : ∀ i, i < n → vE y i = vE y' i) (hg : Good n y) : olN n y = olN n y' := by
  have hlt : ∀ k ∈ olN n y, k < n := fun k hk => List.mem_range.1 ((olN_perm n y).mem_iff.1 hk)
  refine perm_ord (R := fun a b => ¬ bfN y b a) ((olN_perm n y).trans (olN_perm n y').symm) (olN_pw n y) ?_ ?_
  · refine List.Pairwise.imp_of_mem ?_ (olN_pw n y')
    intro a b ha hb hab hba
    have ha' : a < n := List.mem_range.1 ((olN_perm n y').mem_iff.1 ha)
    have hb' : b < n := List.mem_range.1 ((olN_perm n y').mem_iff.1 hb)
    exact hab ((bfN_congr h hb' ha').1 hba)
  · intro a ha b hb hab h1 h2
    refine hab (id_inj hg (hlt a ha) (hlt b hb) ?_)
    unfold bfN at h1 h2
    omega
theorem enT_congr (h : ∀ i, i < n → vE y i = vE y' i) (hg : Good n y) : enT n y = enT n y' := by
  have e : chN n y = chN n y' := by
    funext J
    unfold chN
    rw [olN_congr h hg, (pcN_congr h).2]
  unfold enT
  rw [e]
theorem kE_congr (h : ∀ i, i < n → vE y i = vE y' i) (hg : Good n y) (i : Nat) : kE n y i = kE n y' i ∧ pE n y i = pE n y' i := by
  unfold kE pE
  rw [enT_congr h hg]
  exact ⟨rfl, rfl⟩
end
theorem caE_of {n : Nat} {x : Nat → Nat → Dt} (h : ∀ k, k < n → spE x k = 0) : caE n x = 0 := by
  unfold caE
  have : ∀ f i, i + f = n → scan (spG x) f i = none := by
    intro f
    induction f with
    | zero => intro i _; rfl
    | succ f ih =>
      intro i hi
      simp only [scan, spG]
      rw [if_pos (h i (by omega))]
      exact ih (i + 1) (by omega)
  rw [this n 0 (by omega)]
  rfl
theorem neF_of {y : Nat → Nat → Dt} {t : Int} : ∀ (f i : Nat), (∀ k, i ≤ k → k < i + f → (y k 0).n = t) → neF y t f i = i + f
  | 0, i, _ => rfl
  | f + 1, i, h => by
    unfold neF
    rw [h i (Nat.le_refl _) (by omega), bne_self_eq_false, cond_false, neF_of f (i + 1) fun k h1 h2 => h k (by omega) (by omega)]
    omega
/-- spans that make a tree -/
def GdX (n : Nat) (x : Nat → Nat → Dt) : Prop := 1 ≤ n ∧ (∀ k, k < n → spE x k = 0) ∧ (∀ k, k < n → (x k 0).n = (x 0 0).n) ∧ dsL n x
theorem bdE_iff {n : Nat} {x : Nat → Nat → Dt} : bdE n x = 0 ↔ GdX n x := by
  constructor
  · intro h
    obtain ⟨h1, h2, h3, h4⟩ := good_of h
    exact ⟨h1.one, h3, h4, h2⟩
  · rintro ⟨h1, h2, h3, h4⟩
    unfold bdE
    rw [show Nat.beq n 0 = false from by cases n with | zero => omega | succ n => rfl, cond_false, caE_of h2]
    rw [neF_of n 0 fun k _ hk => h3 k (by omega), Nat.zero_add, Nat.beq_refl, (dfB_iff n x).2 h4]
    rfl
theorem row_of {n : Nat} {x x' : Nat → Nat → Dt} (hp : (toL n x').Perm (toL n x)) {k : Nat} (hk : k < n) : ∃ j, j < n ∧ vE x' k = vE x j := toL_mem.1 (hp.mem_iff.1 (toL_mem.2 ⟨k, hk, rfl⟩))
theorem sp_perm {n : Nat} {x x' : Nat → Nat → Dt} (hp : (toL n x').Perm (toL n x)) (h : ∀ k, k < n → spE x k = 0) : ∀ k, k < n → spE x' k = 0 := fun k hk => by
  obtain ⟨j, hj, e⟩ := row_of hp hk
  rw [spE_vE e]; exact h j hj
theorem GdX_perm {n : Nat} {x x' : Nat → Nat → Dt} (hp : (toL n x').Perm (toL n x)) (h : GdX n x) : GdX n x' := by
  obtain ⟨h1, h2, h3, h4⟩ := h
  refine ⟨h1, sp_perm hp h2, fun k hk => ?_, (dsL_perm hp).2 h4⟩
  obtain ⟨j, hj, e⟩ := row_of hp hk
  obtain ⟨i, hi, e'⟩ := row_of hp (show 0 < n by omega)
  rw [(vE_cell e).1, (vE_cell e').1, h3 j hj, h3 i hi]
theorem so_alike {n : Nat} {x x' : Nat → Nat → Dt} (hp : (toL n x').Perm (toL n x)) (h : dsL n x) : ∀ i, i < n → vE (soF n x) i = vE (soF n x') i :=
  toL_eq (sorted_eq (soF_ok n x).1 (soF_ok n x').1 (((soF_ok n x).2.trans hp.symm).trans (soF_ok n x').2.symm) ((dsL_perm (soF_ok n x).2).2 h))
theorem vE_nmT (e : Nat → Dt) : nmE (nmT e) = nmE e := rfl
theorem caE_zero_iff {n : Nat} {x : Nat → Nat → Dt} : caE n x = 0 ↔ ∀ k, k < n → spE x k = 0 := ⟨caE_zero, caE_of⟩
theorem gpE_iff {n : Nat} {x : Nat → Nat → Dt} : gpE n x = 0 ↔ (∀ k, k < n → spE x k = 0) ∧ dsL n x := by
  unfold gpE
  rw [← caE_zero_iff, ← dfB_iff]
  by_cases h : caE n x = 0
  · rw [h]
    cases dfB n (soF n x) with
    | true => simp
    | false => simp
  · rw [show (caE n x != 0) = true from bne_iff_ne.2 h]
    simp [h]
/-- the guard of Same -/
noncomputable def saB (n : Nat) (x : Nat → Nat → Dt) (m : Nat) (x' : Nat → Nat → Dt) : Bool := decide (bdI n x = bdI m x') && (Nat.beq (bdN n x) (bdN m x') && ((List.range (bdN n x)).all (fun i => decide ((bdP n x i 0).n = (bdP m x' i 0).n)) && (Nat.ble (bdN n x) 1000000 && (Nat.ble (bdN n x) 1000000 && erB (bdN n x) (bdS n x) (bdN m x') (bdS m x')))))
theorem sa_true {n : Nat} {x x' : Nat → Nat → Dt} (hn : n ≤ 12) (hp : (toL n x').Perm (toL n x)) (hs : ∀ k, k < n → smV (vE x k)) : saB n x n x' = true := by
  unfold saB
  by_cases h : bdE n x = 0
  · have h' : bdE n x' = 0 := bdE_iff.2 (GdX_perm hp (bdE_iff.1 h))
    obtain ⟨a1, a2⟩ := trW_of hn h
    obtain ⟨b1, b2⟩ := trW_of hn h'
    have hg := (bdE_iff.1 h)
    have hal := so_alike hp hg.2.2.2
    have e0 : bdI n x = bdI n x' := by
      unfold bdI
      rw [h, h']
      obtain ⟨j, hj, e⟩ := row_of hp (show 0 < n from hg.1)
      show (x 0 0).n = (x' 0 0).n
      rw [(vE_cell e).1, hg.2.2.1 j hj]
    rw [a1, b1, e0, decide_eq_true rfl, Nat.beq_refl, Nat.ble_eq_true_of_le (by omega)]
    simp only [Bool.true_and, Bool.and_eq_true]
    refine ⟨List.all_eq_true.2 fun i hi => ?_, ?_⟩
    · have hi := List.mem_range.1 hi
      rw [a2.pa i hi, b2.pa i hi, (kE_congr hal a2.good i).2]
      exact decide_eq_true rfl
    · unfold erB
      rw [Nat.beq_refl, Bool.true_and]
      refine List.all_eq_true.2 fun i hi => ?_
      have hi := List.mem_range.1 hi
      have hk := kE_lt hn (y := soF n x) hi
      have e1 : vE (bdS n x) i = vE (soF n x) (kE n (soF n x) i) := by unfold vE; rw [a2.sp i hi, vE_nmT]
      have e2 : vE (bdS n x') i = vE (soF n x') (kE n (soF n x) i) := by unfold vE; rw [b2.sp i hi, vE_nmT, (kE_congr hal a2.good i).1]
      refine esG_of (by rw [e1, e2]; exact hal _ hk) ?_
      rw [e1]
      exact smV_perm (soF_ok n x).2 hs _ hk
  · have h' : bdE n x' ≠ 0 := fun z => h (bdE_iff.2 (GdX_perm hp.symm (bdE_iff.1 z)))
    have f1 : (bdE n x == 0) = false := beq_eq_false_iff_ne.2 h
    have f2 : (bdE n x' == 0) = false := beq_eq_false_iff_ne.2 h'
    unfold bdI bdN bdS bdP
    rw [f1, f2]
    rfl
theorem ga_true {n : Nat} {x x' : Nat → Nat → Dt} (hn : n ≤ 12) (hp : (toL n x').Perm (toL n x)) (hs : ∀ k, k < n → smV (vE x k)) : (gpE n x = 0 ↔ gpE n x' = 0) ∧ (Nat.ble (gpG n x).1 1000000 && gaB (gpG n x).1 (gpG n x).2 (gpG n x').1 (gpG n x').2) = true := by
  have hiff : gpE n x = 0 ↔ gpE n x' = 0 := by
    rw [gpE_iff, gpE_iff, dsL_perm hp]
    exact ⟨fun h => ⟨sp_perm hp h.1, h.2⟩, fun h => ⟨sp_perm hp.symm h.1, h.2⟩⟩
  refine ⟨hiff, ?_⟩
  have hc := gpG_cnt n x
  rw [Nat.ble_eq_true_of_le (by omega), Bool.true_and]
  by_cases h : gpE n x = 0
  · have h1 := gpE_iff.1 h
    have h2 := gpE_iff.1 (hiff.1 h)
    have e1 : gpG n x = grF n n (soF n x) 0 zeroEl := by
      unfold gpG
      rw [caE_of h1.1, (dfB_iff n x).2 h1.2]
      rfl
    have e2 : gpG n x' = grF n n (soF n x') 0 zeroEl := by
      unfold gpG
      rw [caE_of h2.1, (dfB_iff n x').2 h2.2]
      rfl
    rw [e1, e2]
    obtain ⟨a, b⟩ := grF_alike n n 0 (soF n x) (soF n x') zeroEl zeroEl (by omega) (fun i hi => ⟨so_alike hp h1.2 i hi, smV_perm (soF_ok n x).2 hs i hi⟩) (fun k hk => by cases hk)
    rw [← a]
    exact GA_gaB b
  · have e : ∀ z : Nat → Nat → Dt, gpE n z ≠ 0 → (gpG n z).1 = 0 := fun z hz => by
      unfold gpG
      cases hca : caE n z != 0 with
      | true => rfl
      | false =>
        cases hd : dfB n (soF n z) with
        | false => rfl
        | true =>
          exfalso
          refine hz ?_
          unfold gpE
          rw [hca, hd]
          rfl
    rw [e x h, e x' fun z => h (hiff.2 z)]
    rfl
end Go.Proofs.Ytfgniheefiefjaa

/- SpantreeArrival's walk. Conditions: none beyond the context's. -/
namespace Go.Proofs.Ytfgniheefiefjaa
open Go.Evl Go.RowKit
theorem to34 {z : Bool} {ti : Int} {n : Nat} {y : Nat → Nat → Dt} {m : Nat} {p : Nat → Nat → Dt} {n2 : Nat} {y2 : Nat → Nat → Dt} {p2 : Nat → Nat → Dt} (hm : m ≤ 1000000) (h : ∀ i, i < m → (p i 0).n = (p2 i 0).n) : ∀ f i, i + f = m →
    L34.To ⟨z, (i : Int), ti, n, y, m, p, ti, n2, y2, m, p2⟩ false ⟨z, (m : Int), ti, n, y, m, p, ti, n2, y2, m, p2⟩
  | 0, i, hi => by
    obtain rfl : i = m := by omega
    refine ot34 ?_
    simp only [rnd34]
    rw [condF (decide_eq_false (by omega))]
  | f + 1, i, hi => by
    have c1 : decide ((i : Int) < (m : Int)) = true := decide_eq_true (by omega)
    have c2 : (decide (0 ≤ (i : Int)) && decide ((i : Int) < (m : Int))) = true := by rw [c1, decide_eq_true (by omega)]; rfl
    refine on34 ?_ (to34 hm h f (i + 1) (by omega))
    simp only [rnd34, Int.toNat_natCast]
    rw [condT c1, condT c2, condT c2, condF (by rw [h i (by omega), bne_self_eq_false]), wrapI (by omega) (by omega)]
    rfl
theorem lx34 : (mkCx Try.prog (spOf [t32]) (inlOf []) extD).Ok InvD := cx_of [] (by kernel_rfl) (by
  intro p hp
  simp only [List.mem_cons, List.not_mem_nil, or_false] at hp
  rcases hp with rfl
  exact t32_ok)
theorem vt34 (ti : Int) (n : Nat) (y : Nat → Nat → Dt) (m : Nat) (p : Nat → Nat → Dt) (ti2 : Int) (n2 : Nat) (y2 : Nat → Nat → Dt) (m2 : Nat) (p2 : Nat → Nat → Dt) : evFn Try.prog (spOf [t32]) (inlOf []) extD (cKD [t32] []) lp34 Try.f34 [.agg [.int .i64 ti, .isz n SS y, .isz m [.int .i64] p], .agg [.int .i64 ti2, .isz n2 SS y2, .isz m2 [.int .i64] p2]] [] (fun r _ => some r) =
    (bif ti != ti2 then RB false else bif (m : Int) != (m2 : Int) then RB false else bif ok34 ⟨false, 0, ti, n, y, m, p, ti2, n2, y2, m2, p2⟩ then bif Nat.ble (out34 ⟨false, 0, ti, n, y, m, p, ti2, n2, y2, m2, p2⟩).n 1000000 && erB (out34 ⟨false, 0, ti, n, y, m, p, ti2, n2, y2, m2, p2⟩).n (out34 ⟨false, 0, ti, n, y, m, p, ti2, n2, y2, m2, p2⟩).y (out34 ⟨false, 0, ti, n, y, m, p, ti2, n2, y2, m2, p2⟩).n2 (out34 ⟨false, 0, ti, n, y, m, p, ti2, n2, y2, m2, p2⟩).y2 then RB true else none else none : Option Res) := by kernel_rfl
set_option maxRecDepth 10000 in
theorem t34_ok : SpecHolds Try.prog InvD 34 fun a => (t34.2 a).run := by
  refine specD lx34 Try.func34 (c := codeOf Try.prog 34) (by kernel_rfl) lp34 (fun p hp => by
    have hl : loops (codeOf Try.prog 34) = [(0, bodyOf Try.prog 34 0)] := by kernel_rfl
    rw [hl, List.mem_singleton] at hp
    subst hp
    exact sum34) fun args r hh => ?_
  unfold t34 at hh
  simp only at hh
  split at hh
  · rename_i ti n y m p ti2 n2 y2 m2 p2
    obtain ⟨hg, hh⟩ := chk_run hh
    refine ⟨by kernel_rfl, tr_ok (by rfl) hh, ?_⟩
    refine (vt34 ti n y m p ti2 n2 y2 m2 p2).trans (Eq.trans ?_ hh)
    simp only [Bool.and_eq_true, decide_eq_true_eq, Nat.beq_eq, List.all_eq_true, List.mem_range, Nat.ble_eq] at hg
    obtain ⟨rfl, rfl, h1, h2, h3, h4⟩ := hg
    have hto := to34 (z := false) (ti := ti) (n := n) (y := y) (n2 := n2) (y2 := y2) h2 h1 m 0 (by omega)
    rw [show ((0 : Nat) : Int) = 0 from rfl] at hto
    rw [condF (by rw [bne_self_eq_false]), condF (by rw [bne_self_eq_false]), condT (ok34_of hto rfl), out34_of hto, condT (by rw [Bool.and_eq_true]; exact ⟨Nat.ble_eq_true_of_le h3, h4⟩)]
    rfl
  · simp [Tr.run] at hh
/-- two spans exchanged -/
theorem vE_sw (el : Nat → Nat → Dt) (a b i : Nat) : vE (swE el a b) i = vE el (if i = b then a else if i = a then b else i) := by
  by_cases hab : a = b
  · subst hab
    unfold swE
    by_cases h : i = a
    · subst h
      rw [if_pos rfl]
      unfold vE setEl
      simp [nmE]
      and_intros <;> rfl
    · rw [if_neg h, if_neg h]
      have hb : Nat.beq i a = false := by
        cases e : Nat.beq i a with
        | false => rfl
        | true => exact absurd (Nat.eq_of_beq_eq_true e) h
      unfold vE setEl
      simp only [hb, Bool.false_and, cond_false]
  · rw [vE_swap el hab]
    by_cases h : i = b
    · rw [if_pos h, if_pos h]
    · rw [if_neg h, if_neg h]
      by_cases h2 : i = a
      · rw [if_pos h2, if_pos h2]
      · rw [if_neg h2, if_neg h2]
theorem toL_sw (el : Nat → Nat → Dt) {a b n : Nat} (ha : a < n) (hb : b < n) : (toL n (swE el a b)).Perm (toL n el) := by
  have e : toL n (swE el a b) = ((List.range n).map fun i => if i = b then a else if i = a then b else i).map (vE el) := by
    unfold toL
    rw [List.map_map]
    exact List.map_congr_left fun i _ => vE_sw el a b i
  rw [e]
  refine List.Perm.map _ ((List.perm_ext_iff_of_nodup ?_ List.nodup_range).2 fun k => ?_)
  · rw [List.Nodup, List.pairwise_map]
    refine List.Pairwise.imp ?_ (List.nodup_range (n := n))
    intro i j hij
    repeat' split
    all_goals omega
  · rw [List.mem_map, List.mem_range]
    constructor
    · rintro ⟨i, hi, rfl⟩
      have := List.mem_range.1 hi
      repeat' split
      all_goals omega
    · intro hk
      refine ⟨if k = b then a else if k = a then b else k, List.mem_range.2 ?_, ?_⟩
      · repeat' split
        all_goals omega
      · repeat' split
        all_goals omega
theorem to9 {z : Bool} {n : Nat} {x : Nat → Nat → Dt} {k : Nat} {sw : Nat → Nat → Dt} (hn : 0 < n) (hn2 : n ≤ 1000) (hk : k ≤ 1000) (hw : ∀ i, i < k → 0 ≤ (sw i 0).n ∧ (sw i 0).n ≤ 255) : ∀ f i x', i + f = k → (toL n x').Perm (toL n x) →
    ∃ s, s.n = n ∧ s.x = x ∧ s.n2 = n ∧ s.v = n ∧ (toL n s.x2).Perm (toL n x) ∧ L9.To ⟨n, x, z, n, k, sw, (k : Int), (i : Int), n, x'⟩ false s
  | 0, i, x', hi, hp => by
    obtain rfl : i = k := by omega
    refine ⟨⟨n, x, z, n, i, sw, (i : Int), (i : Int), n, x'⟩, rfl, rfl, rfl, rfl, hp, ot9 ?_⟩
    simp only [rnd9]
    rw [condF (decide_eq_false (by omega))]
  | f + 1, i, x', hi, hp => by
    obtain ⟨w1, w2⟩ := hw i (by omega)
    obtain ⟨a, ha⟩ : ∃ a : Nat, (sw i 0).n = (a : Int) := ⟨(sw i 0).n.toNat, by omega⟩
    have ea : IntKind.i64.wrap (sw i 0).n = (a : Int) := by rw [wrapI (by omega) (by omega), ha]
    have eb : ((a : Int)).tmod (n : Int) = ((a % n : Nat) : Int) := rfl
    have ec : ((i : Int)).tmod (n : Int) = ((i % n : Nat) : Int) := rfl
    have l1 : a % n < n := Nat.mod_lt _ hn
    have l2 : i % n < n := Nat.mod_lt _ hn
    obtain ⟨s, h1, h2, h3, h4, h5, hs⟩ := to9 (z := z) hn hn2 hk hw f (i + 1) (swE x' (i % n) (a % n)) (by omega) ((toL_sw x' l2 l1).trans hp)
    refine ⟨s, h1, h2, h3, h4, h5, on9 ?_ hs⟩
    have c0 : (n.beq n) = true := Nat.beq_refl n
    have c1 : (decide (0 ≤ ((a % n : Nat) : Int)) && decide (((a % n : Nat) : Int) < (n : Int))) = true := by rw [decide_eq_true (by omega), decide_eq_true (by omega)]; rfl
    have c2 : (decide (0 ≤ ((i % n : Nat) : Int)) && decide (((i % n : Nat) : Int) < (n : Int))) = true := by rw [decide_eq_true (by omega), decide_eq_true (by omega)]; rfl
    have c3 : (a % n).blt n = true := by rw [Nat.blt_eq]; exact l1
    have c4 : (i % n).blt n = true := by rw [Nat.blt_eq]; exact l2
    have c5 : (!decide ((n : Int) = 0)) = true := by rw [decide_eq_false (by omega)]; rfl
    have c6 : decide ((i : Int) < (k : Int)) = true := decide_eq_true (by omega)
    have c7 : decide (0 ≤ (i : Int)) = true := decide_eq_true (by omega)
    simp only [rnd9, Int.toNat_natCast, ea, eb, ec, c0, c1, c2, c3, c4, c5, c6, c7, Bool.true_and, Bool.and_true, Bool.and_self, cond_true]
    rw [wrapI (by omega) (by omega)]
    rfl
theorem lx9 : (mkCx Try.prog (spOf [t16, t17, t29, t31, t34, iAw]) (inlOf [33]) extD).Ok InvD := cx_of [33] (by kernel_rfl) (by
  intro p hp
  simp only [List.mem_cons, List.not_mem_nil, or_false] at hp
  rcases hp with rfl | rfl | rfl | rfl | rfl | rfl
  · exact t16_ok
  · exact t17_ok
  · exact t29_ok
  · exact t31_ok
  · exact t34_ok
  · exact iAw_ok)
noncomputable def s9i (n : Nat) (x : Nat → Nat → Dt) (k : Nat) (sw : Nat → Nat → Dt) : S9 := ⟨n, x, false, n, k, sw, (k : Int), 0, n, x⟩
noncomputable def la9c (n : Nat) (x : Nat → Nat → Dt) (m : Nat) (x' : Nat → Nat → Dt) : Option Res := bif (gpG n x).1.ble 1000000 && gaB (gpG n x).1 (gpG n x).2 (gpG m x').1 (gpG m x').2 then RB true else none
noncomputable def la9b (n : Nat) (x : Nat → Nat → Dt) (m : Nat) (x' : Nat → Nat → Dt) : Option Res := bif saB n x m x' then bif gpE n x == 0 then bif gpE m x' == 0 then la9c n x m x' else RB false else bif gpE m x' == 0 then RB false else la9c n x m x' else none
noncomputable def la9a (n : Nat) (x : Nat → Nat → Dt) (m : Nat) (x' : Nat → Nat → Dt) : Option Res := bif bdE n x == 0 then bif bdE m x' == 0 then la9b n x m x' else RB false else bif bdE m x' == 0 then RB false else la9b n x m x'
theorem lt9 (n : Nat) (x : Nat → Nat → Dt) (k : Nat) (sw : Nat → Nat → Dt) : (evFnT Try.prog (spOf [t16, t17, t29, t31, t34, iAw]) (inlOf [33]) extD (cKH [t16, t17, t29, t31, t34, iAw] [33] [h33]) lp9 Try.f9 [.isz n SS x, .isz k [.int .u8] sw] [] (castT .any)).run =
    (bif n.ble 9223372036854775807 && lnB n x then bif glB n x then RB true else bif (n : Int) == 0 then RB true else bif decide ((k : Int) > 20) then RB true else bif n.ble 1000000 then bif ok9 (s9i n x k sw) then bif (out9 (s9i n x k sw)).n2.beq (out9 (s9i n x k sw)).v && true then
      bif (out9 (s9i n x k sw)).n.ble 12 && (bdE (out9 (s9i n x k sw)).n (out9 (s9i n x k sw)).x != 0 || okB (out9 (s9i n x k sw)).n (out9 (s9i n x k sw)).x) then bif (out9 (s9i n x k sw)).n2.ble 12 && (bdE (out9 (s9i n x k sw)).n2 (out9 (s9i n x k sw)).x2 != 0 || okB (out9 (s9i n x k sw)).n2 (out9 (s9i n x k sw)).x2) then
      bif (out9 (s9i n x k sw)).n.ble 12 then bif (out9 (s9i n x k sw)).n2.ble 12 then la9a (out9 (s9i n x k sw)).n (out9 (s9i n x k sw)).x (out9 (s9i n x k sw)).n2 (out9 (s9i n x k sw)).x2 else none else none else none else none else none else none else none else none : Option Res) := by kernel_rfl
def okW (k : Nat) (sw : Nat → Nat → Dt) : Bool := (List.range k).all fun i => decide (0 ≤ (sw i 0).n) && decide ((sw i 0).n ≤ 255)
def l9 : Ent := ⟨9, fun
  | [.isz n [.int .i64, .int .i64, .int .i64, .str, .str, .int .i64, .int .i64, .int .i64, .row [.str, .str], .row [.int .i64, .int .i64]] x, .isz k [.int .u8] sw] => .chk (okL n x && okW k sw) (.leaf (.ret (.bool true)))
  | _ => .non⟩
theorem bd_guard {n : Nat} {x : Nat → Nat → Dt} (h12 : n ≤ 12) : (n.ble 12 && (bdE n x != 0 || okB n x)) = true := by
  rw [Nat.ble_eq_true_of_le h12, Bool.true_and]
  cases e : bdE n x != 0 with
  | true => rfl
  | false => rw [(okB_true h12 (by simpa using e)).1]; rfl
theorem law9 {n : Nat} {x x' : Nat → Nat → Dt} (hn : n ≤ 12) (hp : (toL n x').Perm (toL n x)) (hs : ∀ k, k < n → smV (vE x k)) : la9a n x n x' = RB true := by
  have h1 := sa_true hn hp hs
  obtain ⟨h2, h3⟩ := ga_true hn hp hs
  have h4 : bdE n x = 0 ↔ bdE n x' = 0 := by rw [bdE_iff, bdE_iff]; exact ⟨GdX_perm hp, GdX_perm hp.symm⟩
  have hc : la9c n x n x' = RB true := by unfold la9c; rw [condT h3]
  have hb : la9b n x n x' = RB true := by
    unfold la9b
    rw [condT h1, hc]
    by_cases e : gpE n x = 0
    · rw [condT (beq_iff_eq.2 e), condT (beq_iff_eq.2 (h2.1 e))]
    · rw [condF (beq_eq_false_iff_ne.2 e), condF (beq_eq_false_iff_ne.2 fun z => e (h2.2 z))]
  unfold la9a
  rw [hb]
  by_cases e : bdE n x = 0
  · rw [condT (beq_iff_eq.2 e), condT (beq_iff_eq.2 (h4.1 e))]
  · rw [condF (beq_eq_false_iff_ne.2 e), condF (beq_eq_false_iff_ne.2 fun z => e (h4.2 z))]
set_option maxRecDepth 10000 in
theorem l9_ok : SpecHolds Try.prog InvD 9 fun a => (l9.2 a).run := by
  refine specDHC lx9 (fun f s hf => by
    have hf : (f, s) = h33 := List.mem_singleton.1 hf
    have h1 : f = 33 := congrArg Prod.fst hf
    have h2 : s = h33.2 := congrArg Prod.snd hf
    subst h1 h2
    exact h33_ok) Try.func9 (c := codeOf Try.prog 9) (by kernel_rfl) lp9 (fun p hp => by
    have hl : loops (codeOf Try.prog 9) = [(0, bodyOf Try.prog 9 0)] := by kernel_rfl
    rw [hl, List.mem_singleton] at hp
    subst hp
    exact sum9) .any fun args r hh => ?_
  unfold l9 at hh
  simp only at hh
  split at hh
  · rename_i n x k sw
    obtain ⟨hg, hh⟩ := chk_run hh
    refine ⟨by kernel_rfl, ?_⟩
    refine (lt9 n x k sw).trans (Eq.trans ?_ hh)
    rw [Bool.and_eq_true] at hg
    obtain ⟨hg, hw⟩ := hg
    have hg' := hg
    unfold okL at hg'
    simp only [Bool.and_eq_true] at hg'
    rw [condT (by rw [hg'.1, hg'.2.1]; rfl)]
    cases hb : glB n x with
    | true => rfl
    | false =>
      have h12 := (gl_sm hb).1
      rw [cond_false]
      by_cases h0 : n = 0
      · rw [condT (by rw [beq_iff_eq]; omega)]; rfl
      · rw [condF (by rw [beq_eq_false_iff_ne]; omega)]
        by_cases hk : 20 < k
        · rw [condT (decide_eq_true (by omega))]; rfl
        · obtain ⟨s, e1, e2, e3, e4, e5, hs⟩ := to9 (z := false) (x := x) (k := k) (sw := sw) (show 0 < n by omega) (by omega) (by omega) (fun i hi => by
            have := List.all_eq_true.1 hw i (List.mem_range.2 hi)
            simpa using this) k 0 x (by omega) (List.Perm.refl _)
          rw [show ((0 : Nat) : Int) = 0 from rfl] at hs
          have ho : out9 (s9i n x k sw) = s := out9_of hs
          rw [condF (decide_eq_false (by omega)), condT (Nat.ble_eq_true_of_le (by omega)), condT (show ok9 (s9i n x k sw) = true from ok9_of hs rfl), ho, e1, e2, e3, e4, condT (by rw [Nat.beq_refl]; rfl), condT (bd_guard h12), condT (bd_guard h12), condT (Nat.ble_eq_true_of_le h12), condT (Nat.ble_eq_true_of_le h12), law9 h12 e5 (okL_ck hg hb).2]
          rfl
  · simp [Tr.run] at hh
end Go.Proofs.Ytfgniheefiefjaa

/- SpantreeArrival returns true for every input, and its arguments read as they did. No condition. -/
namespace Go.Proofs.Ytfgniheefiefjaa
open Go.ChangeShapes Go.WideShapes Go.ChangeAt Go.RowKit Go.Joins Go.Evl

section
variable {H : Type} {enc : TypeId × Value → H} {w : World} {base b0 : Nat} {spare : Nat → Bool} {held : Bool} {rc : Reach} {v : Value} {d : DataW H} {p : List MemPlace}
set_option maxRecDepth 100000 in
theorem spans_form (hv : Value.okWide Try.prog w rc b0 32 v) (h : DataW.Trod enc Try.prog w base spare held 32 v d p) : ∃ (n : Nat) (x : Nat → Nat → Dt), Rv (Nm.one 0 0) (fun b => b < w.heap.size) w None_ (.isz n SS x) v ∧ okL n x = true := by
  obtain ⟨y, hr, hok⟩ := arg_row (ρ := Nm.one 0 0) (d := 8) (s := SS) (show Try.prog.underlying 32 = some (.slice 25) by kernel_rfl) (by kernel_rfl) (by kernel_rfl) hv h
  refine ⟨y.len, y.el, hr, ?_⟩
  have h1 : y.len ≤ maxLen ∧ ∀ i, i < y.len → ∀ j s, SS[j]? = some s → dtOk 2 s (y.el i j) := hok 3
  unfold okL lnB
  rw [Nat.ble_eq_true_of_le (show y.len ≤ 9223372036854775807 from h1.1), Bool.true_and, Bool.and_eq_true]
  refine ⟨List.all_eq_true.2 fun k hk => ?_, List.all_eq_true.2 fun k hk => ?_⟩
  · have h8 : dtOk 2 (.row SL) (y.el k 8) := h1.2 k (List.mem_range.1 hk) 8 _ rfl
    exact Nat.ble_eq_true_of_le h8.1
  · rw [Bool.and_eq_true]
    have h0 : dtOk 2 (.int .i64) (y.el k 0) := h1.2 k (List.mem_range.1 hk) 0 _ rfl
    have h9 : dtOk 2 (.row SK) (y.el k 9) := h1.2 k (List.mem_range.1 hk) 9 _ rfl
    exact ⟨wf_inI h0, List.all_eq_true.2 fun i hi => wf_inI (h9.2 i (List.mem_range.1 hi) 0 _ rfl)⟩
theorem wf_u8 {n : Int} (h : (Lit.int .u8 n).wf = true) : 0 ≤ n ∧ n ≤ 255 := by
  simp only [Lit.wf, Bool.and_eq_true, decide_eq_true_eq] at h
  have e1 : IntKind.u8.min = 0 := rfl
  have e2 : IntKind.u8.max = 255 := rfl
  omega
set_option maxRecDepth 100000 in
theorem swaps_form (hv : Value.okWide Try.prog w rc b0 52 v) (h : DataW.Trod enc Try.prog w base spare held 52 v d p) : ∃ (k : Nat) (sw : Nat → Nat → Dt), Rv (Nm.one 0 0) (fun b => b < w.heap.size) w None_ (.isz k [.int .u8] sw) v ∧ okW k sw = true := by
  obtain ⟨y, hr, hok⟩ := arg_row (ρ := Nm.one 0 0) (d := 8) (s := [.int .u8]) (show Try.prog.underlying 52 = some (.slice 5) by kernel_rfl) (by kernel_rfl) (by kernel_rfl) hv h
  refine ⟨y.len, y.el, hr, ?_⟩
  have h1 : y.len ≤ maxLen ∧ ∀ i, i < y.len → ∀ j s, ([.int .u8] : List Sh)[j]? = some s → dtOk 2 s (y.el i j) := hok 3
  refine List.all_eq_true.2 fun i hi => ?_
  have h0 : dtOk 2 (.int .u8) (y.el i 0) := h1.2 i (List.mem_range.1 hi) 0 _ rfl
  have := wf_u8 h0
  rw [Bool.and_eq_true, decide_eq_true_eq, decide_eq_true_eq]
  exact this
end
set_option maxRecDepth 100000 in
theorem spantreeArrival_lifted (os : Os) (started : os.Started) (H : Type) (enc : TypeId × Value → H) :
    ReturnsInHanded {} Try.checked os 9 .any (Rows.spantreeArrivalSpec.pre6 enc Try.prog Try.f9 Rows.spantreeArrivalRow.domain false) (Rows.spantreeArrivalSpec.post enc Try.prog Try.f9 false true false false) := by
  refine returnsInHanded_of_change (C := Try.checked) own started (by kernel_rfl) Try.func9
    (ChangeSpec.witness6 (enc := enc) (C := Try.checked) false ⟨#[], #[.slice none 0 0, .slice none 0 0], []⟩ 9 (by kernel_rfl) (by kernel_rfl) (by kernel_rfl) (by kernel_rfl)) ?_
  intro W base args ds gs before hval0 hW _ _
  have hval : ∀ (j : Nat) t v, Try.f9.params[j]? = some t → args[j]? = some v → Value.okWide Try.prog W .any base t v := hval0
  have hW' := hW
  obtain ⟨p, q, hA0, hV, rfl, hfz, hnd⟩ := hW
  have hA : DataW.TrodAll enc Try.prog W 0 (fun _ => true) true Try.f9.params.toList args.toList ds p := hA0
  rw [Try.params9] at hA hval
  obtain ⟨u0, u1, d0, d1, p0, p1, rfl, rfl, rfl, h0, h1⟩ := trodAll_two hA
  obtain ⟨rfl, rfl⟩ := trodVars_none hV
  have hlt0 : ∀ x ∈ p0, x.block < W.heap.size := fun x hx => by simpa using hW'.lt x (by simp [hx])
  have hlt1 : ∀ x ∈ p1, x.block < W.heap.size := fun x hx => by simpa using hW'.lt x (by simp [hx])
  obtain ⟨n, x, rv0, g0⟩ := spans_form (hval 0 32 u0 rfl rfl) h0
  obtain ⟨k, sw, rv1, g1⟩ := swaps_form (hval 1 52 u1 rfl rfl) h1
  clear hA0 hval0
  have hrun : (l9.2 [.isz n SS x, .isz k [.int .u8] sw]).run = some (.ret (.bool true)) := by
    show (Tr.chk (okL n x && okW k sw) (Tr.leaf (Res.ret (AV.bool true)))).run = _
    rw [g0, g1]; rfl
  refine (l9_ok _ (.ret (.bool true)) hrun (Nm.one 0 0) (fun b => b < W.heap.size) W [u0, u1] (fun _ h => h) trivial (.cons rv0 (.cons rv1 .nil))).mono fun e W' ⟨hbel, u, he, hu⟩ => ?_
  subst he
  rw [hu.of_bool]
  refine ⟨_, rfl, _, _, _, [], p0 ++ p1, [], hW', ?_, ?_, rfl, hbel.frame _, fun h => by cases h⟩
  · exact trodAll_mk1 (shut_bool Try.underlying4 true)
  · exact trodAll_mk2 (below_trod (by kernel_rfl) (of_decide_eq_true (by kernel_rfl)) h0 hbel hlt0) (below_trod (by kernel_rfl) (of_decide_eq_true (by kernel_rfl)) h1 hbel hlt1)
theorem spantreeArrival_holds : Rows.SpantreeArrivalSaid :=
  OpenClaim.holds_of_wide 9 Try.f9 rfl rfl rfl rfl rfl rfl rfl ⟨rfl, rfl, rfl, rfl, rfl⟩ rfl rfl rfl rfl rfl (by kernel_rfl) Try.func9 (by kernel_rfl)
    (of_decide_eq_true (by kernel_rfl)) (by unfold Func.isWrapper; first | (rw [if_pos (by decide +kernel)]; kernel_rfl) | (rw [if_neg (by decide +kernel)]; exact ⟨rfl, rfl⟩))
    (fun os started H enc _ => spantreeArrival_lifted os started H enc)
#print axioms spantreeArrival_holds
end Go.Proofs.Ytfgniheefiefjaa
