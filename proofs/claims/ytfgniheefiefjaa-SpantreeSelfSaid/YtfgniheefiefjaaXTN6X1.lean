/- SpantreeSelf returns true for every input, and its arguments read as they did. No condition. -/
import Derived.Test.YtfgniheefiefjaaXCore8
/- Spans told apart: the loop. Conditions: none beyond the context's. -/
namespace Go.Proofs.Ytfgniheefiefjaa
open Go.Evl Go.RowKit
structure S27f where
  z : Bool
  i : Int
  t1 : Int
  a1 : Int
  p1 : Int
  v1 : ByteArray
  m1 : ByteArray
  b1 : Int
  c1 : Int
  s1 : Int
  n1 : Nat
  x1 : Nat → Nat → Dt
  l1 : Nat
  y1 : Nat → Nat → Dt
  t2 : Int
  a2 : Int
  p2 : Int
  v2 : ByteArray
  m2 : ByteArray
  b2 : Int
  c2 : Int
  s2 : Int
  n2 : Nat
  x2 : Nat → Nat → Dt
  l2 : Nat
  y2 : Nat → Nat → Dt
abbrev keep27f : List Nat := [2, 3, 4, 5]
abbrev vs27f (s : S27f) : List AV := [.ptr 0 0, .ptr 1 0, .bool s.z, .int .i64 s.i]
abbrev hp27f (s : S27f) : List Ob := [.cells [.int .i64 s.t1, .int .i64 s.a1, .int .i64 s.p1, .str s.v1, .str s.m1, .int .i64 s.b1, .int .i64 s.c1, .int .i64 s.s1, .isz s.n1 [.str, .str] s.x1, .isz s.l1 [.int .i64, .int .i64] s.y1] 25, .cells [.int .i64 s.t2, .int .i64 s.a2, .int .i64 s.p2, .str s.v2, .str s.m2, .int .i64 s.b2, .int .i64 s.c2, .int .i64 s.s2, .isz s.n2 [.str, .str] s.x2, .isz s.l2 [.int .i64, .int .i64] s.y2] 25]
noncomputable def dec27f : List AV → List Ob → Option S27f
  | [.ptr 0 0, .ptr 1 0, .bool z, .int .i64 i], [.cells [.int .i64 t1, .int .i64 a1, .int .i64 p1, .str v1, .str m1, .int .i64 b1, .int .i64 c1, .int .i64 s1, .isz n1 [.str, .str] x1, .isz l1 [.int .i64, .int .i64] y1] 25, .cells [.int .i64 t2, .int .i64 a2, .int .i64 p2, .str v2, .str m2, .int .i64 b2, .int .i64 c2, .int .i64 s2, .isz n2 [.str, .str] x2, .isz l2 [.int .i64, .int .i64] y2] 25] => some ⟨z, i, t1, a1, p1, v1, m1, b1, c1, s1, n1, x1, l1, y1, t2, a2, p2, v2, m2, b2, c2, s2, n2, x2, l2, y2⟩
  | _, _ => none
noncomputable def rnd27f (s : S27f) : Option (Ex × List AV × List Ob) :=
  bif decide (s.i < (s.l1 : Int)) then bif decide (0 ≤ s.i) && decide (s.i < (s.l1 : Int)) then bif decide (0 ≤ s.i) && decide (s.i < (s.l2 : Int)) then bif !((s.y1 s.i.toNat 0).n == (s.y2 s.i.toNat 0).n && ((s.y1 s.i.toNat 1).n == (s.y2 s.i.toNat 1).n && true)) then some (.ret, [.ptr 0 0, .ptr 1 0, .bool false, .int .i64 s.i], [.cells [.int .i64 s.t1, .int .i64 s.a1, .int .i64 s.p1, .str s.v1, .str s.m1, .int .i64 s.b1, .int .i64 s.c1, .int .i64 s.s1, .isz s.n1 [.str, .str] s.x1, .isz s.l1 [.int .i64, .int .i64] s.y1] 25, .cells [.int .i64 s.t2, .int .i64 s.a2, .int .i64 s.p2, .str s.v2, .str s.m2, .int .i64 s.b2, .int .i64 s.c2, .int .i64 s.s2, .isz s.n2 [.str, .str] s.x2, .isz s.l2 [.int .i64, .int .i64] s.y2] 25]) else some (.normal, [.ptr 0 0, .ptr 1 0, .bool s.z, .int .i64 (IntKind.i64.wrap (s.i + 1))], [.cells [.int .i64 s.t1, .int .i64 s.a1, .int .i64 s.p1, .str s.v1, .str s.m1, .int .i64 s.b1, .int .i64 s.c1, .int .i64 s.s1, .isz s.n1 [.str, .str] s.x1, .isz s.l1 [.int .i64, .int .i64] s.y1] 25, .cells [.int .i64 s.t2, .int .i64 s.a2, .int .i64 s.p2, .str s.v2, .str s.m2, .int .i64 s.b2, .int .i64 s.c2, .int .i64 s.s2, .isz s.n2 [.str, .str] s.x2, .isz s.l2 [.int .i64, .int .i64] s.y2] 25]) else none else none else some (.exit 0, [.ptr 0 0, .ptr 1 0, .bool s.z, .int .i64 s.i], [.cells [.int .i64 s.t1, .int .i64 s.a1, .int .i64 s.p1, .str s.v1, .str s.m1, .int .i64 s.b1, .int .i64 s.c1, .int .i64 s.s1, .isz s.n1 [.str, .str] s.x1, .isz s.l1 [.int .i64, .int .i64] s.y1] 25, .cells [.int .i64 s.t2, .int .i64 s.a2, .int .i64 s.p2, .str s.v2, .str s.m2, .int .i64 s.b2, .int .i64 s.c2, .int .i64 s.s2, .isz s.n2 [.str, .str] s.x2, .isz s.l2 [.int .i64, .int .i64] s.y2] 25])
noncomputable def L27f : Ls S27f := ⟨0, dec27f, vs27f, hp27f, rnd27f⟩
theorem L27f_ok : L27f.Ok := fun vs H s h => by
  have h : dec27f vs H = some s := h
  unfold dec27f at h
  split at h
  · obtain rfl := Option.some.inj h
    exact ⟨rfl, rfl⟩
  · cases h
noncomputable def ok27f (s : S27f) : Bool := L27f.ok 2 s
noncomputable def out27f (s : S27f) : S27f := (L27f.end_ s).2
noncomputable def ret27f (s : S27f) : Bool := (L27f.end_ s).1
noncomputable def fin27f (s : S27f) : Tr (Ex × List AV × List Ob) := .node (ret27f s) (.leaf (.ret, vs27f (out27f s), hp27f (out27f s))) (.leaf (.exit 0, vs27f (out27f s), hp27f (out27f s)))
noncomputable abbrev f27fs : List AV → List Ob → Tr (Ex × List AV × List Ob) := stF dec27f ok27f fin27f
theorem de27f (c : S27f) : L27f.dec (L27f.vs c) (L27f.hp c) = some c := by kernel_rfl
theorem on27f {s s1 s2 : S27f} {b : Bool} (h : rnd27f s = some (.normal, vs27f s1, hp27f s1)) (h2 : L27f.To s1 b s2) : L27f.To s b s2 := L27f.to_on h (de27f s1) h2
theorem ot27f {s s1 : S27f} (h : rnd27f s = some (.exit 0, vs27f s1, hp27f s1)) : L27f.To s false s1 := L27f.to_out h (de27f s1)
theorem rt27f {s s1 : S27f} (h : rnd27f s = some (.ret, vs27f s1, hp27f s1)) : L27f.To s true s1 := L27f.to_ret h (de27f s1)
theorem ok27f_of {s s1 : S27f} {b : Bool} (h : L27f.To s b s1) : ok27f s = true := h.ok L27f (m := 2) rfl
theorem out27f_of {s s1 : S27f} {b : Bool} (h : L27f.To s b s1) : out27f s = s1 := congrArg Prod.snd (h.end_ L27f)
theorem ret27f_of {s s1 : S27f} {b : Bool} (h : L27f.To s b s1) : ret27f s = b := congrArg Prod.fst (h.end_ L27f)
noncomputable abbrev lp27f (_ : Nat) : LT := .sum keep27f f27fs
theorem loop27f (s : S27f) : evC (β := Ex × List AV × List Ob) Try.prog (spOf [t15, t60]) (inlOf []) extD (cKD [t15, t60] []) (lp27f) (bodyOf Try.prog 27 0) ⟨mkF Try.f27.ntmps keep27f (vs27f s), hp27f s⟩ (fun e st => (cutBack keep27f 2 st).map fun q => (e, q.1, q.2)) = rnd27f s := by kernel_rfl
theorem sum27f : LoopOkT Try.prog (spOf [t15, t60]) (inlOf []) extD (cKD [t15, t60] []) lp27f Try.f27.ntmps (bodyOf Try.prog 27 0) (.sum keep27f f27fs) := by
  dsimp only [LoopOkT]
  exact ⟨by decide, by decide, sum_ls L27f 2 L27f_ok loop27f⟩
end Go.Proofs.Ytfgniheefiefjaa

/- A span's self time; spans that are too long: the loops. Conditions: none beyond the context's. -/
namespace Go.Proofs.Ytfgniheefiefjaa
open Go.Evl Go.RowKit
structure S59 where
  z : Int
  sf : Int
  at_ : Int
  n : Nat
  y : Nat → Nat → Dt
  l : Int
  i : Int
  t1 : Int
  a1 : Int
  p1 : Int
  v1 : ByteArray
  m1 : ByteArray
  b1 : Int
  c1 : Int
  s1 : Int
  n1 : Nat
  x1 : Nat → Nat → Dt
  l1 : Nat
  y1 : Nat → Nat → Dt
abbrev keep59 : List Nat := [2, 4, 5, 6, 11, 12, 13]
abbrev vs59 (s : S59) : List AV := [.ptr 0 0, .int .i64 s.z, .int .i64 s.sf, .int .i64 s.at_, .isz s.n SS s.y, .int .i64 s.l, .int .i64 s.i]
abbrev hp59 (s : S59) : List Ob := [.cells [.int .i64 s.t1, .int .i64 s.a1, .int .i64 s.p1, .str s.v1, .str s.m1, .int .i64 s.b1, .int .i64 s.c1, .int .i64 s.s1, .isz s.n1 [.str, .str] s.x1, .isz s.l1 [.int .i64, .int .i64] s.y1] 25]
noncomputable def dec59 : List AV → List Ob → Option S59
  | [.ptr 0 0, .int .i64 z, .int .i64 sf, .int .i64 at_, .isz n [.int .i64, .int .i64, .int .i64, .str, .str, .int .i64, .int .i64, .int .i64, .row [.str, .str], .row [.int .i64, .int .i64]] y, .int .i64 l, .int .i64 i], [.cells [.int .i64 t1, .int .i64 a1, .int .i64 p1, .str v1, .str m1, .int .i64 b1, .int .i64 c1, .int .i64 s1, .isz n1 [.str, .str] x1, .isz l1 [.int .i64, .int .i64] y1] 25] => some ⟨z, sf, at_, n, y, l, i, t1, a1, p1, v1, m1, b1, c1, s1, n1, x1, l1, y1⟩
  | _, _ => none
noncomputable def rnd59 (s : S59) : Option (Ex × List AV × List Ob) :=
  bif decide (s.i < s.l) then bif decide (0 ≤ s.i) && decide (s.i < (s.n : Int)) then bif decide ((s.y s.i.toNat 5).n ≥ s.c1) then some (.exit 0, [.ptr 0 0, .int .i64 s.z, .int .i64 s.sf, .int .i64 s.at_, .isz s.n SS s.y, .int .i64 s.l, .int .i64 s.i], [.cells [.int .i64 s.t1, .int .i64 s.a1, .int .i64 s.p1, .str s.v1, .str s.m1, .int .i64 s.b1, .int .i64 s.c1, .int .i64 s.s1, .isz s.n1 [.str, .str] s.x1, .isz s.l1 [.int .i64, .int .i64] s.y1] 25]) else bif decide ((s.y s.i.toNat 5).n > s.at_) then some (.normal, [.ptr 0 0, .int .i64 s.z, .int .i64 (IntKind.i64.wrap (s.sf + IntKind.i64.wrap ((s.y s.i.toNat 5).n - s.at_))), .int .i64 (bif decide ((s.y s.i.toNat 6).n > s.at_) then (s.y s.i.toNat 6).n else s.at_), .isz s.n SS s.y, .int .i64 s.l, .int .i64 (IntKind.i64.wrap (s.i + 1))], [.cells [.int .i64 s.t1, .int .i64 s.a1, .int .i64 s.p1, .str s.v1, .str s.m1, .int .i64 s.b1, .int .i64 s.c1, .int .i64 s.s1, .isz s.n1 [.str, .str] s.x1, .isz s.l1 [.int .i64, .int .i64] s.y1] 25]) else some (.normal, [.ptr 0 0, .int .i64 s.z, .int .i64 s.sf, .int .i64 (bif decide ((s.y s.i.toNat 6).n > s.at_) then (s.y s.i.toNat 6).n else s.at_), .isz s.n SS s.y, .int .i64 s.l, .int .i64 (IntKind.i64.wrap (s.i + 1))], [.cells [.int .i64 s.t1, .int .i64 s.a1, .int .i64 s.p1, .str s.v1, .str s.m1, .int .i64 s.b1, .int .i64 s.c1, .int .i64 s.s1, .isz s.n1 [.str, .str] s.x1, .isz s.l1 [.int .i64, .int .i64] s.y1] 25]) else none else some (.exit 0, [.ptr 0 0, .int .i64 s.z, .int .i64 s.sf, .int .i64 s.at_, .isz s.n SS s.y, .int .i64 s.l, .int .i64 s.i], [.cells [.int .i64 s.t1, .int .i64 s.a1, .int .i64 s.p1, .str s.v1, .str s.m1, .int .i64 s.b1, .int .i64 s.c1, .int .i64 s.s1, .isz s.n1 [.str, .str] s.x1, .isz s.l1 [.int .i64, .int .i64] s.y1] 25])
noncomputable def L59 : Ls S59 := ⟨0, dec59, vs59, hp59, rnd59⟩
theorem L59_ok : L59.Ok := fun vs H s h => by
  have h : dec59 vs H = some s := h
  unfold dec59 at h
  split at h
  · obtain rfl := Option.some.inj h
    exact ⟨rfl, rfl⟩
  · cases h
noncomputable def ok59 (s : S59) : Bool := L59.ok 0 s
noncomputable def out59 (s : S59) : S59 := (L59.end_ s).2
noncomputable def ret59 (s : S59) : Bool := (L59.end_ s).1
noncomputable def fin59 (s : S59) : Tr (Ex × List AV × List Ob) := .leaf (.exit 0, vs59 (out59 s), hp59 (out59 s))
noncomputable abbrev f59s : List AV → List Ob → Tr (Ex × List AV × List Ob) := stF dec59 ok59 fin59
theorem de59 (c : S59) : L59.dec (L59.vs c) (L59.hp c) = some c := by kernel_rfl
theorem on59 {s s1 s2 : S59} {b : Bool} (h : rnd59 s = some (.normal, vs59 s1, hp59 s1)) (h2 : L59.To s1 b s2) : L59.To s b s2 := L59.to_on h (de59 s1) h2
theorem ot59 {s s1 : S59} (h : rnd59 s = some (.exit 0, vs59 s1, hp59 s1)) : L59.To s false s1 := L59.to_out h (de59 s1)
theorem ok59_of {s s1 : S59} {b : Bool} (h : L59.To s b s1) (hb : mdB 0 b = true) : ok59 s = true := h.ok L59 (m := 0) hb
theorem out59_of {s s1 : S59} {b : Bool} (h : L59.To s b s1) : out59 s = s1 := congrArg Prod.snd (h.end_ L59)
theorem ret59_of {s s1 : S59} {b : Bool} (h : L59.To s b s1) : ret59 s = b := congrArg Prod.fst (h.end_ L59)
noncomputable abbrev lp59 (_ : Nat) : LT := .sum keep59 f59s
theorem loop59 (s : S59) : evC (β := Ex × List AV × List Ob) Try.prog (spOf []) (inlOf []) extD (cKD [] []) (lp59) (bodyOf Try.prog 59 0) ⟨mkF Try.f59.ntmps keep59 (vs59 s), hp59 s⟩ (fun e st => (cutBack keep59 1 st).map fun q => (e, q.1, q.2)) = rnd59 s := by kernel_rfl
theorem sum59 : LoopOkT Try.prog (spOf []) (inlOf []) extD (cKD [] []) lp59 Try.f59.ntmps (bodyOf Try.prog 59 0) (.sum keep59 f59s) := by
  dsimp only [LoopOkT]
  exact ⟨by decide, by decide, sum_ls L59 0 L59_ok loop59⟩
structure S21s where
  n : Nat
  x : Nat → Nat → Dt
  z : Int
  l : Int
  k : Int
abbrev keep21s : List Nat := [0, 1, 4, 7, 8]
abbrev vs21s (s : S21s) : List AV := [.isz s.n SS s.x, .fn (.func 24) [], .int .i64 s.z, .int .i64 s.l, .int .i64 s.k]
abbrev hp21s (s : S21s) : List Ob := []
noncomputable def dec21s : List AV → List Ob → Option S21s
  | [.isz n [.int .i64, .int .i64, .int .i64, .str, .str, .int .i64, .int .i64, .int .i64, .row [.str, .str], .row [.int .i64, .int .i64]] x, .fn (.func 24) [], .int .i64 z, .int .i64 l, .int .i64 k], [] => some ⟨n, x, z, l, k⟩
  | _, _ => none
noncomputable def rnd21s (s : S21s) : Option (Ex × List AV × List Ob) :=
  bif decide (s.k < s.l) then bif decide (0 ≤ s.k) && decide (s.k < (s.n : Int)) then bif decide ((s.x s.k.toNat 6).n > IntKind.i64.wrap ((s.x s.k.toNat 5).n + 300)) then some (.ret, [.isz s.n SS s.x, .fn (Fn.func 24) [], .int .i64 s.k, .int .i64 s.l, .int .i64 s.k], []) else bif decide ((s.x s.k.toNat 5).n > 1099511627776) then some (.ret, [.isz s.n SS s.x, .fn (Fn.func 24) [], .int .i64 s.k, .int .i64 s.l, .int .i64 s.k], []) else bif decide ((s.x s.k.toNat 5).n < 0) then some (.ret, [.isz s.n SS s.x, .fn (Fn.func 24) [], .int .i64 s.k, .int .i64 s.l, .int .i64 s.k], []) else some (.normal, [.isz s.n SS s.x, .fn (Fn.func 24) [], .int .i64 s.z, .int .i64 s.l, .int .i64 (IntKind.i64.wrap (s.k + 1))], []) else none else some (.exit 0, [.isz s.n SS s.x, .fn (Fn.func 24) [], .int .i64 s.z, .int .i64 s.l, .int .i64 s.k], [])
noncomputable def L21s : Ls S21s := ⟨0, dec21s, vs21s, hp21s, rnd21s⟩
theorem L21s_ok : L21s.Ok := fun vs H s h => by
  have h : dec21s vs H = some s := h
  unfold dec21s at h
  split at h
  · obtain rfl := Option.some.inj h
    exact ⟨rfl, rfl⟩
  · cases h
noncomputable def ok21s (s : S21s) : Bool := L21s.ok 2 s
noncomputable def out21s (s : S21s) : S21s := (L21s.end_ s).2
noncomputable def ret21s (s : S21s) : Bool := (L21s.end_ s).1
noncomputable def fin21s (s : S21s) : Tr (Ex × List AV × List Ob) := .node (ret21s s) (.leaf (.ret, vs21s (out21s s), hp21s (out21s s))) (.leaf (.exit 0, vs21s (out21s s), hp21s (out21s s)))
noncomputable abbrev f21ss : List AV → List Ob → Tr (Ex × List AV × List Ob) := stF dec21s ok21s fin21s
theorem de21s (c : S21s) : L21s.dec (L21s.vs c) (L21s.hp c) = some c := by kernel_rfl
theorem on21s {s s1 s2 : S21s} {b : Bool} (h : rnd21s s = some (.normal, vs21s s1, hp21s s1)) (h2 : L21s.To s1 b s2) : L21s.To s b s2 := L21s.to_on h (de21s s1) h2
theorem ot21s {s s1 : S21s} (h : rnd21s s = some (.exit 0, vs21s s1, hp21s s1)) : L21s.To s false s1 := L21s.to_out h (de21s s1)
theorem rt21s {s s1 : S21s} (h : rnd21s s = some (.ret, vs21s s1, hp21s s1)) : L21s.To s true s1 := L21s.to_ret h (de21s s1)
theorem ok21s_of {s s1 : S21s} {b : Bool} (h : L21s.To s b s1) : ok21s s = true := h.ok L21s (m := 2) rfl
theorem out21s_of {s s1 : S21s} {b : Bool} (h : L21s.To s b s1) : out21s s = s1 := congrArg Prod.snd (h.end_ L21s)
theorem ret21s_of {s s1 : S21s} {b : Bool} (h : L21s.To s b s1) : ret21s s = b := congrArg Prod.fst (h.end_ L21s)
noncomputable abbrev lp21s (_ : Nat) : LT := .sum keep21s f21ss
theorem loop21s (s : S21s) : evC (β := Ex × List AV × List Ob) Try.prog (spOf []) (inlOf [21, 24]) extD (cKD [] [21, 24]) (lp21s) (bodyOf Try.prog 21 0) ⟨mkF Try.f21.ntmps keep21s (vs21s s), hp21s s⟩ (fun e st => (cutBack keep21s 0 st).map fun q => (e, q.1, q.2)) = rnd21s s := by kernel_rfl
theorem sum21s : LoopOkT Try.prog (spOf []) (inlOf [21, 24]) extD (cKD [] [21, 24]) lp21s Try.f21.ntmps (bodyOf Try.prog 21 0) (.sum keep21s f21ss) := by
  dsimp only [LoopOkT]
  exact ⟨by decide, by decide, sum_ls L21s 2 L21s_ok loop21s⟩
end Go.Proofs.Ytfgniheefiefjaa

/- A span's self time; spans that are too long; spans' starts compared: contracts. Conditions: none beyond the context's. -/
namespace Go.Proofs.Ytfgniheefiefjaa
open Go.Evl Go.RowKit
/-- starts compared -/
def t58 : Ent := ⟨58, fun
  | [.agg [.int .i64 _, .int .i64 _, .int .i64 _, .str _, .str _, .int .i64 b1, .int .i64 _, .int .i64 _, .isz _ [.str, .str] _, .isz _ [.int .i64, .int .i64] _], .agg [.int .i64 _, .int .i64 _, .int .i64 _, .str _, .str _, .int .i64 b2, .int .i64 _, .int .i64 _, .isz _ [.str, .str] _, .isz _ [.int .i64, .int .i64] _]] => .leaf (.ret (.int .i64 (cmI b1 b2)))
  | _ => .non⟩
theorem vt58 (t1 : Int) (a1 : Int) (p1 : Int) (v1 : ByteArray) (m1 : ByteArray) (b1 : Int) (c1 : Int) (s1 : Int) (n1 : Nat) (x1 : Nat → Nat → Dt) (l1 : Nat) (y1 : Nat → Nat → Dt) (t2 : Int) (a2 : Int) (p2 : Int) (v2 : ByteArray) (m2 : ByteArray) (b2 : Int) (c2 : Int) (s2 : Int) (n2 : Nat) (x2 : Nat → Nat → Dt) (l2 : Nat) (y2 : Nat → Nat → Dt) : evFn Try.prog (spOf [t51]) (inlOf []) extD (cKD [t51] []) (fun _ => .unroll 0) Try.f58 [.agg [.int .i64 t1, .int .i64 a1, .int .i64 p1, .str v1, .str m1, .int .i64 b1, .int .i64 c1, .int .i64 s1, .isz n1 [.str, .str] x1, .isz l1 [.int .i64, .int .i64] y1], .agg [.int .i64 t2, .int .i64 a2, .int .i64 p2, .str v2, .str m2, .int .i64 b2, .int .i64 c2, .int .i64 s2, .isz n2 [.str, .str] x2, .isz l2 [.int .i64, .int .i64] y2]] [] (fun r _ => some r) = some (.ret (.int .i64 (cmI b1 b2))) := by kernel_rfl
theorem lx58 : (mkCx Try.prog (spOf [t51]) (inlOf []) extD).Ok InvD := cx_of [] (by kernel_rfl) (by
  intro p hp
  simp only [List.mem_cons, List.not_mem_nil, or_false] at hp
  rcases hp with rfl
  exact t51_ok)
set_option maxRecDepth 10000 in
theorem t58_ok : SpecHolds Try.prog InvD 58 fun a => (t58.2 a).run := by
  refine specD lx58 Try.func58 (c := codeOf Try.prog 58) (by kernel_rfl) (fun _ => .unroll 0) (fun _ _ => trivial) fun args r hh => ?_
  unfold t58 at hh
  simp only at hh
  split at hh
  · rename_i t1 a1 p1 v1 m1 b1 c1 s1 n1 x1 l1 y1 t2 a2 p2 v2 m2 b2 c2 s2 n2 x2 l2 y2
    exact ⟨by kernel_rfl, tr_ok (by rfl) hh, (vt58 t1 a1 p1 v1 m1 b1 c1 s1 n1 x1 l1 y1 t2 a2 p2 v2 m2 b2 c2 s2 n2 x2 l2 y2).trans hh⟩
  · simp [Tr.run] at hh
/-- a span too long, or out of the times -/
def lgG (x : Nat → Nat → Dt) (k : Nat) : Option Unit := if (x k 6).n > IntKind.i64.wrap ((x k 5).n + 300) ∨ (x k 5).n > 1099511627776 ∨ (x k 5).n < 0 then some () else none
def lgB (n : Nat) (x : Nat → Nat → Dt) : Bool := (scan (lgG x) n 0).isSome
theorem to21s {n : Nat} {x : Nat → Nat → Dt} (hn : n ≤ 1000) : ∀ f k z, k + f = n → match scan (lgG x) f k with
    | some (_, j) => ∃ s, s.z = (j : Int) ∧ L21s.To ⟨n, x, z, (n : Int), (k : Int)⟩ true s
    | none => ∃ s, L21s.To ⟨n, x, z, (n : Int), (k : Int)⟩ false s
  | 0, k, z, hk => by
    simp only [scan]
    refine ⟨⟨n, x, z, (n : Int), (k : Int)⟩, ot21s ?_⟩
    simp only [rnd21s, Int.toNat_natCast]
    rw [condF (decide_eq_false (by omega))]
  | f + 1, k, z, hk => by
    have hc1 : decide ((k : Int) < (n : Int)) = true := decide_eq_true (by omega)
    have hc2 : (decide (0 ≤ (k : Int)) && decide ((k : Int) < (n : Int))) = true := by rw [hc1, decide_eq_true (by omega)]; rfl
    have w1 : IntKind.i64.wrap ((k : Int) + 1) = ((k + 1 : Nat) : Int) := by rw [wrapI (by omega) (by omega)]; omega
    simp only [scan]
    by_cases h : (x k 6).n > IntKind.i64.wrap ((x k 5).n + 300) ∨ (x k 5).n > 1099511627776 ∨ (x k 5).n < 0
    · rw [show lgG x k = some () from if_pos h]
      refine ⟨⟨n, x, (k : Int), (n : Int), (k : Int)⟩, rfl, rt21s ?_⟩
      simp only [rnd21s, Int.toNat_natCast]
      rw [condT hc1, condT hc2]
      by_cases h1 : (x k 6).n > IntKind.i64.wrap ((x k 5).n + 300)
      · rw [condT (decide_eq_true h1)]
      · rw [condF (decide_eq_false h1)]
        by_cases h2 : (x k 5).n > 1099511627776
        · rw [condT (decide_eq_true h2)]
        · rw [condF (decide_eq_false h2), condT (decide_eq_true (by omega))]
    · rw [show lgG x k = none from if_neg h]
      simp only [not_or] at h
      have ih := to21s (x := x) hn f (k + 1) z (by omega)
      have hr : rnd21s ⟨n, x, z, (n : Int), (k : Int)⟩ = some (.normal, vs21s ⟨n, x, z, (n : Int), ((k + 1 : Nat) : Int)⟩, hp21s ⟨n, x, z, (n : Int), ((k + 1 : Nat) : Int)⟩) := by
        simp only [rnd21s, Int.toNat_natCast]
        rw [condT hc1, condT hc2, condF (decide_eq_false h.1), condF (decide_eq_false h.2.1), condF (decide_eq_false h.2.2), w1]
      dsimp only
      cases e : scan (lgG x) f (k + 1) with
      | none =>
        rw [e] at ih
        obtain ⟨s, hs⟩ := ih
        exact ⟨s, on21s hr hs⟩
      | some q =>
        rw [e] at ih
        obtain ⟨s, h1, hs⟩ := ih
        exact ⟨s, h1, on21s hr hs⟩
def t23s : Ent := ⟨23, fun
  | [.isz n [.int .i64, .int .i64, .int .i64, .str, .str, .int .i64, .int .i64, .int .i64, .row [.str, .str], .row [.int .i64, .int .i64]] x, .fn (.func 24) []] => .chk (Nat.ble n 1000) (.leaf (.ret (.bool (lgB n x))))
  | _ => .non⟩
theorem vt23s (n : Nat) (x : Nat → Nat → Dt) : evFn Try.prog (spOf []) (inlOf [21, 24]) extD (cKL [] [21, 24] [(21, lp21s)]) (fun _ => .unroll 0) Try.f23 [.isz n SS x, .fn (.func 24) []] [] (fun r _ => some r) =
    (bif ok21s ⟨n, x, 0, (n : Int), 0⟩ then bif ret21s ⟨n, x, 0, (n : Int), 0⟩ then bif decide ((out21s ⟨n, x, 0, (n : Int), 0⟩).z ≥ 0) then RB true else RB false else RB false else none : Option Res) := by kernel_rfl
theorem lx23s : (mkCx Try.prog (spOf []) (inlOf [21, 24]) extD).Ok InvD := cx_of [21, 24] (by kernel_rfl) (fun p hp => by cases hp)
set_option maxRecDepth 10000 in
theorem lps23s : LpsOk (mkCx Try.prog (spOf []) (inlOf [21, 24]) extD) (callN (mkCx Try.prog (spOf []) (inlOf [21, 24]) extD) attD uD 20) [(21, lp21s)] := by
  refine lps_one (cK := cKD [] [21, 24]) (fun {β} => callK_eq (β := β) Try.prog (spOf []) (inlOf [21, 24]) extD attD uD 20) Try.func21 (c := codeOf Try.prog 21) (by kernel_rfl) fun p hp => ?_
  have hl : loops (codeOf Try.prog 21) = [(0, bodyOf Try.prog 21 0)] := by kernel_rfl
  rw [hl, List.mem_singleton] at hp
  subst hp
  exact sum21s
set_option maxRecDepth 10000 in
theorem t23s_ok : SpecHolds Try.prog InvD 23 fun a => (t23s.2 a).run := by
  refine specDL lx23s lps23s Try.func23 (c := codeOf Try.prog 23) (by kernel_rfl) (fun _ => .unroll 0) (fun _ _ => trivial) fun args r hh => ?_
  unfold t23s at hh
  simp only at hh
  split at hh
  · rename_i n x
    obtain ⟨hg, hh⟩ := chk_run hh
    refine ⟨by kernel_rfl, tr_ok (by rfl) hh, ?_⟩
    refine (vt23s n x).trans (Eq.trans ?_ hh)
    rw [Nat.ble_eq] at hg
    have h := to21s (x := x) hg n 0 0 (by omega)
    rw [show ((0 : Nat) : Int) = 0 from rfl] at h
    unfold lgB
    cases e : scan (lgG x) n 0 with
    | none =>
      rw [e] at h
      obtain ⟨s, hs⟩ := h
      rw [condT (ok21s_of hs), condF (ret21s_of hs)]
      rfl
    | some q =>
      rw [e] at h
      obtain ⟨s, h1, hs⟩ := h
      have ho := out21s_of hs
      rw [condT (ok21s_of hs), condT (ret21s_of hs), condT (decide_eq_true (by rw [ho, h1]; omega))]
      rfl
  · simp [Tr.run] at hh
/-- the time at which a span is active, and none of its children, which are in the order of their starts -/
def sfF (y : Nat → Nat → Dt) (e : Int) : Nat → Nat → Int → Int → Int × Int
  | 0, _, sf, a => (sf, a)
  | f + 1, i, sf, a => if (y i 5).n ≥ e then (sf, a) else sfF y e f (i + 1) (if (y i 5).n > a then sf + ((y i 5).n - a) else sf) (if (y i 6).n > a then (y i 6).n else a)
def sfI (n : Nat) (y : Nat → Nat → Dt) (b e : Int) : Int := if (sfF y e n 0 0 b).2 < e then (sfF y e n 0 0 b).1 + (e - (sfF y e n 0 0 b).2) else (sfF y e n 0 0 b).1
/-- times that stay in their bounds -/
def tmB0 (n : Nat) (y : Nat → Nat → Dt) (b e : Int) : Bool := Nat.ble n 1000 && (decide (0 ≤ b) && (decide (b ≤ 1000000000000000) && (decide (0 ≤ e) && (decide (e ≤ 1000000000000000) && (List.range n).all fun i => decide (0 ≤ (y i 5).n) && (decide ((y i 5).n ≤ 1000000000000000) && (decide (0 ≤ (y i 6).n) && decide ((y i 6).n ≤ 1000000000000000)))))))
set_option maxRecDepth 10000 in
theorem to59 {z : Int} {n : Nat} {y : Nat → Nat → Dt} {t1 : Int} {a1 : Int} {p1 : Int} {v1 : ByteArray} {m1 : ByteArray} {b1 : Int} {c1 : Int} {s1 : Int} {n1 : Nat} {x1 : Nat → Nat → Dt} {l1 : Nat} {y1 : Nat → Nat → Dt} (hn : n ≤ 1000) (hy : ∀ i, i < n → 0 ≤ (y i 5).n ∧ (y i 5).n ≤ 1000000000000000 ∧ 0 ≤ (y i 6).n ∧ (y i 6).n ≤ 1000000000000000) : ∀ f i (sf a : Int), i + f = n → 0 ≤ a → a ≤ 1000000000000000 → 0 ≤ sf → sf ≤ (i : Int) * 1000000000000000 →
    (∃ s, L59.To ⟨z, sf, a, n, y, (n : Int), (i : Int), t1, a1, p1, v1, m1, b1, c1, s1, n1, x1, l1, y1⟩ false s ∧ s.sf = (sfF y c1 f i sf a).1 ∧ s.at_ = (sfF y c1 f i sf a).2 ∧ s.c1 = c1) ∧ 0 ≤ (sfF y c1 f i sf a).2 ∧ (sfF y c1 f i sf a).2 ≤ 1000000000000000 ∧ 0 ≤ (sfF y c1 f i sf a).1 ∧ (sfF y c1 f i sf a).1 ≤ (n : Int) * 1000000000000000 := by
  intro f
  induction f with
  | zero =>
    intro i sf a hi h1 h2 h3 h4
    refine ⟨⟨⟨z, sf, a, n, y, (n : Int), (i : Int), t1, a1, p1, v1, m1, b1, c1, s1, n1, x1, l1, y1⟩, ot59 ?_, rfl, rfl, rfl⟩, h1, h2, h3, ?_⟩
    · simp only [rnd59]
      rw [condF (decide_eq_false (by omega))]
    · show sf ≤ (n : Int) * 1000000000000000
      omega
  | succ f ih =>
    intro i sf a hi h1 h2 h3 h4
    have k1 : decide ((i : Int) < (n : Int)) = true := decide_eq_true (by omega)
    have k2 : (decide (0 ≤ (i : Int)) && decide ((i : Int) < (n : Int))) = true := by rw [k1, decide_eq_true (by omega)]; rfl
    have w1 : IntKind.i64.wrap ((i : Int) + 1) = ((i + 1 : Nat) : Int) := by rw [wrapI (by omega) (by omega)]; omega
    obtain ⟨y1', y2', y3', y4'⟩ := hy i (by omega)
    simp only [sfF]
    by_cases hb : (y i 5).n ≥ c1
    · rw [if_pos hb]
      refine ⟨⟨⟨z, sf, a, n, y, (n : Int), (i : Int), t1, a1, p1, v1, m1, b1, c1, s1, n1, x1, l1, y1⟩, ot59 ?_, rfl, rfl, rfl⟩, h1, h2, h3, by dsimp only; omega⟩
      simp only [rnd59, Int.toNat_natCast]
      rw [condT k1, condT k2, condT (decide_eq_true hb)]
    · rw [if_neg hb]
      have ea : (bif decide ((y i 6).n > a) then (y i 6).n else a) = if (y i 6).n > a then (y i 6).n else a := by
        by_cases h : (y i 6).n > a
        · rw [if_pos h, condT (decide_eq_true h)]
        · rw [if_neg h, condF (decide_eq_false h)]
      have ha : 0 ≤ (if (y i 6).n > a then (y i 6).n else a) ∧ (if (y i 6).n > a then (y i 6).n else a) ≤ 1000000000000000 := by split <;> omega
      by_cases hs : (y i 5).n > a
      · rw [if_pos hs]
        obtain ⟨⟨s, q1, q2, q3, q4⟩, q5⟩ := ih (i + 1) (sf + ((y i 5).n - a)) (if (y i 6).n > a then (y i 6).n else a) (by omega) ha.1 ha.2 (by omega) (by omega)
        refine ⟨⟨s, on59 ?_ q1, q2, q3, q4⟩, q5⟩
        simp only [rnd59, Int.toNat_natCast]
        rw [condT k1, condT k2, condF (decide_eq_false hb), condT (decide_eq_true hs), ea, w1, wrapI (x := (y i 5).n - a) (by omega) (by omega), wrapI (x := sf + ((y i 5).n - a)) (by omega) (by omega)]
      · rw [if_neg hs]
        obtain ⟨⟨s, q1, q2, q3, q4⟩, q5⟩ := ih (i + 1) sf (if (y i 6).n > a then (y i 6).n else a) (by omega) ha.1 ha.2 h3 (by omega)
        refine ⟨⟨s, on59 ?_ q1, q2, q3, q4⟩, q5⟩
        simp only [rnd59, Int.toNat_natCast]
        rw [condT k1, condT k2, condF (decide_eq_false hb), condF (decide_eq_false hs), ea, w1]
def t59 : Ent := ⟨59, fun
  | [.agg [.int .i64 _, .int .i64 _, .int .i64 _, .str _, .str _, .int .i64 b1, .int .i64 c1, .int .i64 _, .isz _ [.str, .str] _, .isz _ [.int .i64, .int .i64] _], .isz n [.int .i64, .int .i64, .int .i64, .str, .str, .int .i64, .int .i64, .int .i64, .row [.str, .str], .row [.int .i64, .int .i64]] y] => .chk (tmB0 n y b1 c1) (.leaf (.ret (.int .i64 (sfI n y b1 c1))))
  | _ => .non⟩
theorem vt59 (t1 : Int) (a1 : Int) (p1 : Int) (v1 : ByteArray) (m1 : ByteArray) (b1 : Int) (c1 : Int) (s1 : Int) (n1 : Nat) (x1 : Nat → Nat → Dt) (l1 : Nat) (y1 : Nat → Nat → Dt) (n : Nat) (y : Nat → Nat → Dt) : evFn Try.prog (spOf []) (inlOf []) extD (cKD [] []) lp59 Try.f59 [.agg [.int .i64 t1, .int .i64 a1, .int .i64 p1, .str v1, .str m1, .int .i64 b1, .int .i64 c1, .int .i64 s1, .isz n1 [.str, .str] x1, .isz l1 [.int .i64, .int .i64] y1], .isz n SS y] [] (fun r _ => some r) =
    (bif ok59 ⟨0, 0, b1, n, y, (n : Int), 0, t1, a1, p1, v1, m1, b1, c1, s1, n1, x1, l1, y1⟩ then bif decide ((out59 ⟨0, 0, b1, n, y, (n : Int), 0, t1, a1, p1, v1, m1, b1, c1, s1, n1, x1, l1, y1⟩).at_ < (out59 ⟨0, 0, b1, n, y, (n : Int), 0, t1, a1, p1, v1, m1, b1, c1, s1, n1, x1, l1, y1⟩).c1) then some (.ret (.int .i64 (IntKind.i64.wrap ((out59 ⟨0, 0, b1, n, y, (n : Int), 0, t1, a1, p1, v1, m1, b1, c1, s1, n1, x1, l1, y1⟩).sf + IntKind.i64.wrap ((out59 ⟨0, 0, b1, n, y, (n : Int), 0, t1, a1, p1, v1, m1, b1, c1, s1, n1, x1, l1, y1⟩).c1 - (out59 ⟨0, 0, b1, n, y, (n : Int), 0, t1, a1, p1, v1, m1, b1, c1, s1, n1, x1, l1, y1⟩).at_))))) else some (.ret (.int .i64 (out59 ⟨0, 0, b1, n, y, (n : Int), 0, t1, a1, p1, v1, m1, b1, c1, s1, n1, x1, l1, y1⟩).sf)) else none : Option Res) := by kernel_rfl
set_option maxRecDepth 10000 in
theorem t59_ok : SpecHolds Try.prog InvD 59 fun a => (t59.2 a).run := by
  refine specD cx0 Try.func59 (c := codeOf Try.prog 59) (by kernel_rfl) lp59 (fun p hp => by
    have hl : loops (codeOf Try.prog 59) = [(0, bodyOf Try.prog 59 0)] := by kernel_rfl
    rw [hl, List.mem_singleton] at hp
    subst hp
    exact sum59) fun args r hh => ?_
  unfold t59 at hh
  simp only at hh
  split at hh
  · rename_i t1 a1 p1 v1 m1 b1 c1 s1 n1 x1 l1 y1 n y
    obtain ⟨hg, hh⟩ := chk_run hh
    refine ⟨by kernel_rfl, tr_ok (by rfl) hh, ?_⟩
    refine (vt59 t1 a1 p1 v1 m1 b1 c1 s1 n1 x1 l1 y1 n y).trans (Eq.trans ?_ hh)
    unfold tmB0 at hg
    simp only [Bool.and_eq_true, decide_eq_true_eq, Nat.ble_eq, List.all_eq_true, List.mem_range] at hg
    obtain ⟨g1, g2, g3, g4, g5, g6⟩ := hg
    obtain ⟨⟨s, q1, q2, q3, q4⟩, q5, q6, q7, q8⟩ := to59 (z := 0) (t1 := t1) (a1 := a1) (p1 := p1) (v1 := v1) (m1 := m1) (b1 := b1) (c1 := c1) (s1 := s1) (n1 := n1) (x1 := x1) (l1 := l1) (y1 := y1) g1 g6 n 0 0 b1 (by omega) g2 g3 (by omega) (by omega)
    rw [show ((0 : Nat) : Int) = 0 from rfl] at q1
    have ho := out59_of q1
    rw [condT (ok59_of q1 rfl)]
    unfold sfI
    by_cases h : (sfF y c1 n 0 0 b1).2 < c1
    · rw [if_pos h, condT (decide_eq_true (by rw [ho, q3, q4]; exact h)), ho, q2, q3, q4, wrapI (x := c1 - (sfF y c1 n 0 0 b1).2) (by omega) (by omega), wrapI (by omega) (by omega)]
      rfl
    · rw [if_neg h, condF (decide_eq_false (by rw [ho, q3, q4]; exact h)), ho, q2]
      rfl
  · simp [Tr.run] at hh
end Go.Proofs.Ytfgniheefiefjaa

/- Self times: the loops. Conditions: none beyond the context's. -/
namespace Go.Proofs.Ytfgniheefiefjaa
open Go.Evl Go.RowKit
noncomputable def rfS : Operand × Array Tmp × Code × Code := ((rfs (codeOf Try.prog 25))[0]?).getD (.tmp 0, #[], .skip, .skip)
/-- SelfTimes' slots as its range is entered -/
def tmS (ti : Int) (n : Nat) (y : Nat → Nat → Dt) (m : Nat) (p : Nat → Nat → Dt) : List AV := ((mkF 61 [1, 3] [.ptr 0 0, .ptr 2 0]).set 13 (.agg [.int .i64 ti, .isz n SS y, .isz m [.int .i64] p])).set 14 (.fn (.func 72) [.ptr 4 0])
structure S72w where
  ti : Int
  n : Nat
  y : Nat → Nat → Dt
  m : Nat
  p : Nat → Nat → Dt
  nv : Nat
  vf : Nat → Nat
  wv : Nat
  rf : Ky → Nat × (Nat → Nat → Dt)
  ti2 : Int
  n2 : Nat
  y2 : Nat → Nat → Dt
  m2 : Nat
  p2 : Nat → Nat → Dt
  l : Int
  i : Int
abbrev keep72w : List Nat := [0, 1, 11, 12]
abbrev vs72w (s : RgS S72w) : List AV := [.yld 6, .ptr 4 0, .int .i64 s.c.l, .int .i64 s.c.i]
abbrev hp72w (s : RgS S72w) : List Ob := [.cells [.int .i64 s.c.ti, .isz s.c.n SS s.c.y, .isz s.c.m [.int .i64] s.c.p] 36, .ownW 32 s.c.nv 3 s.c.vf, .cells [.own 1 k0 s.c.wv] 47, .rows 25 SS s.c.rf, .cells [.int .i64 s.c.ti2, .isz s.c.n2 SS s.c.y2, .isz s.c.m2 [.int .i64] s.c.p2] 36, .dfr, .loop s.tm s.ps s.asg s.bd 5 .ready]
noncomputable def dec72w : List AV → List Ob → Option (RgS S72w)
  | [.yld 6, .ptr 4 0, .int .i64 l, .int .i64 i], [.cells [.int .i64 ti, .isz n [.int .i64, .int .i64, .int .i64, .str, .str, .int .i64, .int .i64, .int .i64, .row [.str, .str], .row [.int .i64, .int .i64]] y, .isz m [.int .i64] p] 36, .ownW 32 nv 3 vf, .cells [.own 1 (.int 0) wv] 47, .rows 25 [.int .i64, .int .i64, .int .i64, .str, .str, .int .i64, .int .i64, .int .i64, .row [.str, .str], .row [.int .i64, .int .i64]] rf, .cells [.int .i64 ti2, .isz n2 [.int .i64, .int .i64, .int .i64, .str, .str, .int .i64, .int .i64, .int .i64, .row [.str, .str], .row [.int .i64, .int .i64]] y2, .isz m2 [.int .i64] p2] 36, .dfr, .loop tm ps asg bd 5 .ready] => some ⟨⟨ti, n, y, m, p, nv, vf, wv, rf, ti2, n2, y2, m2, p2, l, i⟩, tm, ps, asg, bd⟩
  | _, _ => none
noncomputable def emb72w (s : S72w) : RgS S72w := ⟨s, (tmS s.ti s.n s.y s.m s.p), rfS.2.1, rfS.2.2.1, rfS.2.2.2⟩
noncomputable def rnd72w (s : S72w) : Option (Ex × List AV × List Ob) :=
  bif decide (s.i < s.l) then bif decide (0 ≤ s.i) && decide (s.i < (s.m2 : Int)) then bif decide ((s.p2 s.i.toNat 0).n ≥ (s.n2 : Int)) then some (.normal, [.yld 6, .ptr 4 0, .int .i64 s.l, .int .i64 (IntKind.i64.wrap (s.i + 1))], [.cells [.int .i64 s.ti, .isz s.n SS s.y, .isz s.m [.int .i64] s.p] 36, .ownW 32 s.nv 3 s.vf, .cells [.own 1 k0 s.wv] 47, .rows 25 SS s.rf, .cells [.int .i64 s.ti2, .isz s.n2 SS s.y2, .isz s.m2 [.int .i64] s.p2] 36, .dfr, .loop (tmS s.ti s.n s.y s.m s.p) rfS.2.1 rfS.2.2.1 rfS.2.2.2 5 LS.ready]) else bif decide ((s.p2 s.i.toNat 0).n ≥ 0) then bif decide (0 ≤ (s.p2 s.i.toNat 0).n) && decide ((s.p2 s.i.toNat 0).n < (s.wv : Int)) then bif s.nv.beq s.wv then bif s.nv.beq s.wv && (s.p2 s.i.toNat 0).n.toNat.blt s.nv then bif decide (0 ≤ s.i) && decide (s.i < (s.n : Int)) then bif (s.rf (Ky.int ((s.p2 s.i.toNat 0).n.toNat : Int))).1.beq (s.vf (s.p2 s.i.toNat 0).n.toNat) && ((s.rf (Ky.int ((s.p2 s.i.toNat 0).n.toNat : Int))).1.ble 1000000 && true) then bif decide (0 ≤ (s.p2 s.i.toNat 0).n) && decide ((s.p2 s.i.toNat 0).n < (s.wv : Int)) then bif s.nv.beq s.wv then bif s.nv.beq s.wv && ((s.p2 s.i.toNat 0).n.toNat.blt s.nv && (true && ((s.p2 s.i.toNat 0).n.toNat : Int) == ((s.p2 s.i.toNat 0).n.toNat : Int))) then some (.normal, [.yld 6, .ptr 4 0, .int .i64 s.l, .int .i64 (IntKind.i64.wrap (s.i + 1))], [.cells [.int .i64 s.ti, .isz s.n SS s.y, .isz s.m [.int .i64] s.p] 36, .ownW 32 s.nv 3 (putN s.vf (s.p2 s.i.toNat 0).n.toNat ((s.rf (Ky.int ((s.p2 s.i.toNat 0).n.toNat : Int))).fst + 1)), .cells [.own 1 k0 s.wv] 47, .rows 25 SS (putK s.rf (Ky.int ((s.p2 s.i.toNat 0).n.toNat : Int)) ((s.rf (Ky.int ((s.p2 s.i.toNat 0).n.toNat : Int))).fst + 1, appEl (s.rf (Ky.int ((s.p2 s.i.toNat 0).n.toNat : Int))).snd (s.rf (Ky.int ((s.p2 s.i.toNat 0).n.toNat : Int))).fst (dtFs [[Dt.int (s.y s.i.toNat 0).n, Dt.int (s.y s.i.toNat 1).n, Dt.int (s.y s.i.toNat 2).n, Dt.str (s.y s.i.toNat 3).s, Dt.str (s.y s.i.toNat 4).s, Dt.int (s.y s.i.toNat 5).n, Dt.int (s.y s.i.toNat 6).n, Dt.int (s.y s.i.toNat 7).n, Dt.row (s.y s.i.toNat 8).len (s.y s.i.toNat 8).el, Dt.row (s.y s.i.toNat 9).len (s.y s.i.toNat 9).el]]))), .cells [.int .i64 s.ti2, .isz s.n2 SS s.y2, .isz s.m2 [.int .i64] s.p2] 36, .dfr, .loop (tmS s.ti s.n s.y s.m s.p) rfS.2.1 rfS.2.2.1 rfS.2.2.2 5 LS.ready]) else none else none else none else none else none else none else none else none else some (.normal, [.yld 6, .ptr 4 0, .int .i64 s.l, .int .i64 (IntKind.i64.wrap (s.i + 1))], [.cells [.int .i64 s.ti, .isz s.n SS s.y, .isz s.m [.int .i64] s.p] 36, .ownW 32 s.nv 3 s.vf, .cells [.own 1 k0 s.wv] 47, .rows 25 SS s.rf, .cells [.int .i64 s.ti2, .isz s.n2 SS s.y2, .isz s.m2 [.int .i64] s.p2] 36, .dfr, .loop (tmS s.ti s.n s.y s.m s.p) rfS.2.1 rfS.2.2.1 rfS.2.2.2 5 LS.ready]) else none else some (.exit 0, [.yld 6, .ptr 4 0, .int .i64 s.l, .int .i64 s.i], [.cells [.int .i64 s.ti, .isz s.n SS s.y, .isz s.m [.int .i64] s.p] 36, .ownW 32 s.nv 3 s.vf, .cells [.own 1 k0 s.wv] 47, .rows 25 SS s.rf, .cells [.int .i64 s.ti2, .isz s.n2 SS s.y2, .isz s.m2 [.int .i64] s.p2] 36, .dfr, .loop (tmS s.ti s.n s.y s.m s.p) rfS.2.1 rfS.2.2.1 rfS.2.2.2 5 LS.ready])
noncomputable def L72wg : Lg S72w := ⟨0, dec72w, vs72w, hp72w, emb72w, rnd72w⟩
theorem L72wg_ok : L72wg.Ok := by
  refine ⟨fun vs H s h => ?_, fun _ => rfl⟩
  have h : dec72w vs H = some s := h
  unfold dec72w at h
  split at h
  · obtain rfl := Option.some.inj h
    exact ⟨rfl, rfl⟩
  · cases h
noncomputable abbrev L72w : Ls S72w := L72wg.ls
noncomputable def gd72w (s : RgS S72w) : Bool := L72wg.gd s
theorem gd72w_emb (c : S72w) : gd72w (emb72w c) = true := L72wg.gd_emb L72wg_ok c
theorem dec72w_emb {c : S72w} (h : dec72w (vs72w (emb72w c)) (hp72w (emb72w c)) = some (emb72w c)) : L72w.dec (L72w.vs c) (L72w.hp c) = some c := L72wg.ls_dec L72wg_ok h
noncomputable def ok72w (s : S72w) : Bool := L72w.ok 0 s
noncomputable def out72w (s : S72w) : S72w := (L72w.end_ s).2
noncomputable def ret72w (s : S72w) : Bool := (L72w.end_ s).1
noncomputable def fin72w (s : RgS S72w) : Tr (Ex × List AV × List Ob) := .leaf (.exit 0, vs72w (emb72w (out72w s.c)), hp72w (emb72w (out72w s.c)))
noncomputable abbrev f72ws : List AV → List Ob → Tr (Ex × List AV × List Ob) := stF dec72w (fun s => gd72w s && ok72w s.c) fin72w
theorem de72w (c : S72w) : L72w.dec (L72w.vs c) (L72w.hp c) = some c := dec72w_emb (by kernel_rfl)
theorem on72w {s s1 s2 : S72w} {b : Bool} (h : rnd72w s = some (.normal, vs72w (emb72w s1), hp72w (emb72w s1))) (h2 : L72w.To s1 b s2) : L72w.To s b s2 := L72w.to_on h (de72w s1) h2
theorem ot72w {s s1 : S72w} (h : rnd72w s = some (.exit 0, vs72w (emb72w s1), hp72w (emb72w s1))) : L72w.To s false s1 := L72w.to_out h (de72w s1)
theorem ok72w_of {s s1 : S72w} {b : Bool} (h : L72w.To s b s1) (hb : mdB 0 b = true) : ok72w s = true := h.ok L72w (m := 0) hb
theorem out72w_of {s s1 : S72w} {b : Bool} (h : L72w.To s b s1) : out72w s = s1 := congrArg Prod.snd (h.end_ L72w)
theorem ret72w_of {s s1 : S72w} {b : Bool} (h : L72w.To s b s1) : ret72w s = b := congrArg Prod.fst (h.end_ L72w)
noncomputable abbrev lp72w (_ : Nat) : LT := .sum keep72w f72ws
theorem loop72w (s : S72w) : evC (β := Ex × List AV × List Ob) Try.prog (spOf [t51, t58, t59, t74]) (inlOf [56, 57, 72, 73, 80]) extD (cKD [t51, t58, t59, t74] [56, 57, 72, 73, 80]) (lp72w) (bodyOf Try.prog 72 0) ⟨mkF Try.f72.ntmps keep72w (vs72w (emb72w s)), hp72w (emb72w s)⟩ (fun e st => (cutBack keep72w 7 st).map fun q => (e, q.1, q.2)) = rnd72w s := by kernel_rfl
theorem sum72w : LoopOkT Try.prog (spOf [t51, t58, t59, t74]) (inlOf [56, 57, 72, 73, 80]) extD (cKD [t51, t58, t59, t74] [56, 57, 72, 73, 80]) lp72w Try.f72.ntmps (bodyOf Try.prog 72 0) (.sum keep72w f72ws) := by
  dsimp only [LoopOkT]
  exact ⟨by decide, by decide, sum_lg L72wg 0 L72wg_ok loop72w⟩
end Go.Proofs.Ytfgniheefiefjaa

/- Self times: children in order, the loops. Conditions: none beyond the context's. -/
namespace Go.Proofs.Ytfgniheefiefjaa
open Go.Evl Go.RowKit
noncomputable abbrev cT0 {β : Type} : CallK β := (cKD [t51, t58, t59, t74] [56, 57, 72, 73, 80])
noncomputable abbrev cT1 {β : Type} : CallK β := callLK Try.prog (spOf [t51, t58, t59, t74]) (inlOf [56, 57, 72, 73, 80]) extD cT0 [(72, lp72w)]
structure S80j where
  kk : Int
  dv : Nat
  a : Int
  b : Int
  i : Int
  j : Int
  ti : Int
  n : Nat
  y : Nat → Nat → Dt
  m : Nat
  p : Nat → Nat → Dt
  nv : Nat
  vf : Nat → Nat
  wv : Nat
  rf : Ky → Nat × (Nat → Nat → Dt)
  ti2 : Int
  n2 : Nat
  y2 : Nat → Nat → Dt
  m2 : Nat
  p2 : Nat → Nat → Dt
  tn : Nat
  tq : Nat → Nat → Dt
  t1 : Int
  a1 : Int
  p1 : Int
  v1 : ByteArray
  m1 : ByteArray
  b1 : Int
  c1 : Int
  s1 : Int
  n1 : Nat
  x1 : Nat → Nat → Dt
  l1 : Nat
  y1 : Nat → Nat → Dt
abbrev keep80j : List Nat := [0, 1, 2, 3, 8, 9]
abbrev vs80j (s : RgS S80j) : List AV := [.own 3 (.int s.c.kk) s.c.dv, .int .i64 s.c.a, .int .i64 s.c.b, .fn (.func 58) [], .int .i64 s.c.i, .int .i64 s.c.j]
abbrev hp80j (s : RgS S80j) : List Ob := [.cells [.int .i64 s.c.ti, .isz s.c.n SS s.c.y, .isz s.c.m [.int .i64] s.c.p] 36, .ownW 32 s.c.nv 3 s.c.vf, .cells [.own 1 k0 s.c.wv] 47, .rows 25 SS s.c.rf, .cells [.int .i64 s.c.ti2, .isz s.c.n2 SS s.c.y2, .isz s.c.m2 [.int .i64] s.c.p2] 36, .dfr, .loop s.tm s.ps s.asg s.bd 5 (.over none), .own 3 [.int .i64] s.c.tn s.c.tq, .cells [.int .i64 s.c.t1, .int .i64 s.c.a1, .int .i64 s.c.p1, .str s.c.v1, .str s.c.m1, .int .i64 s.c.b1, .int .i64 s.c.c1, .int .i64 s.c.s1, .isz s.c.n1 [.str, .str] s.c.x1, .isz s.c.l1 [.int .i64, .int .i64] s.c.y1] 25]
noncomputable def dec80j (vs : List AV) (H : List Ob) : Option (RgS S80j) :=
  match vs, H with
  | [.own 3 (.int kk) dv, .int .i64 a, .int .i64 b, .fn (.func 58) [], .int .i64 i, .int .i64 j], .cells [.int .i64 ti, .isz n [.int .i64, .int .i64, .int .i64, .str, .str, .int .i64, .int .i64, .int .i64, .row [.str, .str], .row [.int .i64, .int .i64]] y, .isz m [.int .i64] p] 36 :: .ownW 32 nv 3 vf :: .cells [.own 1 (.int 0) wv] 47 :: .rows 25 [.int .i64, .int .i64, .int .i64, .str, .str, .int .i64, .int .i64, .int .i64, .row [.str, .str], .row [.int .i64, .int .i64]] rf :: H1 => match H1 with
    | [.cells [.int .i64 ti2, .isz n2 [.int .i64, .int .i64, .int .i64, .str, .str, .int .i64, .int .i64, .int .i64, .row [.str, .str], .row [.int .i64, .int .i64]] y2, .isz m2 [.int .i64] p2] 36, .dfr, .loop tm ps asg bd 5 (.over none), .own 3 [.int .i64] tn tq, .cells [.int .i64 t1, .int .i64 a1, .int .i64 p1, .str v1, .str m1, .int .i64 b1, .int .i64 c1, .int .i64 s1, .isz n1 [.str, .str] x1, .isz l1 [.int .i64, .int .i64] y1] 25] => some ⟨⟨kk, dv, a, b, i, j, ti, n, y, m, p, nv, vf, wv, rf, ti2, n2, y2, m2, p2, tn, tq, t1, a1, p1, v1, m1, b1, c1, s1, n1, x1, l1, y1⟩, tm, ps, asg, bd⟩
    | _ => none
  | _, _ => none
noncomputable def emb80j (s : S80j) : RgS S80j := ⟨s, (tmS s.ti s.n s.y s.m s.p), rfS.2.1, rfS.2.2.1, rfS.2.2.2⟩
noncomputable def rnd80j (s : S80j) : Option (Ex × List AV × List Ob) :=
  bif decide (s.j > s.a) then bif decide (0 ≤ s.j) && decide (s.j < (s.dv : Int)) then bif (s.rf (Ky.int s.kk)).1.beq s.dv then bif (s.rf (Ky.int s.kk)).1.beq s.dv && s.j.toNat.blt (s.rf (Ky.int s.kk)).1 then bif decide (0 ≤ IntKind.i64.wrap (s.j - 1)) && decide (IntKind.i64.wrap (s.j - 1) < (s.dv : Int)) then bif (s.rf (Ky.int s.kk)).1.beq s.dv then bif (s.rf (Ky.int s.kk)).1.beq s.dv && (IntKind.i64.wrap (s.j - 1)).toNat.blt (s.rf (Ky.int s.kk)).1 then bif decide (cmI ((s.rf (Ky.int s.kk)).2 s.j.toNat 5).n ((s.rf (Ky.int s.kk)).2 (IntKind.i64.wrap (s.j - 1)).toNat 5).n < 0) then bif decide (0 ≤ IntKind.i64.wrap (s.j - 1)) && decide (IntKind.i64.wrap (s.j - 1) < (s.dv : Int)) then bif (s.rf (Ky.int s.kk)).1.beq s.dv then bif (s.rf (Ky.int s.kk)).1.beq s.dv && (IntKind.i64.wrap (s.j - 1)).toNat.blt (s.rf (Ky.int s.kk)).1 then bif decide (0 ≤ s.j) && decide (s.j < (s.dv : Int)) then bif (s.rf (Ky.int s.kk)).1.beq s.dv then bif (s.rf (Ky.int s.kk)).1.beq s.dv && s.j.toNat.blt (s.rf (Ky.int s.kk)).1 then bif decide (0 ≤ s.j) && decide (s.j < (s.dv : Int)) then bif (s.rf (Ky.int s.kk)).1.beq s.dv then none else none else none else none else none else none else none else none else none else some (.exit 2, [.own 3 (Ky.int s.kk) s.dv, .int .i64 s.a, .int .i64 s.b, .fn (Fn.func 58) [], .int .i64 s.i, .int .i64 s.j], [.cells [.int .i64 s.ti, .isz s.n SS s.y, .isz s.m [.int .i64] s.p] 36, .ownW 32 s.nv 3 s.vf, .cells [.own 1 k0 s.wv] 47, .rows 25 SS s.rf, .cells [.int .i64 s.ti2, .isz s.n2 SS s.y2, .isz s.m2 [.int .i64] s.p2] 36, .dfr, .loop (tmS s.ti s.n s.y s.m s.p) rfS.2.1 rfS.2.2.1 rfS.2.2.2 5 (LS.over none), .own 3 [.int .i64] s.tn s.tq, .cells [.int .i64 s.t1, .int .i64 s.a1, .int .i64 s.p1, .str s.v1, .str s.m1, .int .i64 s.b1, .int .i64 s.c1, .int .i64 s.s1, .isz s.n1 [.str, .str] s.x1, .isz s.l1 [.int .i64, .int .i64] s.y1] 25]) else none else none else none else none else none else none else some (.exit 2, [.own 3 (Ky.int s.kk) s.dv, .int .i64 s.a, .int .i64 s.b, .fn (Fn.func 58) [], .int .i64 s.i, .int .i64 s.j], [.cells [.int .i64 s.ti, .isz s.n SS s.y, .isz s.m [.int .i64] s.p] 36, .ownW 32 s.nv 3 s.vf, .cells [.own 1 k0 s.wv] 47, .rows 25 SS s.rf, .cells [.int .i64 s.ti2, .isz s.n2 SS s.y2, .isz s.m2 [.int .i64] s.p2] 36, .dfr, .loop (tmS s.ti s.n s.y s.m s.p) rfS.2.1 rfS.2.2.1 rfS.2.2.2 5 (LS.over none), .own 3 [.int .i64] s.tn s.tq, .cells [.int .i64 s.t1, .int .i64 s.a1, .int .i64 s.p1, .str s.v1, .str s.m1, .int .i64 s.b1, .int .i64 s.c1, .int .i64 s.s1, .isz s.n1 [.str, .str] s.x1, .isz s.l1 [.int .i64, .int .i64] s.y1] 25])
noncomputable def L80jg : Lg S80j := ⟨2, dec80j, vs80j, hp80j, emb80j, rnd80j⟩
set_option maxRecDepth 20000 in
theorem L80jg_ok : L80jg.Ok := by
  refine ⟨fun vs H s h => ?_, fun _ => rfl⟩
  have h : dec80j vs H = some s := h
  unfold dec80j at h
  split at h
  · split at h
    · obtain rfl := Option.some.inj h
      exact ⟨rfl, rfl⟩
    · cases h
  · cases h
noncomputable abbrev L80j : Ls S80j := L80jg.ls
noncomputable def gd80j (s : RgS S80j) : Bool := L80jg.gd s
theorem gd80j_emb (c : S80j) : gd80j (emb80j c) = true := L80jg.gd_emb L80jg_ok c
theorem dec80j_emb {c : S80j} (h : dec80j (vs80j (emb80j c)) (hp80j (emb80j c)) = some (emb80j c)) : L80j.dec (L80j.vs c) (L80j.hp c) = some c := L80jg.ls_dec L80jg_ok h
noncomputable def ok80j (s : S80j) : Bool := L80j.ok 0 s
noncomputable def out80j (s : S80j) : S80j := (L80j.end_ s).2
noncomputable def ret80j (s : S80j) : Bool := (L80j.end_ s).1
noncomputable def fin80j (s : RgS S80j) : Tr (Ex × List AV × List Ob) := .leaf (.exit 2, vs80j (emb80j (out80j s.c)), hp80j (emb80j (out80j s.c)))
noncomputable abbrev f80js : List AV → List Ob → Tr (Ex × List AV × List Ob) := stF dec80j (fun s => gd80j s && ok80j s.c) fin80j
theorem de80j (c : S80j) : L80j.dec (L80j.vs c) (L80j.hp c) = some c := dec80j_emb (by kernel_rfl)
theorem on80j {s s1 s2 : S80j} {b : Bool} (h : rnd80j s = some (.normal, vs80j (emb80j s1), hp80j (emb80j s1))) (h2 : L80j.To s1 b s2) : L80j.To s b s2 := L80j.to_on h (de80j s1) h2
theorem ot80j {s s1 : S80j} (h : rnd80j s = some (.exit 2, vs80j (emb80j s1), hp80j (emb80j s1))) : L80j.To s false s1 := L80j.to_out h (de80j s1)
theorem ok80j_of {s s1 : S80j} {b : Bool} (h : L80j.To s b s1) (hb : mdB 0 b = true) : ok80j s = true := h.ok L80j (m := 0) hb
theorem out80j_of {s s1 : S80j} {b : Bool} (h : L80j.To s b s1) : out80j s = s1 := congrArg Prod.snd (h.end_ L80j)
theorem ret80j_of {s s1 : S80j} {b : Bool} (h : L80j.To s b s1) : ret80j s = b := congrArg Prod.fst (h.end_ L80j)
structure S80o where
  kk : Int
  dv : Nat
  a : Int
  b : Int
  i : Int
  ti : Int
  n : Nat
  y : Nat → Nat → Dt
  m : Nat
  p : Nat → Nat → Dt
  nv : Nat
  vf : Nat → Nat
  wv : Nat
  rf : Ky → Nat × (Nat → Nat → Dt)
  ti2 : Int
  n2 : Nat
  y2 : Nat → Nat → Dt
  m2 : Nat
  p2 : Nat → Nat → Dt
  tn : Nat
  tq : Nat → Nat → Dt
  t1 : Int
  a1 : Int
  p1 : Int
  v1 : ByteArray
  m1 : ByteArray
  b1 : Int
  c1 : Int
  s1 : Int
  n1 : Nat
  x1 : Nat → Nat → Dt
  l1 : Nat
  y1 : Nat → Nat → Dt
abbrev keep80o : List Nat := [0, 1, 2, 3, 8]
abbrev vs80o (s : RgS S80o) : List AV := [.own 3 (.int s.c.kk) s.c.dv, .int .i64 s.c.a, .int .i64 s.c.b, .fn (.func 58) [], .int .i64 s.c.i]
abbrev hp80o (s : RgS S80o) : List Ob := [.cells [.int .i64 s.c.ti, .isz s.c.n SS s.c.y, .isz s.c.m [.int .i64] s.c.p] 36, .ownW 32 s.c.nv 3 s.c.vf, .cells [.own 1 k0 s.c.wv] 47, .rows 25 SS s.c.rf, .cells [.int .i64 s.c.ti2, .isz s.c.n2 SS s.c.y2, .isz s.c.m2 [.int .i64] s.c.p2] 36, .dfr, .loop s.tm s.ps s.asg s.bd 5 (.over none), .own 3 [.int .i64] s.c.tn s.c.tq, .cells [.int .i64 s.c.t1, .int .i64 s.c.a1, .int .i64 s.c.p1, .str s.c.v1, .str s.c.m1, .int .i64 s.c.b1, .int .i64 s.c.c1, .int .i64 s.c.s1, .isz s.c.n1 [.str, .str] s.c.x1, .isz s.c.l1 [.int .i64, .int .i64] s.c.y1] 25]
noncomputable def dec80o (vs : List AV) (H : List Ob) : Option (RgS S80o) :=
  match vs, H with
  | [.own 3 (.int kk) dv, .int .i64 a, .int .i64 b, .fn (.func 58) [], .int .i64 i], .cells [.int .i64 ti, .isz n [.int .i64, .int .i64, .int .i64, .str, .str, .int .i64, .int .i64, .int .i64, .row [.str, .str], .row [.int .i64, .int .i64]] y, .isz m [.int .i64] p] 36 :: .ownW 32 nv 3 vf :: .cells [.own 1 (.int 0) wv] 47 :: .rows 25 [.int .i64, .int .i64, .int .i64, .str, .str, .int .i64, .int .i64, .int .i64, .row [.str, .str], .row [.int .i64, .int .i64]] rf :: H1 => match H1 with
    | [.cells [.int .i64 ti2, .isz n2 [.int .i64, .int .i64, .int .i64, .str, .str, .int .i64, .int .i64, .int .i64, .row [.str, .str], .row [.int .i64, .int .i64]] y2, .isz m2 [.int .i64] p2] 36, .dfr, .loop tm ps asg bd 5 (.over none), .own 3 [.int .i64] tn tq, .cells [.int .i64 t1, .int .i64 a1, .int .i64 p1, .str v1, .str m1, .int .i64 b1, .int .i64 c1, .int .i64 s1, .isz n1 [.str, .str] x1, .isz l1 [.int .i64, .int .i64] y1] 25] => some ⟨⟨kk, dv, a, b, i, ti, n, y, m, p, nv, vf, wv, rf, ti2, n2, y2, m2, p2, tn, tq, t1, a1, p1, v1, m1, b1, c1, s1, n1, x1, l1, y1⟩, tm, ps, asg, bd⟩
    | _ => none
  | _, _ => none
noncomputable def emb80o (s : S80o) : RgS S80o := ⟨s, (tmS s.ti s.n s.y s.m s.p), rfS.2.1, rfS.2.2.1, rfS.2.2.2⟩
noncomputable def in80o (s : S80o) : S80j := { kk := s.kk, dv := s.dv, a := s.a, b := s.b, i := s.i, j := s.i, ti := s.ti, n := s.n, y := s.y, m := s.m, p := s.p, nv := s.nv, vf := s.vf, wv := s.wv, rf := s.rf, ti2 := s.ti2, n2 := s.n2, y2 := s.y2, m2 := s.m2, p2 := s.p2, tn := s.tn, tq := s.tq, t1 := s.t1, a1 := s.a1, p1 := s.p1, v1 := s.v1, m1 := s.m1, b1 := s.b1, c1 := s.c1, s1 := s.s1, n1 := s.n1, x1 := s.x1, l1 := s.l1, y1 := s.y1 }
noncomputable def rnd80o (s : S80o) : Option (Ex × List AV × List Ob) :=
  bif decide (s.i < s.b) then bif gd80j (emb80j (in80o s)) && ok80j (in80o s) then some (.normal, [.own 3 (Ky.int (out80j (in80o s)).1) (out80j (in80o s)).2, .int .i64 (out80j (in80o s)).3, .int .i64 (out80j (in80o s)).4, .fn (Fn.func 58) [], .int .i64 (IntKind.i64.wrap ((out80j (in80o s)).5 + 1))], [.cells [.int .i64 (out80j (in80o s)).7, .isz (out80j (in80o s)).8 SS (out80j (in80o s)).y, .isz (out80j (in80o s)).10 [.int .i64] (out80j (in80o s)).p] 36, .ownW 32 (out80j (in80o s)).12 3 (out80j (in80o s)).vf, .cells [.own 1 k0 (out80j (in80o s)).14] 47, .rows 25 SS (out80j (in80o s)).rf, .cells [.int .i64 (out80j (in80o s)).16, .isz (out80j (in80o s)).17 SS (out80j (in80o s)).y2, .isz (out80j (in80o s)).19 [.int .i64] (out80j (in80o s)).p2] 36, .dfr, .loop (tmS (out80j (in80o s)).ti (out80j (in80o s)).n (out80j (in80o s)).y (out80j (in80o s)).m (out80j (in80o s)).p) rfS.2.1 rfS.2.2.1 rfS.2.2.2 5 (LS.over none), .own 3 [.int .i64] (out80j (in80o s)).21 (out80j (in80o s)).tq, .cells [.int .i64 (out80j (in80o s)).23, .int .i64 (out80j (in80o s)).24, .int .i64 (out80j (in80o s)).25, .str (out80j (in80o s)).v1, .str (out80j (in80o s)).m1, .int .i64 (out80j (in80o s)).28, .int .i64 (out80j (in80o s)).29, .int .i64 (out80j (in80o s)).30, .isz (out80j (in80o s)).31 [.str, .str] (out80j (in80o s)).x1, .isz (out80j (in80o s)).33 [.int .i64, .int .i64] (out80j (in80o s)).y1] 25]) else none else some (.exit 0, [.own 3 (Ky.int s.kk) s.dv, .int .i64 s.a, .int .i64 s.b, .fn (Fn.func 58) [], .int .i64 s.i], [.cells [.int .i64 s.ti, .isz s.n SS s.y, .isz s.m [.int .i64] s.p] 36, .ownW 32 s.nv 3 s.vf, .cells [.own 1 k0 s.wv] 47, .rows 25 SS s.rf, .cells [.int .i64 s.ti2, .isz s.n2 SS s.y2, .isz s.m2 [.int .i64] s.p2] 36, .dfr, .loop (tmS s.ti s.n s.y s.m s.p) rfS.2.1 rfS.2.2.1 rfS.2.2.2 5 (LS.over none), .own 3 [.int .i64] s.tn s.tq, .cells [.int .i64 s.t1, .int .i64 s.a1, .int .i64 s.p1, .str s.v1, .str s.m1, .int .i64 s.b1, .int .i64 s.c1, .int .i64 s.s1, .isz s.n1 [.str, .str] s.x1, .isz s.l1 [.int .i64, .int .i64] s.y1] 25])
noncomputable def L80og : Lg S80o := ⟨0, dec80o, vs80o, hp80o, emb80o, rnd80o⟩
set_option maxRecDepth 20000 in
theorem L80og_ok : L80og.Ok := by
  refine ⟨fun vs H s h => ?_, fun _ => rfl⟩
  have h : dec80o vs H = some s := h
  unfold dec80o at h
  split at h
  · split at h
    · obtain rfl := Option.some.inj h
      exact ⟨rfl, rfl⟩
    · cases h
  · cases h
noncomputable abbrev L80o : Ls S80o := L80og.ls
noncomputable def gd80o (s : RgS S80o) : Bool := L80og.gd s
theorem gd80o_emb (c : S80o) : gd80o (emb80o c) = true := L80og.gd_emb L80og_ok c
theorem dec80o_emb {c : S80o} (h : dec80o (vs80o (emb80o c)) (hp80o (emb80o c)) = some (emb80o c)) : L80o.dec (L80o.vs c) (L80o.hp c) = some c := L80og.ls_dec L80og_ok h
noncomputable def ok80o (s : S80o) : Bool := L80o.ok 0 s
noncomputable def out80o (s : S80o) : S80o := (L80o.end_ s).2
noncomputable def ret80o (s : S80o) : Bool := (L80o.end_ s).1
noncomputable def fin80o (s : RgS S80o) : Tr (Ex × List AV × List Ob) := .leaf (.exit 0, vs80o (emb80o (out80o s.c)), hp80o (emb80o (out80o s.c)))
noncomputable abbrev f80os : List AV → List Ob → Tr (Ex × List AV × List Ob) := stF dec80o (fun s => gd80o s && ok80o s.c) fin80o
theorem de80o (c : S80o) : L80o.dec (L80o.vs c) (L80o.hp c) = some c := dec80o_emb (by kernel_rfl)
theorem on80o {s s1 s2 : S80o} {b : Bool} (h : rnd80o s = some (.normal, vs80o (emb80o s1), hp80o (emb80o s1))) (h2 : L80o.To s1 b s2) : L80o.To s b s2 := L80o.to_on h (de80o s1) h2
theorem ot80o {s s1 : S80o} (h : rnd80o s = some (.exit 0, vs80o (emb80o s1), hp80o (emb80o s1))) : L80o.To s false s1 := L80o.to_out h (de80o s1)
theorem ok80o_of {s s1 : S80o} {b : Bool} (h : L80o.To s b s1) (hb : mdB 0 b = true) : ok80o s = true := h.ok L80o (m := 0) hb
theorem out80o_of {s s1 : S80o} {b : Bool} (h : L80o.To s b s1) : out80o s = s1 := congrArg Prod.snd (h.end_ L80o)
theorem ret80o_of {s s1 : S80o} {b : Bool} (h : L80o.To s b s1) : ret80o s = b := congrArg Prod.fst (h.end_ L80o)
noncomputable abbrev lp80t (i : Nat) : LT := bif Nat.beq i 2 then .sum keep80j f80js else .sum keep80o f80os
theorem loop80j (s : S80j) : evC (β := Ex × List AV × List Ob) Try.prog (spOf [t51, t58, t59, t74]) (inlOf [56, 57, 72, 73, 80]) extD cT1 (lp80t) (bodyOf Try.prog 80 2) ⟨mkF Try.f80.ntmps keep80j (vs80j (emb80j s)), hp80j (emb80j s)⟩ (fun e st => (cutBack keep80j 9 st).map fun q => (e, q.1, q.2)) = rnd80j s := by kernel_rfl
theorem sum80j : LoopOkT Try.prog (spOf [t51, t58, t59, t74]) (inlOf [56, 57, 72, 73, 80]) extD cT1 lp80t Try.f80.ntmps (bodyOf Try.prog 80 2) (.sum keep80j f80js) := by
  dsimp only [LoopOkT]
  exact ⟨by decide, by decide, sum_lg L80jg 0 L80jg_ok loop80j⟩
theorem loop80o (s : S80o) : evC (β := Ex × List AV × List Ob) Try.prog (spOf [t51, t58, t59, t74]) (inlOf [56, 57, 72, 73, 80]) extD cT1 (lp80t) (bodyOf Try.prog 80 0) ⟨mkF Try.f80.ntmps keep80o (vs80o (emb80o s)), hp80o (emb80o s)⟩ (fun e st => (cutBack keep80o 9 st).map fun q => (e, q.1, q.2)) = rnd80o s := by kernel_rfl
theorem sum80o : LoopOkT Try.prog (spOf [t51, t58, t59, t74]) (inlOf [56, 57, 72, 73, 80]) extD cT1 lp80t Try.f80.ntmps (bodyOf Try.prog 80 0) (.sum keep80o f80os) := by
  dsimp only [LoopOkT]
  exact ⟨by decide, by decide, sum_lg L80og 0 L80og_ok loop80o⟩
end Go.Proofs.Ytfgniheefiefjaa

/- Self times: the loop of the spans. Conditions: none beyond the context's. -/
namespace Go.Proofs.Ytfgniheefiefjaa
open Go.Evl Go.RowKit
noncomputable abbrev cT2 {β : Type} : CallK β := callLK Try.prog (spOf [t51, t58, t59, t74]) (inlOf [56, 57, 72, 73, 80]) extD cT1 [(80, lp80t)]
noncomputable abbrev cT3 {β : Type} : CallK β := callLK Try.prog (spOf [t51, t58, t59, t74]) (inlOf [56, 57, 72, 73, 80]) extD cT2 [(73, fun _ => .unroll 3)]
noncomputable abbrev cT4 {β : Type} : CallK β := callLK Try.prog (spOf [t51, t58, t59, t74]) (inlOf [56, 57, 72, 73, 80]) extD cT3 [(57, fun _ => .unroll 3)]
structure S25 where
  tv : Nat
  n8 : Nat
  y8 : Nat → Nat → Dt
  l : Int
  i : Int
  ti : Int
  n : Nat
  y : Nat → Nat → Dt
  m : Nat
  p : Nat → Nat → Dt
  nv : Nat
  vf : Nat → Nat
  wv : Nat
  rf : Ky → Nat × (Nat → Nat → Dt)
  ti2 : Int
  n2 : Nat
  y2 : Nat → Nat → Dt
  m2 : Nat
  p2 : Nat → Nat → Dt
  tn : Nat
  tq : Nat → Nat → Dt
abbrev keep25 : List Nat := [1, 3, 6, 38, 39, 40]
abbrev vs25 (s : RgS S25) : List AV := [.ptr 0 0, .ptr 2 0, .own 7 k0 s.c.tv, .isz s.c.n8 SS s.c.y8, .int .i64 s.c.l, .int .i64 s.c.i]
abbrev hp25 (s : RgS S25) : List Ob := [.cells [.int .i64 s.c.ti, .isz s.c.n SS s.c.y, .isz s.c.m [.int .i64] s.c.p] 36, .ownW 32 s.c.nv 3 s.c.vf, .cells [.own 1 k0 s.c.wv] 47, .rows 25 SS s.c.rf, .cells [.int .i64 s.c.ti2, .isz s.c.n2 SS s.c.y2, .isz s.c.m2 [.int .i64] s.c.p2] 36, .dfr, .loop s.tm s.ps s.asg s.bd 5 (.over none), .own 3 [.int .i64] s.c.tn s.c.tq]
noncomputable def dec25 (vs : List AV) (H : List Ob) : Option (RgS S25) :=
  match vs, H with
  | [.ptr 0 0, .ptr 2 0, .own 7 (.int 0) tv, .isz n8 [.int .i64, .int .i64, .int .i64, .str, .str, .int .i64, .int .i64, .int .i64, .row [.str, .str], .row [.int .i64, .int .i64]] y8, .int .i64 l, .int .i64 i], .cells [.int .i64 ti, .isz n [.int .i64, .int .i64, .int .i64, .str, .str, .int .i64, .int .i64, .int .i64, .row [.str, .str], .row [.int .i64, .int .i64]] y, .isz m [.int .i64] p] 36 :: .ownW 32 nv 3 vf :: .cells [.own 1 (.int 0) wv] 47 :: .rows 25 [.int .i64, .int .i64, .int .i64, .str, .str, .int .i64, .int .i64, .int .i64, .row [.str, .str], .row [.int .i64, .int .i64]] rf :: H1 => match H1 with
    | [.cells [.int .i64 ti2, .isz n2 [.int .i64, .int .i64, .int .i64, .str, .str, .int .i64, .int .i64, .int .i64, .row [.str, .str], .row [.int .i64, .int .i64]] y2, .isz m2 [.int .i64] p2] 36, .dfr, .loop tm ps asg bd 5 (.over none), .own 3 [.int .i64] tn tq] => some ⟨⟨tv, n8, y8, l, i, ti, n, y, m, p, nv, vf, wv, rf, ti2, n2, y2, m2, p2, tn, tq⟩, tm, ps, asg, bd⟩
    | _ => none
  | _, _ => none
noncomputable def emb25 (s : S25) : RgS S25 := ⟨s, (tmS s.ti s.n s.y s.m s.p), rfS.2.1, rfS.2.2.1, rfS.2.2.2⟩
noncomputable def in25 (s : S25) : S80o := { kk := (s.i.toNat : Int), dv := s.vf s.i.toNat, a := 0, b := ((s.vf s.i.toNat) : Int), i := IntKind.i64.wrap 1, ti := s.ti, n := s.n, y := s.y, m := s.m, p := s.p, nv := s.nv, vf := s.vf, wv := s.wv, rf := s.rf, ti2 := s.ti2, n2 := s.n2, y2 := s.y2, m2 := s.m2, p2 := s.p2, tn := s.tn, tq := s.tq, t1 := (s.y8 s.i.toNat 0).n, a1 := (s.y8 s.i.toNat 1).n, p1 := (s.y8 s.i.toNat 2).n, v1 := (s.y8 s.i.toNat 3).s, m1 := (s.y8 s.i.toNat 4).s, b1 := (s.y8 s.i.toNat 5).n, c1 := (s.y8 s.i.toNat 6).n, s1 := (s.y8 s.i.toNat 7).n, n1 := (s.y8 s.i.toNat 8).len, x1 := (s.y8 s.i.toNat 8).el, l1 := (s.y8 s.i.toNat 9).len, y1 := (s.y8 s.i.toNat 9).el }
noncomputable def rnd25 (s : S25) : Option (Ex × List AV × List Ob) :=
  bif decide (s.i < s.l) then bif decide (0 ≤ s.i) && decide (s.i < (s.n8 : Int)) then bif decide (0 ≤ s.i) && decide (s.i < (s.wv : Int)) then bif s.nv.beq s.wv then bif s.nv.beq s.wv && s.i.toNat.blt s.nv then bif (s.rf (Ky.int (s.i.toNat : Int))).1.beq (s.vf s.i.toNat) then bif true && decide (IntKind.u64.wrap ((s.vf s.i.toNat) : Int) < 13) then bif decide (IntKind.i64.wrap (((s.vf s.i.toNat) : Int) - 0) ≤ 12) then bif gd80o (emb80o (in25 s)) && ok80o (in25 s) then bif decide (0 ≤ s.i) && decide (s.i < ((out80o (in25 s)).13 : Int)) then bif (out80o (in25 s)).11.beq (out80o (in25 s)).13 then bif (out80o (in25 s)).11.beq (out80o (in25 s)).13 && s.i.toNat.blt (out80o (in25 s)).11 then bif true && (((out80o (in25 s)).rf (Ky.int (s.i.toNat : Int))).1.beq ((out80o (in25 s)).12 s.i.toNat) && true) then bif ((out80o (in25 s)).rf (Ky.int (s.i.toNat : Int))).1.ble 1000 && (decide (0 ≤ (out80o (in25 s)).27) && (decide ((out80o (in25 s)).27 ≤ 1000000000000000) && (decide (0 ≤ (out80o (in25 s)).28) && (decide ((out80o (in25 s)).28 ≤ 1000000000000000) && (List.range ((out80o (in25 s)).rf (Ky.int (s.i.toNat : Int))).fst).all fun i => decide (0 ≤ (((out80o (in25 s)).rf (Ky.int (s.i.toNat : Int))).snd i 5).n) && (decide ((((out80o (in25 s)).rf (Ky.int (s.i.toNat : Int))).snd i 5).n ≤ 1000000000000000) && (decide (0 ≤ (((out80o (in25 s)).rf (Ky.int (s.i.toNat : Int))).snd i 6).n) && decide ((((out80o (in25 s)).rf (Ky.int (s.i.toNat : Int))).snd i 6).n ≤ 1000000000000000))))))) then bif decide (0 ≤ s.i) && decide (s.i < (s.tv : Int)) then bif (out80o (in25 s)).20.beq s.tv then bif (out80o (in25 s)).20.beq s.tv && s.i.toNat.blt (out80o (in25 s)).20 then some (.normal, [.ptr 0 0, .ptr 2 0, .own 7 k0 s.tv, .isz s.n8 SS s.y8, .int .i64 s.l, .int .i64 (IntKind.i64.wrap (s.i + 1))], [.cells [.int .i64 (out80o (in25 s)).6, .isz (out80o (in25 s)).7 SS (out80o (in25 s)).y, .isz (out80o (in25 s)).9 [.int .i64] (out80o (in25 s)).p] 36, .ownW 32 (out80o (in25 s)).11 3 (out80o (in25 s)).vf, .cells [.own 1 k0 (out80o (in25 s)).13] 47, .rows 25 SS (out80o (in25 s)).rf, .cells [.int .i64 (out80o (in25 s)).15, .isz (out80o (in25 s)).16 SS (out80o (in25 s)).y2, .isz (out80o (in25 s)).18 [.int .i64] (out80o (in25 s)).p2] 36, .dfr, .loop (tmS (out80o (in25 s)).ti (out80o (in25 s)).n (out80o (in25 s)).y (out80o (in25 s)).m (out80o (in25 s)).p) rfS.2.1 rfS.2.2.1 rfS.2.2.2 5 (LS.over none), .own 3 [.int .i64] (out80o (in25 s)).20 (setEl (out80o (in25 s)).tq s.i.toNat 0 [Dt.int (sfI ((out80o (in25 s)).rf (Ky.int (s.i.toNat : Int))).fst ((out80o (in25 s)).rf (Ky.int (s.i.toNat : Int))).snd (out80o (in25 s)).b1 (out80o (in25 s)).c1)])]) else none else none else none else none else none else none else none else none else none else bif lnI (IntKind.u64.wrap ((s.vf s.i.toNat) : Int)) == 0 then none else none else none else none else none else none else none else none else some (.exit 2, [.ptr 0 0, .ptr 2 0, .own 7 k0 s.tv, .isz s.n8 SS s.y8, .int .i64 s.l, .int .i64 s.i], [.cells [.int .i64 s.ti, .isz s.n SS s.y, .isz s.m [.int .i64] s.p] 36, .ownW 32 s.nv 3 s.vf, .cells [.own 1 k0 s.wv] 47, .rows 25 SS s.rf, .cells [.int .i64 s.ti2, .isz s.n2 SS s.y2, .isz s.m2 [.int .i64] s.p2] 36, .dfr, .loop (tmS s.ti s.n s.y s.m s.p) rfS.2.1 rfS.2.2.1 rfS.2.2.2 5 (LS.over none), .own 3 [.int .i64] s.tn s.tq])
noncomputable def L25g : Lg S25 := ⟨2, dec25, vs25, hp25, emb25, rnd25⟩
set_option maxRecDepth 20000 in
theorem L25g_ok : L25g.Ok := by
  refine ⟨fun vs H s h => ?_, fun _ => rfl⟩
  have h : dec25 vs H = some s := h
  unfold dec25 at h
  split at h
  · split at h
    · obtain rfl := Option.some.inj h
      exact ⟨rfl, rfl⟩
    · cases h
  · cases h
noncomputable abbrev L25 : Ls S25 := L25g.ls
noncomputable def gd25 (s : RgS S25) : Bool := L25g.gd s
theorem gd25_emb (c : S25) : gd25 (emb25 c) = true := L25g.gd_emb L25g_ok c
theorem dec25_emb {c : S25} (h : dec25 (vs25 (emb25 c)) (hp25 (emb25 c)) = some (emb25 c)) : L25.dec (L25.vs c) (L25.hp c) = some c := L25g.ls_dec L25g_ok h
noncomputable def ok25 (s : S25) : Bool := L25.ok 0 s
noncomputable def out25 (s : S25) : S25 := (L25.end_ s).2
noncomputable def ret25 (s : S25) : Bool := (L25.end_ s).1
noncomputable def fin25 (s : RgS S25) : Tr (Ex × List AV × List Ob) := .leaf (.exit 2, vs25 (emb25 (out25 s.c)), hp25 (emb25 (out25 s.c)))
noncomputable abbrev f25s : List AV → List Ob → Tr (Ex × List AV × List Ob) := stF dec25 (fun s => gd25 s && ok25 s.c) fin25
theorem de25 (c : S25) : L25.dec (L25.vs c) (L25.hp c) = some c := dec25_emb (by kernel_rfl)
theorem on25 {s s1 s2 : S25} {b : Bool} (h : rnd25 s = some (.normal, vs25 (emb25 s1), hp25 (emb25 s1))) (h2 : L25.To s1 b s2) : L25.To s b s2 := L25.to_on h (de25 s1) h2
theorem ot25 {s s1 : S25} (h : rnd25 s = some (.exit 2, vs25 (emb25 s1), hp25 (emb25 s1))) : L25.To s false s1 := L25.to_out h (de25 s1)
theorem ok25_of {s s1 : S25} {b : Bool} (h : L25.To s b s1) (hb : mdB 0 b = true) : ok25 s = true := h.ok L25 (m := 0) hb
theorem out25_of {s s1 : S25} {b : Bool} (h : L25.To s b s1) : out25 s = s1 := congrArg Prod.snd (h.end_ L25)
theorem ret25_of {s s1 : S25} {b : Bool} (h : L25.To s b s1) : ret25 s = b := congrArg Prod.fst (h.end_ L25)
noncomputable abbrev lp25 : Nat → LT := fun i => bif Nat.beq i 2000001 then .ghost [.rowW 12 25 SS] else bif Nat.beq i 1000002 then .forget [1, 3] else .sum keep25 f25s
theorem loop25 (s : S25) : evC (β := Ex × List AV × List Ob) Try.prog (spOf [t51, t58, t59, t74]) (inlOf [56, 57, 72, 73, 80]) extD cT4 (lp25) (bodyOf Try.prog 25 2) ⟨mkF Try.f25.ntmps keep25 (vs25 (emb25 s)), hp25 (emb25 s)⟩ (fun e st => (cutBack keep25 8 st).map fun q => (e, q.1, q.2)) = rnd25 s := by kernel_rfl
theorem sum25 : LoopOkT Try.prog (spOf [t51, t58, t59, t74]) (inlOf [56, 57, 72, 73, 80]) extD cT4 lp25 Try.f25.ntmps (bodyOf Try.prog 25 2) (.sum keep25 f25s) := by
  dsimp only [LoopOkT]
  exact ⟨by decide, by decide, sum_lg L25g 0 L25g_ok loop25⟩
end Go.Proofs.Ytfgniheefiefjaa

/- Self times: the rows of the children. -/
namespace Go.Proofs.Ytfgniheefiefjaa
open Go.Evl Go.RowKit
/-- the children of j among the first t -/
def chs (p : Nat → Nat → Dt) (j t : Nat) : List Nat := (List.range t).filter fun i => decide ((p i 0).n = (j : Int))
theorem chs_succ (p : Nat → Nat → Dt) (j t : Nat) : chs p j (t + 1) = chs p j t ++ (if (p t 0).n = (j : Int) then [t] else []) := by
  unfold chs
  rw [List.range_succ, List.filter_append]
  congr 1
  by_cases h : (p t 0).n = (j : Int)
  · rw [if_pos h, List.filter_cons_of_pos (by simp [h]), List.filter_nil]
  · rw [if_neg h, List.filter_cons_of_neg (by simp [h]), List.filter_nil]
theorem chs_len (p : Nat → Nat → Dt) (j t : Nat) : (chs p j t).length ≤ t := by
  have := List.length_filter_le (fun i => decide ((p i 0).n = (j : Int))) (List.range t)
  rw [List.length_range] at this
  exact this
/-- what the rows hold -/
structure Chd (n : Nat) (y p : Nat → Nat → Dt) (t : Nat) (vf : Nat → Nat) (rf : Ky → Nat × (Nat → Nat → Dt)) : Prop where
  hv : ∀ j, j < n → vf j = (chs p j t).length
  hr : ∀ j, j < n → (rf (.int (j : Int))).1 = (chs p j t).length
  hf : ∀ j, j < n → ∀ q, q < (chs p j t).length → ∀ u, u < 8 → ((rf (.int (j : Int))).2 q u).n = (y ((chs p j t).getD q 0) u).n ∨ u = 3 ∨ u = 4
theorem Chd.skip {n : Nat} {y p : Nat → Nat → Dt} {t : Nat} {vf : Nat → Nat} {rf : Ky → Nat × (Nat → Nat → Dt)} (h : Chd n y p t vf rf) (hp : (p t 0).n ≥ (n : Int) ∨ (p t 0).n < 0) : Chd n y p (t + 1) vf rf := by
  have he : ∀ j, j < n → chs p j (t + 1) = chs p j t := fun j hj => by
    rw [chs_succ, if_neg (by omega), List.append_nil]
  exact ⟨fun j hj => by rw [he j hj]; exact h.hv j hj, fun j hj => by rw [he j hj]; exact h.hr j hj, fun j hj => by rw [he j hj]; exact h.hf j hj⟩
theorem Chd.put {n : Nat} {y p : Nat → Nat → Dt} {t : Nat} {vf : Nat → Nat} {rf : Ky → Nat × (Nat → Nat → Dt)} (h : Chd n y p t vf rf) {a : Nat} (ha : a < n) (hp : (p t 0).n = (a : Int)) :
    Chd n y p (t + 1) (putN vf a ((rf (.int (a : Int))).1 + 1)) (putK rf (.int (a : Int)) ((rf (.int (a : Int))).1 + 1, appEl (rf (.int (a : Int))).2 (rf (.int (a : Int))).1 (dtFs [[Dt.int (y t 0).n, Dt.int (y t 1).n, Dt.int (y t 2).n, Dt.str (y t 3).s, Dt.str (y t 4).s, Dt.int (y t 5).n, Dt.int (y t 6).n, Dt.int (y t 7).n, Dt.row (y t 8).len (y t 8).el, Dt.row (y t 9).len (y t 9).el]]))) := by
  have hr := h.hr a ha
  have e1 : chs p a (t + 1) = chs p a t ++ [t] := by rw [chs_succ, if_pos hp]
  have e2 : ∀ j, j ≠ a → chs p j (t + 1) = chs p j t := fun j hj => by rw [chs_succ, if_neg (by omega), List.append_nil]
  have ne : ∀ j : Nat, j ≠ a → (Ky.int (j : Int)) ≠ Ky.int (a : Int) := fun j hj hc => hj (by injection hc with hc; omega)
  refine ⟨fun j hj => ?_, fun j hj => ?_, fun j hj q hq u hu => ?_⟩
  · by_cases hja : j = a
    · subst hja
      rw [e1, List.length_append, List.length_singleton, ← hr]
      simp only [putN, Nat.beq_refl, cond_true]
    · rw [e2 j hja]
      have : Nat.beq j a = false := by rw [← Bool.not_eq_true, Nat.beq_eq]; exact hja
      simp only [putN, this, cond_false]
      exact h.hv j hj
  · by_cases hja : j = a
    · subst hja
      rw [e1, List.length_append, List.length_singleton, ← hr, putK_at]
    · rw [e2 j hja, putK_ne _ _ (ne j hja)]
      exact h.hr j hj
  · by_cases hja : j = a
    · subst hja
      rw [e1] at hq ⊢
      rw [List.length_append, List.length_singleton] at hq
      rw [putK_at]
      simp only [appEl, hr]
      by_cases hq1 : q < (chs p j t).length
      · have : Nat.blt q (chs p j t).length = true := by rw [Nat.blt_eq]; exact hq1
        rw [this, cond_true, show (chs p j t ++ [t]).getD q 0 = (chs p j t).getD q 0 from by simp only [List.getD_eq_getElem?_getD, List.getElem?_append_left hq1]]
        exact h.hf j hj q hq1 u hu
      · have : Nat.blt q (chs p j t).length = false := by rw [← Bool.not_eq_true, Nat.blt_eq]; exact hq1
        have hq2 : q = (chs p j t).length := by omega
        subst hq2
        rw [this, cond_false, Nat.sub_self, show (chs p j t ++ [t]).getD (chs p j t).length 0 = t from by simp only [List.getD_eq_getElem?_getD, List.getElem?_append_right (Nat.le_refl _), Nat.sub_self]; rfl]
        rcases u with _ | _ | _ | _ | _ | _ | _ | _ | u
        · exact .inl rfl
        · exact .inl rfl
        · exact .inl rfl
        · exact .inr (.inl rfl)
        · exact .inr (.inr rfl)
        · exact .inl rfl
        · exact .inl rfl
        · exact .inl rfl
        · omega
    · rw [e2 j hja] at hq ⊢
      rw [putK_ne _ _ (ne j hja)]
      exact h.hf j hj q hq u hu
set_option maxRecDepth 10000 in
theorem to72w {ti : Int} {n : Nat} {y p : Nat → Nat → Dt} (hn : n ≤ 1000) : ∀ (f t : Nat) (vf : Nat → Nat) (rf : Ky → Nat × (Nat → Nat → Dt)), t + f = n → Chd n y p t vf rf →
    ∃ vf' rf', Chd n y p n vf' rf' ∧ L72w.To ⟨ti, n, y, n, p, n, vf, n, rf, ti, n, y, n, p, (n : Int), (t : Int)⟩ false ⟨ti, n, y, n, p, n, vf', n, rf', ti, n, y, n, p, (n : Int), (n : Int)⟩ := by
  intro f
  induction f with
  | zero =>
    intro t vf rf ht hc
    obtain rfl : t = n := by omega
    refine ⟨vf, rf, hc, ot72w ?_⟩
    simp only [rnd72w, Int.toNat_natCast]
    rw [condF (decide_eq_false (by omega))]
    rfl
  | succ f ih =>
    intro t vf rf ht hc
    have hc1 : decide ((t : Int) < (n : Int)) = true := decide_eq_true (by omega)
    have hc2 : (decide (0 ≤ (t : Int)) && decide ((t : Int) < (n : Int))) = true := by rw [hc1, decide_eq_true (by omega)]; rfl
    have w1 : IntKind.i64.wrap ((t : Int) + 1) = ((t + 1 : Nat) : Int) := by rw [wrapI (by omega) (by omega)]; omega
    by_cases h1 : (p t 0).n ≥ (n : Int)
    · obtain ⟨vf', rf', hd, hs⟩ := ih (t + 1) vf rf (by omega) (hc.skip (.inl h1))
      refine ⟨vf', rf', hd, on72w ?_ hs⟩
      simp only [rnd72w, Int.toNat_natCast]
      rw [condT hc1, condT hc2, condT (decide_eq_true h1), w1]
      rfl
    · by_cases h2 : (p t 0).n ≥ 0
      · obtain ⟨a, ha⟩ := Int.eq_ofNat_of_zero_le h2
        have han : a < n := by omega
        obtain ⟨vf', rf', hd, hs⟩ := ih (t + 1) _ _ (by omega) (hc.put han ha)
        refine ⟨vf', rf', hd, on72w ?_ hs⟩
        have hva := hc.hv a han
        have hra := hc.hr a han
        have hle := chs_len p a t
        have b1 : (decide (0 ≤ (a : Int)) && decide ((a : Int) < (n : Int))) = true := by rw [decide_eq_true (by omega : (0 : Int) ≤ (a : Int)), decide_eq_true (by omega)]; rfl
        have b2 : Nat.beq n n = true := Nat.beq_refl n
        have b3 : Nat.blt a n = true := by rw [Nat.blt_eq]; exact han
        have b4 : (rf (Ky.int (a : Int))).1.beq (vf a) = true := by rw [Nat.beq_eq, hva, hra]
        have b5 : (rf (Ky.int (a : Int))).1.ble 1000000 = true := by rw [Nat.ble_eq, hra]; omega
        have h1' : ¬ (a : Int) ≥ (n : Int) := by omega
        have h2' : (a : Int) ≥ 0 := by omega
        simp only [rnd72w, Int.toNat_natCast, ha]
        rw [condT hc1, condT hc2, condF (decide_eq_false h1'), condT (decide_eq_true h2'), condT b1, condT b2, b2, b3, condT (by rfl), condT hc2, b4, b5, condT (by rfl), condT b1, cond_true]
        simp only [beq_self_eq_true, Bool.and_true, cond_true, w1]
        rfl
      · obtain ⟨vf', rf', hd, hs⟩ := ih (t + 1) vf rf (by omega) (hc.skip (.inr (by omega)))
        refine ⟨vf', rf', hd, on72w ?_ hs⟩
        simp only [rnd72w, Int.toNat_natCast]
        rw [condT hc1, condT hc2, condF (decide_eq_false h1), condF (decide_eq_false h2), w1]
        rfl
end Go.Proofs.Ytfgniheefiefjaa

/- Self times: rows already in order; the loop of the spans. -/
namespace Go.Proofs.Ytfgniheefiefjaa
open Go.Evl Go.RowKit
set_option maxRecDepth 20000 in
theorem to80j (c : S80j) (hj : c.j > c.a) (h0 : 0 < c.j) (h1 : c.j < (c.dv : Int)) (hd : c.dv ≤ 1000) (hr : (c.rf (.int c.kk)).1 = c.dv) (hs : ¬ cmI ((c.rf (.int c.kk)).2 c.j.toNat 5).n ((c.rf (.int c.kk)).2 (c.j - 1).toNat 5).n < 0) : L80j.To c false c := by
  refine ot80j ?_
  have w : IntKind.i64.wrap (c.j - 1) = c.j - 1 := wrapI (by omega) (by omega)
  have b1 : (decide (0 ≤ c.j) && decide (c.j < (c.dv : Int))) = true := by rw [decide_eq_true (by omega : (0 : Int) ≤ c.j), decide_eq_true h1]; rfl
  have b2 : (c.rf (.int c.kk)).1.beq c.dv = true := by rw [Nat.beq_eq]; exact hr
  have b3 : c.j.toNat.blt (c.rf (.int c.kk)).1 = true := by rw [Nat.blt_eq, hr]; omega
  have b4 : (decide (0 ≤ c.j - 1) && decide (c.j - 1 < (c.dv : Int))) = true := by rw [decide_eq_true (by omega : (0 : Int) ≤ c.j - 1), decide_eq_true (by omega)]; rfl
  have b5 : (c.j - 1).toNat.blt (c.rf (.int c.kk)).1 = true := by rw [Nat.blt_eq, hr]; omega
  simp only [rnd80j, w]
  rw [condT (decide_eq_true hj), condT b1, b2, b3, cond_true, condT (by rfl), condT b4, cond_true, b5, condT (by rfl), condF (decide_eq_false hs)]
  rfl
set_option maxRecDepth 20000 in
theorem to80o (kk : Int) (dv : Nat) (hd : dv ≤ 1000) : ∀ (f : Nat) (s : S80o) (i : Nat), s.i = (i : Int) → 1 ≤ i → s.kk = kk → s.dv = dv → s.a = 0 → s.b = (dv : Int) → (i + f = dv ∨ (f = 0 ∧ dv ≤ i)) → (s.rf (.int s.kk)).1 = s.dv →
    (∀ q, q + 1 < dv → ¬ cmI ((s.rf (.int s.kk)).2 (q + 1) 5).n ((s.rf (.int s.kk)).2 q 5).n < 0) → ∃ i', L80o.To s false { s with i := i' } := by
  intro f
  induction f with
  | zero =>
    intro s i hi h1 hk hv ha hb hf hr hs
    refine ⟨s.i, ot80o ?_⟩
    simp only [rnd80o]
    rw [condF (decide_eq_false (by omega))]
    kernel_rfl
  | succ f ih =>
    intro s i hi h1 hk hv ha hb hf hr hs
    have hj := to80j (in80o s) (show s.i > s.a by omega) (show 0 < s.i by omega) (show s.i < (s.dv : Int) by omega) (show s.dv ≤ 1000 by omega) hr (by
      have := hs (i - 1) (by omega)
      have e1 : (in80o s).j = (i : Int) := hi
      rw [e1, show ((i : Int)).toNat = i - 1 + 1 by omega, show ((i : Int) - 1).toNat = i - 1 by omega]
      exact this)
    have w1 : IntKind.i64.wrap (s.i + 1) = ((i + 1 : Nat) : Int) := by rw [wrapI (by omega) (by omega)]; omega
    obtain ⟨i', hs2⟩ := ih { s with i := ((i + 1 : Nat) : Int) } (i + 1) rfl (by omega) hk hv ha hb (by omega) hr hs
    refine ⟨i', on80o ?_ hs2⟩
    have ho := out80j_of hj
    simp only [rnd80o, ho]
    rw [condT (decide_eq_true (by omega)), gd80j_emb, ok80j_of hj rfl, condT (by rfl)]
    simp only [in80o, w1]
    rfl
set_option maxRecDepth 20000 in
theorem to25 {ti : Int} {n : Nat} {y p : Nat → Nat → Dt} {vf : Nat → Nat} {rf : Ky → Nat × (Nat → Nat → Dt)} (hn : n ≤ 12) (hc : Chd n y p n vf rf)
    (hs : ∀ j, j < n → ∀ q, q + 1 < (rf (.int (j : Int))).1 → ¬ cmI ((rf (.int (j : Int))).2 (q + 1) 5).n ((rf (.int (j : Int))).2 q 5).n < 0)
    (hb : ∀ j, j < n → tmB0 (rf (.int (j : Int))).1 (rf (.int (j : Int))).2 (y j 5).n (y j 6).n = true) : ∀ (f i : Nat) (tq : Nat → Nat → Dt), i + f = n →
    (∀ j, j < i → (tq j 0).n = sfI (rf (.int (j : Int))).1 (rf (.int (j : Int))).2 (y j 5).n (y j 6).n) →
    ∃ tq', (∀ j, j < n → (tq' j 0).n = sfI (rf (.int (j : Int))).1 (rf (.int (j : Int))).2 (y j 5).n (y j 6).n) ∧
      L25.To ⟨n, n, y, (n : Int), (i : Int), ti, n, y, n, p, n, vf, n, rf, ti, n, y, n, p, n, tq⟩ false ⟨n, n, y, (n : Int), (n : Int), ti, n, y, n, p, n, vf, n, rf, ti, n, y, n, p, n, tq'⟩ := by
  intro f
  induction f with
  | zero =>
    intro i tq hi ht
    obtain rfl : i = n := by omega
    refine ⟨tq, ht, ot25 ?_⟩
    simp only [rnd25]
    rw [condF (decide_eq_false (by omega))]
    rfl
  | succ f ih =>
    intro i tq hi ht
    have hin : i < n := by omega
    have hv := hc.hv i hin
    have hr := hc.hr i hin
    have hl := chs_len p i n
    have hbi := hb i hin
    have w0 : IntKind.i64.wrap 1 = 1 := by kernel_rfl
    have w1 : IntKind.i64.wrap ((i : Int) + 1) = ((i + 1 : Nat) : Int) := by rw [wrapI (by omega) (by omega)]; omega
    have w2 : IntKind.u64.wrap ((vf i : Nat) : Int) = (vf i : Int) := by
      rw [show IntKind.u64.wrap ((vf i : Nat) : Int) = ((vf i : Nat) : Int) % 18446744073709551616 from rfl]
      omega
    have w3 : IntKind.i64.wrap (((vf i : Nat) : Int) - 0) = (vf i : Int) := by rw [wrapI (by omega) (by omega)]; omega
    have b0 : decide ((i : Int) < (n : Int)) = true := decide_eq_true (by omega)
    have b1 : (decide (0 ≤ (i : Int)) && decide ((i : Int) < (n : Int))) = true := by rw [decide_eq_true (by omega : (0 : Int) ≤ (i : Int)), b0]; rfl
    have b2 : Nat.beq n n = true := Nat.beq_refl n
    have b3 : Nat.blt i n = true := by rw [Nat.blt_eq]; exact hin
    have b4 : (rf (Ky.int (i : Int))).1.beq (vf i) = true := by rw [Nat.beq_eq, hv, hr]
    have b5 : decide ((vf i : Int) < 13) = true := decide_eq_true (by omega)
    have b6 : decide ((vf i : Int) ≤ 12) = true := decide_eq_true (by omega)
    obtain ⟨i', ho⟩ := to80o (i : Int) (vf i) (by omega) (vf i - 1) (in25 ⟨n, n, y, (n : Int), (i : Int), ti, n, y, n, p, n, vf, n, rf, ti, n, y, n, p, n, tq⟩) 1 w0 (Nat.le_refl _) rfl rfl rfl rfl (by omega)
      (by show (rf (.int (i : Int))).1 = vf i; rw [hr, hv]) (fun q hq => hs i hin q (by rw [hr, ← hv]; exact hq))
    obtain ⟨tq', hq, ht'⟩ := ih (i + 1) (setEl tq i 0 [Dt.int (sfI (rf (.int (i : Int))).1 (rf (.int (i : Int))).2 (y i 5).n (y i 6).n)]) (by omega) (fun j hj => by
      by_cases hji : j = i
      · subst hji
        simp only [setEl, Nat.beq_refl, Bool.true_and]
        rfl
      · have : Nat.beq j i = false := by rw [← Bool.not_eq_true, Nat.beq_eq]; exact hji
        simp only [setEl, this, Bool.false_and, cond_false]
        exact ht j (by omega))
    refine ⟨tq', hq, on25 ?_ ht'⟩
    have hoo := out80o_of ho
    unfold tmB0 at hbi
    simp only [rnd25, hoo, Int.toNat_natCast]
    rw [gd80o_emb, ok80o_of ho rfl]
    simp only [in25, Int.toNat_natCast, w2, w3]
    have hz : decide (0 ≤ (i : Int)) = true := decide_eq_true (by omega)
    simp only [b0, hz, b2, b3, b4, b5, b6, Bool.and_true, cond_true, w1]
    have hx : (true && decide ((i : Int) < (n : Int))) = true := by rw [b0]; rfl
    refine (condT hx).trans ((condT hbi).trans ?_)
    rfl
end Go.Proofs.Ytfgniheefiefjaa

/- Self times: the contract of SelfTimes. Conditions: none beyond the context's. -/
namespace Go.Proofs.Ytfgniheefiefjaa
open Go.Evl Go.RowKit
def s72i (ti : Int) (k : Nat) (y : Nat → Nat → Dt) (m : Nat) (p : Nat → Nat → Dt) : S72w := ⟨ti, k + 1, y, m, p, (((k + 1 : Nat) : Int)).toNat, fun _ => 0, (((k + 1 : Nat) : Int)).toNat, fun _ => (0, zeroEl), ti, k + 1, y, m, p, bif decide ((m : Int) < ((k + 1 : Nat) : Int)) then (m : Int) else ((k + 1 : Nat) : Int), 0⟩
def s25i (s : S72w) : S25 := ⟨((s.n : Int)).toNat, s.n, s.y, (s.n : Int), 0, s.ti, s.n, s.y, s.m, s.p, s.nv, s.vf, s.wv, s.rf, s.ti2, s.n2, s.y2, s.m2, s.p2, ((s.n : Int)).toNat, zeroEl⟩
/-- what SelfTimes gives back -/
noncomputable def stE (ti : Int) (k : Nat) (y : Nat → Nat → Dt) (m : Nat) (p : Nat → Nat → Dt) : S25 := out25 (s25i (out72w (s72i ti k y m p)))
set_option maxRecDepth 20000 in
theorem lt25 (ti : Int) (k : Nat) (y : Nat → Nat → Dt) (m : Nat) (p : Nat → Nat → Dt) : (evFnT Try.prog (spOf [t51, t58, t59, t74]) (inlOf [56, 57, 72, 73, 80]) extD cT4 lp25 Try.f25 [.agg [.int .i64 ti, .isz (k + 1) SS y, .isz m [.int .i64] p]] [] (castT (.row [.int .i64]))).run =
    (bif true && (decide (((k + 1 : Nat) : Int) ≤ ((k + 1 : Nat) : Int)) && decide (((k + 1 : Nat) : Int) ≤ 1000000)) then bif nslB k (List.replicate k .nsl) && true then bif gd72w (emb72w (s72i ti k y m p)) && ok72w (s72i ti k y m p) then
      bif decide (0 ≤ ((out72w (s72i ti k y m p)).n : Int)) && (decide (((out72w (s72i ti k y m p)).n : Int) ≤ ((out72w (s72i ti k y m p)).n : Int)) && decide (((out72w (s72i ti k y m p)).n : Int) ≤ 1000000)) then
      bif gd25 (emb25 (s25i (out72w (s72i ti k y m p)))) && ok25 (s25i (out72w (s72i ti k y m p))) then bif (stE ti k y m p).tn.beq (stE ti k y m p).tv then some (.ret (.isz (stE ti k y m p).tn [.int .i64] (stE ti k y m p).tq)) else none else none else none else none else none else none : Option Res) := by kernel_rfl
theorem nslB_rep : ∀ k, nslB k (List.replicate k .nsl) = true
  | 0 => rfl
  | k + 1 => nslB_rep k
/-- SelfTimes may be asked: children in the order of their starts, times in their bounds -/
structure SdOk (n : Nat) (y : Nat → Nat → Dt) (m : Nat) (p : Nat → Nat → Dt) : Prop where
  h1 : 1 ≤ n
  h2 : n ≤ 12
  hm : m = n
  hs : ∀ j, j < n → ∀ q, q + 1 < (chs p j n).length → (y ((chs p j n).getD q 0) 5).n ≤ (y ((chs p j n).getD (q + 1) 0) 5).n
  hb : ∀ j, j < n → 0 ≤ (y j 5).n ∧ (y j 5).n ≤ 1000000000000000 ∧ 0 ≤ (y j 6).n ∧ (y j 6).n ≤ 1000000000000000
open Classical in
noncomputable def sdB (n : Nat) (y : Nat → Nat → Dt) (m : Nat) (p : Nat → Nat → Dt) : Bool := decide (SdOk n y m p)
theorem sdB_iff {n : Nat} {y : Nat → Nat → Dt} {m : Nat} {p : Nat → Nat → Dt} : sdB n y m p = true ↔ SdOk n y m p := by
  unfold sdB
  exact ⟨fun h => @of_decide_eq_true _ (Classical.propDecidable _) h, fun h => @decide_eq_true _ (Classical.propDecidable _) h⟩
theorem chs_mem {p : Nat → Nat → Dt} {j t q : Nat} (h : q < (chs p j t).length) : (chs p j t).getD q 0 < t ∧ (p ((chs p j t).getD q 0) 0).n = (j : Int) := by
  have h1 : (chs p j t).getD q 0 ∈ chs p j t := by
    rw [List.getD_eq_getElem?_getD, List.getElem?_eq_getElem h]
    exact List.getElem_mem h
  unfold chs at h1 ⊢
  rw [List.mem_filter, List.mem_range] at h1
  exact ⟨h1.1, of_decide_eq_true h1.2⟩
theorem st25 {ti : Int} {k : Nat} {y : Nat → Nat → Dt} {p : Nat → Nat → Dt} (h : SdOk (k + 1) y (k + 1) p) : ∃ vf rf tq, Chd (k + 1) y p (k + 1) vf rf ∧
    (∀ j, j < k + 1 → (tq j 0).n = sfI (rf (.int (j : Int))).1 (rf (.int (j : Int))).2 (y j 5).n (y j 6).n) ∧
    L72w.To (s72i ti k y (k + 1) p) false ⟨ti, k + 1, y, k + 1, p, k + 1, vf, k + 1, rf, ti, k + 1, y, k + 1, p, ((k + 1 : Nat) : Int), ((k + 1 : Nat) : Int)⟩ ∧
    L25.To (s25i ⟨ti, k + 1, y, k + 1, p, k + 1, vf, k + 1, rf, ti, k + 1, y, k + 1, p, ((k + 1 : Nat) : Int), ((k + 1 : Nat) : Int)⟩) false ⟨k + 1, k + 1, y, ((k + 1 : Nat) : Int), ((k + 1 : Nat) : Int), ti, k + 1, y, k + 1, p, k + 1, vf, k + 1, rf, ti, k + 1, y, k + 1, p, k + 1, tq⟩ := by
  have hn := h.h2
  obtain ⟨vf, rf, hc, h1⟩ := to72w (ti := ti) (n := k + 1) (y := y) (p := p) (by omega) (k + 1) 0 (fun _ => 0) (fun _ => (0, zeroEl)) (by omega) ⟨fun j _ => rfl, fun j _ => rfl, fun j _ q hq => absurd hq (Nat.not_lt_zero q)⟩
  have hf : ∀ j, j < k + 1 → ∀ q, q < (rf (.int (j : Int))).1 → (chs p j (k + 1)).getD q 0 < k + 1 ∧ ((rf (.int (j : Int))).2 q 5).n = (y ((chs p j (k + 1)).getD q 0) 5).n ∧ ((rf (.int (j : Int))).2 q 6).n = (y ((chs p j (k + 1)).getD q 0) 6).n := fun j hj q hq => by
    rw [hc.hr j hj] at hq
    refine ⟨(chs_mem hq).1, ?_, ?_⟩
    · rcases hc.hf j hj q hq 5 (by omega) with h | h | h
      · exact h
      · omega
      · omega
    · rcases hc.hf j hj q hq 6 (by omega) with h | h | h
      · exact h
      · omega
      · omega
  obtain ⟨tq, ht, h2⟩ := to25 (ti := ti) hn hc (fun j hj q hq hlt => by
    have a := hf j hj q (by omega)
    have b := hf j hj (q + 1) hq
    have c := h.hs j hj q (by rw [← hc.hr j hj]; exact hq)
    rw [a.2.1, b.2.1] at hlt
    unfold cmI at hlt
    split at hlt
    · omega
    · split at hlt <;> omega) (fun j hj => by
    have hl := chs_len p j (k + 1)
    have hr := hc.hr j hj
    have hbj := h.hb j hj
    unfold tmB0
    simp only [Bool.and_eq_true, decide_eq_true_eq, Nat.ble_eq, List.all_eq_true, List.mem_range]
    refine ⟨by omega, hbj.1, hbj.2.1, hbj.2.2.1, hbj.2.2.2, fun q hq => ?_⟩
    have a := hf j hj q hq
    have b := h.hb _ a.1
    rw [a.2.1, a.2.2]
    exact b) (k + 1) 0 zeroEl (by omega) (fun j hj => absurd hj (Nat.not_lt_zero j))
  refine ⟨vf, rf, tq, hc, ht, ?_, h2⟩
  have e : s72i ti k y (k + 1) p = ⟨ti, k + 1, y, k + 1, p, k + 1, fun _ => 0, k + 1, fun _ => (0, zeroEl), ti, k + 1, y, k + 1, p, ((k + 1 : Nat) : Int), ((0 : Nat) : Int)⟩ := by
    unfold s72i
    rw [decide_eq_false (Int.lt_irrefl _), cond_false]
    rfl
  rw [e]
  exact h1
noncomputable def stQ (ti : Int) (n : Nat) (y : Nat → Nat → Dt) (m : Nat) (p : Nat → Nat → Dt) : Nat → Nat → Dt := (stE ti (n - 1) y m p).tq
noncomputable def t25 : Ent := ⟨25, fun
  | [.agg [.int .i64 ti, .isz n [.int .i64, .int .i64, .int .i64, .str, .str, .int .i64, .int .i64, .int .i64, .row [.str, .str], .row [.int .i64, .int .i64]] y, .isz m [.int .i64] p]] => .chk (sdB n y m p) (.leaf (.ret (.isz n [.int .i64] (stQ ti n y m p))))
  | _ => .non⟩
theorem lx25 : (mkCx Try.prog (spOf [t51, t58, t59, t74]) (inlOf [56, 57, 72, 73, 80]) extD).Ok InvD := cx_of [56, 57, 72, 73, 80] (by kernel_rfl) (by
  intro p hp
  simp only [List.mem_cons, List.not_mem_nil, or_false] at hp
  rcases hp with rfl | rfl | rfl | rfl
  · exact t51_ok
  · exact t58_ok
  · exact t59_ok
  · exact t74_ok)
set_option maxRecDepth 20000 in
theorem t25_ok : SpecHolds Try.prog InvD 25 fun a => (t25.2 a).run := by
  refine spec_of_evC Try.prog (spOf [t51, t58, t59, t74]) (inlOf [56, 57, 72, 73, 80]) extD cT4 (fun {β} => callLK_eq (β := β) Try.prog _ _ _ (callLK_eq (β := β) Try.prog _ _ _ (callLK_eq (β := β) Try.prog _ _ _ (callLK_eq (β := β) Try.prog _ _ _ (callK_eq (β := β) Try.prog (spOf [t51, t58, t59, t74]) (inlOf [56, 57, 72, 73, 80]) extD attD uD 20) [(72, lp72w)]) [(80, lp80t)]) [(73, fun _ => .unroll 3)]) [(57, fun _ => .unroll 3)]) lx25 stableD mixedD
    (callLN_sound lx25 stableD mixedD (callLN_sound lx25 stableD mixedD (callLN_sound lx25 stableD mixedD (callLN_sound lx25 stableD mixedD (callN_sound attD_ok lx25 stableD mixedD 20)
      (lps_one (cK := cT0) (fun {β} => callK_eq (β := β) Try.prog (spOf [t51, t58, t59, t74]) (inlOf [56, 57, 72, 73, 80]) extD attD uD 20) Try.func72 (c := codeOf Try.prog 72) (by kernel_rfl) fun p hp => by
        have hl : loops (codeOf Try.prog 72) = [(0, bodyOf Try.prog 72 0)] := by kernel_rfl
        rw [hl, List.mem_singleton] at hp
        subst hp
        exact sum72w))
      (lps_one (cK := cT1) (fun {β} => callLK_eq (β := β) Try.prog _ _ _ (callK_eq (β := β) Try.prog (spOf [t51, t58, t59, t74]) (inlOf [56, 57, 72, 73, 80]) extD attD uD 20) [(72, lp72w)]) Try.func80 (c := codeOf Try.prog 80) (by kernel_rfl) fun p hp => by
        have hl : loops (codeOf Try.prog 80) = [(0, bodyOf Try.prog 80 0), (2, bodyOf Try.prog 80 2)] := by kernel_rfl
        rw [hl] at hp
        simp only [List.mem_cons, List.not_mem_nil, or_false] at hp
        rcases hp with rfl | rfl
        · exact sum80o
        · exact sum80j))
      lps_unr) lps_unr) Try.func25 (c := codeOf Try.prog 25) (by kernel_rfl) lp25 (fun p hp => by
    have hl : loops (codeOf Try.prog 25) = [(2, bodyOf Try.prog 25 2)] := by kernel_rfl
    rw [hl, List.mem_singleton] at hp
    subst hp
    exact sum25) (.row [.int .i64]) fun args r hh => ?_
  unfold t25 at hh
  simp only at hh
  split at hh
  · rename_i ti n y m p
    obtain ⟨hg, hh⟩ := chk_run hh
    refine ⟨by kernel_rfl, ?_⟩
    obtain ⟨k, rfl⟩ : ∃ k, n = k + 1 := ⟨n - 1, by have := (sdB_iff.1 hg).h1; omega⟩
    rw [show stQ ti (k + 1) y m p = (stE ti k y m p).tq from rfl] at hh
    refine (lt25 ti k y m p).trans (Eq.trans ?_ hh)
    have hd := sdB_iff.1 hg
    have hn := hd.h2
    obtain rfl := hd.hm
    obtain ⟨vf, rf, tq, hc, ht, h1, h2⟩ := st25 (ti := ti) hd
    have o1 := out72w_of h1
    have hst : stE ti k y (k + 1) p = ⟨k + 1, k + 1, y, ((k + 1 : Nat) : Int), ((k + 1 : Nat) : Int), ti, k + 1, y, k + 1, p, k + 1, vf, k + 1, rf, ti, k + 1, y, k + 1, p, k + 1, tq⟩ := by
      unfold stE
      rw [o1]
      exact out25_of h2
    have b0 : decide (((k + 1 : Nat) : Int) ≤ 1000000) = true := decide_eq_true (by omega)
    have b1 : decide (((k + 1 : Nat) : Int) ≤ ((k + 1 : Nat) : Int)) = true := decide_eq_true (by omega)
    have b2 : decide (0 ≤ ((k + 1 : Nat) : Int)) = true := decide_eq_true (by omega)
    rw [o1, b0, b1, nslB_rep, gd72w_emb, gd25_emb, ok72w_of h1 rfl, ok25_of h2 rfl, b2, hst]
    simp only [Bool.and_true, cond_true, Nat.beq_refl]
    rfl
  · simp [Tr.run] at hh
end Go.Proofs.Ytfgniheefiefjaa

/- SpantreeSelf: the loops. Conditions: none beyond the context's. -/
namespace Go.Proofs.Ytfgniheefiefjaa
open Go.Evl Go.RowKit
structure S6k where
  z : Bool
  n5 : Nat
  q5 : Nat → Nat → Dt
  i : Int
  nn : Int
  xx : Int
  bu : Bool
  n7 : Nat
  q7 : Nat → Nat → Dt
  l7 : Int
  j : Int
  n6 : Nat
  q6 : Nat → Nat → Dt
  l6 : Int
  k : Int
  ti : Int
  n : Nat
  y : Nat → Nat → Dt
  m : Nat
  p : Nat → Nat → Dt
  t1 : Int
  a1 : Int
  p1 : Int
  v1 : ByteArray
  m1 : ByteArray
  b1 : Int
  c1 : Int
  s1 : Int
  n1 : Nat
  x1 : Nat → Nat → Dt
  l1 : Nat
  y1 : Nat → Nat → Dt
abbrev keep6k : List Nat := [2, 3, 5, 6, 7, 8, 9, 10, 46, 47, 48, 69, 70, 71]
abbrev vs6k (s : S6k) : List AV := [.bool s.z, .ptr 0 0, .isz s.n5 [.int .i64] s.q5, .int .i64 s.i, .ptr 1 0, .int .i64 s.nn, .int .i64 s.xx, .bool s.bu, .isz s.n7 SS s.q7, .int .i64 s.l7, .int .i64 s.j, .isz s.n6 SS s.q6, .int .i64 s.l6, .int .i64 s.k]
abbrev hp6k (s : S6k) : List Ob := [.cells [.int .i64 s.ti, .isz s.n SS s.y, .isz s.m [.int .i64] s.p] 36, .cells [.int .i64 s.t1, .int .i64 s.a1, .int .i64 s.p1, .str s.v1, .str s.m1, .int .i64 s.b1, .int .i64 s.c1, .int .i64 s.s1, .isz s.n1 [.str, .str] s.x1, .isz s.l1 [.int .i64, .int .i64] s.y1] 25]
noncomputable def dec6k (vs : List AV) (H : List Ob) : Option S6k :=
  match vs with
  | .bool z :: .ptr 0 0 :: .isz n5 [.int .i64] q5 :: .int .i64 i :: .ptr 1 0 :: .int .i64 nn :: .int .i64 xx :: V1 => match V1, H with
    | [.bool bu, .isz n7 [.int .i64, .int .i64, .int .i64, .str, .str, .int .i64, .int .i64, .int .i64, .row [.str, .str], .row [.int .i64, .int .i64]] q7, .int .i64 l7, .int .i64 j, .isz n6 [.int .i64, .int .i64, .int .i64, .str, .str, .int .i64, .int .i64, .int .i64, .row [.str, .str], .row [.int .i64, .int .i64]] q6, .int .i64 l6, .int .i64 k], [.cells [.int .i64 ti, .isz n [.int .i64, .int .i64, .int .i64, .str, .str, .int .i64, .int .i64, .int .i64, .row [.str, .str], .row [.int .i64, .int .i64]] y, .isz m [.int .i64] p] 36, .cells [.int .i64 t1, .int .i64 a1, .int .i64 p1, .str v1, .str m1, .int .i64 b1, .int .i64 c1, .int .i64 s1, .isz n1 [.str, .str] x1, .isz l1 [.int .i64, .int .i64] y1] 25] => some ⟨z, n5, q5, i, nn, xx, bu, n7, q7, l7, j, n6, q6, l6, k, ti, n, y, m, p, t1, a1, p1, v1, m1, b1, c1, s1, n1, x1, l1, y1⟩
    | _, _ => none
  | _ => none
noncomputable def rnd6k (s : S6k) : Option (Ex × List AV × List Ob) :=
  bif decide (s.k < s.l6) then bif decide (0 ≤ s.k) && decide (s.k < (s.n6 : Int)) then bif s.bu then some (.normal, [.bool s.z, .ptr 0 0, .isz s.n5 [.int .i64] s.q5, .int .i64 s.i, .ptr 1 0, .int .i64 s.nn, .int .i64 s.xx, .bool true, .isz s.n7 SS s.q7, .int .i64 s.l7, .int .i64 s.j, .isz s.n6 SS s.q6, .int .i64 s.l6, .int .i64 (IntKind.i64.wrap (s.k + 1))], [.cells [.int .i64 s.ti, .isz s.n SS s.y, .isz s.m [.int .i64] s.p] 36, .cells [.int .i64 s.t1, .int .i64 s.a1, .int .i64 s.p1, .str s.v1, .str s.m1, .int .i64 s.b1, .int .i64 s.c1, .int .i64 s.s1, .isz s.n1 [.str, .str] s.x1, .isz s.l1 [.int .i64, .int .i64] s.y1] 25]) else bif decide (0 ≤ s.k) && decide (s.k < (s.m : Int)) then bif (s.p s.k.toNat 0).n == s.i then bif decide ((s.q6 s.k.toNat 5).n ≤ s.xx) then bif decide (s.xx < (s.q6 s.k.toNat 6).n) then some (.normal, [.bool s.z, .ptr 0 0, .isz s.n5 [.int .i64] s.q5, .int .i64 s.i, .ptr 1 0, .int .i64 s.nn, .int .i64 s.xx, .bool true, .isz s.n7 SS s.q7, .int .i64 s.l7, .int .i64 s.j, .isz s.n6 SS s.q6, .int .i64 s.l6, .int .i64 (IntKind.i64.wrap (s.k + 1))], [.cells [.int .i64 s.ti, .isz s.n SS s.y, .isz s.m [.int .i64] s.p] 36, .cells [.int .i64 s.t1, .int .i64 s.a1, .int .i64 s.p1, .str s.v1, .str s.m1, .int .i64 s.b1, .int .i64 s.c1, .int .i64 s.s1, .isz s.n1 [.str, .str] s.x1, .isz s.l1 [.int .i64, .int .i64] s.y1] 25]) else some (.normal, [.bool s.z, .ptr 0 0, .isz s.n5 [.int .i64] s.q5, .int .i64 s.i, .ptr 1 0, .int .i64 s.nn, .int .i64 s.xx, .bool false, .isz s.n7 SS s.q7, .int .i64 s.l7, .int .i64 s.j, .isz s.n6 SS s.q6, .int .i64 s.l6, .int .i64 (IntKind.i64.wrap (s.k + 1))], [.cells [.int .i64 s.ti, .isz s.n SS s.y, .isz s.m [.int .i64] s.p] 36, .cells [.int .i64 s.t1, .int .i64 s.a1, .int .i64 s.p1, .str s.v1, .str s.m1, .int .i64 s.b1, .int .i64 s.c1, .int .i64 s.s1, .isz s.n1 [.str, .str] s.x1, .isz s.l1 [.int .i64, .int .i64] s.y1] 25]) else some (.normal, [.bool s.z, .ptr 0 0, .isz s.n5 [.int .i64] s.q5, .int .i64 s.i, .ptr 1 0, .int .i64 s.nn, .int .i64 s.xx, .bool false, .isz s.n7 SS s.q7, .int .i64 s.l7, .int .i64 s.j, .isz s.n6 SS s.q6, .int .i64 s.l6, .int .i64 (IntKind.i64.wrap (s.k + 1))], [.cells [.int .i64 s.ti, .isz s.n SS s.y, .isz s.m [.int .i64] s.p] 36, .cells [.int .i64 s.t1, .int .i64 s.a1, .int .i64 s.p1, .str s.v1, .str s.m1, .int .i64 s.b1, .int .i64 s.c1, .int .i64 s.s1, .isz s.n1 [.str, .str] s.x1, .isz s.l1 [.int .i64, .int .i64] s.y1] 25]) else some (.normal, [.bool s.z, .ptr 0 0, .isz s.n5 [.int .i64] s.q5, .int .i64 s.i, .ptr 1 0, .int .i64 s.nn, .int .i64 s.xx, .bool false, .isz s.n7 SS s.q7, .int .i64 s.l7, .int .i64 s.j, .isz s.n6 SS s.q6, .int .i64 s.l6, .int .i64 (IntKind.i64.wrap (s.k + 1))], [.cells [.int .i64 s.ti, .isz s.n SS s.y, .isz s.m [.int .i64] s.p] 36, .cells [.int .i64 s.t1, .int .i64 s.a1, .int .i64 s.p1, .str s.v1, .str s.m1, .int .i64 s.b1, .int .i64 s.c1, .int .i64 s.s1, .isz s.n1 [.str, .str] s.x1, .isz s.l1 [.int .i64, .int .i64] s.y1] 25]) else none else none else some (.exit 4, [.bool s.z, .ptr 0 0, .isz s.n5 [.int .i64] s.q5, .int .i64 s.i, .ptr 1 0, .int .i64 s.nn, .int .i64 s.xx, .bool s.bu, .isz s.n7 SS s.q7, .int .i64 s.l7, .int .i64 s.j, .isz s.n6 SS s.q6, .int .i64 s.l6, .int .i64 s.k], [.cells [.int .i64 s.ti, .isz s.n SS s.y, .isz s.m [.int .i64] s.p] 36, .cells [.int .i64 s.t1, .int .i64 s.a1, .int .i64 s.p1, .str s.v1, .str s.m1, .int .i64 s.b1, .int .i64 s.c1, .int .i64 s.s1, .isz s.n1 [.str, .str] s.x1, .isz s.l1 [.int .i64, .int .i64] s.y1] 25])
noncomputable def L6k : Ls S6k := ⟨4, dec6k, vs6k, hp6k, rnd6k⟩
set_option maxRecDepth 20000 in
theorem L6k_ok : L6k.Ok := fun vs H s h => by
  have h : dec6k vs H = some s := h
  unfold dec6k at h
  split at h
  · split at h
    · obtain rfl := Option.some.inj h
      exact ⟨rfl, rfl⟩
    · cases h
  · cases h
noncomputable def ok6k (s : S6k) : Bool := L6k.ok 0 s
noncomputable def out6k (s : S6k) : S6k := (L6k.end_ s).2
noncomputable def ret6k (s : S6k) : Bool := (L6k.end_ s).1
noncomputable def fin6k (s : S6k) : Tr (Ex × List AV × List Ob) := .leaf (.exit 4, vs6k (out6k s), hp6k (out6k s))
noncomputable abbrev f6ks : List AV → List Ob → Tr (Ex × List AV × List Ob) := stF dec6k ok6k fin6k
theorem de6k (c : S6k) : L6k.dec (L6k.vs c) (L6k.hp c) = some c := by kernel_rfl
theorem on6k {s s1 s2 : S6k} {b : Bool} (h : rnd6k s = some (.normal, vs6k s1, hp6k s1)) (h2 : L6k.To s1 b s2) : L6k.To s b s2 := L6k.to_on h (de6k s1) h2
theorem ot6k {s s1 : S6k} (h : rnd6k s = some (.exit 4, vs6k s1, hp6k s1)) : L6k.To s false s1 := L6k.to_out h (de6k s1)
theorem ok6k_of {s s1 : S6k} {b : Bool} (h : L6k.To s b s1) (hb : mdB 0 b = true) : ok6k s = true := h.ok L6k (m := 0) hb
theorem out6k_of {s s1 : S6k} {b : Bool} (h : L6k.To s b s1) : out6k s = s1 := congrArg Prod.snd (h.end_ L6k)
theorem ret6k_of {s s1 : S6k} {b : Bool} (h : L6k.To s b s1) : ret6k s = b := congrArg Prod.fst (h.end_ L6k)
structure S6x where
  z : Bool
  n5 : Nat
  q5 : Nat → Nat → Dt
  i : Int
  nn : Int
  xx : Int
  n7 : Nat
  q7 : Nat → Nat → Dt
  l7 : Int
  j : Int
  ti : Int
  n : Nat
  y : Nat → Nat → Dt
  m : Nat
  p : Nat → Nat → Dt
  t1 : Int
  a1 : Int
  p1 : Int
  v1 : ByteArray
  m1 : ByteArray
  b1 : Int
  c1 : Int
  s1 : Int
  n1 : Nat
  x1 : Nat → Nat → Dt
  l1 : Nat
  y1 : Nat → Nat → Dt
abbrev keep6x : List Nat := [2, 3, 5, 6, 7, 8, 9, 46, 47, 48]
abbrev vs6x (s : S6x) : List AV := [.bool s.z, .ptr 0 0, .isz s.n5 [.int .i64] s.q5, .int .i64 s.i, .ptr 1 0, .int .i64 s.nn, .int .i64 s.xx, .isz s.n7 SS s.q7, .int .i64 s.l7, .int .i64 s.j]
abbrev hp6x (s : S6x) : List Ob := [.cells [.int .i64 s.ti, .isz s.n SS s.y, .isz s.m [.int .i64] s.p] 36, .cells [.int .i64 s.t1, .int .i64 s.a1, .int .i64 s.p1, .str s.v1, .str s.m1, .int .i64 s.b1, .int .i64 s.c1, .int .i64 s.s1, .isz s.n1 [.str, .str] s.x1, .isz s.l1 [.int .i64, .int .i64] s.y1] 25]
noncomputable def dec6x : List AV → List Ob → Option S6x
  | [.bool z, .ptr 0 0, .isz n5 [.int .i64] q5, .int .i64 i, .ptr 1 0, .int .i64 nn, .int .i64 xx, .isz n7 [.int .i64, .int .i64, .int .i64, .str, .str, .int .i64, .int .i64, .int .i64, .row [.str, .str], .row [.int .i64, .int .i64]] q7, .int .i64 l7, .int .i64 j], [.cells [.int .i64 ti, .isz n [.int .i64, .int .i64, .int .i64, .str, .str, .int .i64, .int .i64, .int .i64, .row [.str, .str], .row [.int .i64, .int .i64]] y, .isz m [.int .i64] p] 36, .cells [.int .i64 t1, .int .i64 a1, .int .i64 p1, .str v1, .str m1, .int .i64 b1, .int .i64 c1, .int .i64 s1, .isz n1 [.str, .str] x1, .isz l1 [.int .i64, .int .i64] y1] 25] => some ⟨z, n5, q5, i, nn, xx, n7, q7, l7, j, ti, n, y, m, p, t1, a1, p1, v1, m1, b1, c1, s1, n1, x1, l1, y1⟩
  | _, _ => none
noncomputable def rnd6x (s : S6x) : Option (Ex × List AV × List Ob) :=
  bif decide (s.xx < s.c1) then bif decide (s.xx ≤ IntKind.i64.wrap (s.b1 + 300)) then bif ok6k { z := s.z, n5 := s.n5, q5 := s.q5, i := s.i, nn := s.nn, xx := s.xx, bu := false, n7 := s.n7, q7 := s.q7, l7 := s.l7, j := s.j, n6 := s.n, q6 := s.y, l6 := (s.n : Int), k := 0, ti := s.ti, n := s.n, y := s.y, m := s.m, p := s.p, t1 := s.t1, a1 := s.a1, p1 := s.p1, v1 := s.v1, m1 := s.m1, b1 := s.b1, c1 := s.c1, s1 := s.s1, n1 := s.n1, x1 := s.x1, l1 := s.l1, y1 := s.y1 } then bif (out6k { z := s.z, n5 := s.n5, q5 := s.q5, i := s.i, nn := s.nn, xx := s.xx, bu := false, n7 := s.n7, q7 := s.q7, l7 := s.l7, j := s.j, n6 := s.n, q6 := s.y, l6 := (s.n : Int), k := 0, ti := s.ti, n := s.n, y := s.y, m := s.m, p := s.p, t1 := s.t1, a1 := s.a1, p1 := s.p1, v1 := s.v1, m1 := s.m1, b1 := s.b1, c1 := s.c1, s1 := s.s1, n1 := s.n1, x1 := s.x1, l1 := s.l1, y1 := s.y1 }).7 then some (.normal, [.bool (out6k { z := s.z, n5 := s.n5, q5 := s.q5, i := s.i, nn := s.nn, xx := s.xx, bu := false, n7 := s.n7, q7 := s.q7, l7 := s.l7, j := s.j, n6 := s.n, q6 := s.y, l6 := (s.n : Int), k := 0, ti := s.ti, n := s.n, y := s.y, m := s.m, p := s.p, t1 := s.t1, a1 := s.a1, p1 := s.p1, v1 := s.v1, m1 := s.m1, b1 := s.b1, c1 := s.c1, s1 := s.s1, n1 := s.n1, x1 := s.x1, l1 := s.l1, y1 := s.y1 }).1, .ptr 0 0, .isz (out6k { z := s.z, n5 := s.n5, q5 := s.q5, i := s.i, nn := s.nn, xx := s.xx, bu := false, n7 := s.n7, q7 := s.q7, l7 := s.l7, j := s.j, n6 := s.n, q6 := s.y, l6 := (s.n : Int), k := 0, ti := s.ti, n := s.n, y := s.y, m := s.m, p := s.p, t1 := s.t1, a1 := s.a1, p1 := s.p1, v1 := s.v1, m1 := s.m1, b1 := s.b1, c1 := s.c1, s1 := s.s1, n1 := s.n1, x1 := s.x1, l1 := s.l1, y1 := s.y1 }).2 [.int .i64] (out6k { z := s.z, n5 := s.n5, q5 := s.q5, i := s.i, nn := s.nn, xx := s.xx, bu := false, n7 := s.n7, q7 := s.q7, l7 := s.l7, j := s.j, n6 := s.n, q6 := s.y, l6 := (s.n : Int), k := 0, ti := s.ti, n := s.n, y := s.y, m := s.m, p := s.p, t1 := s.t1, a1 := s.a1, p1 := s.p1, v1 := s.v1, m1 := s.m1, b1 := s.b1, c1 := s.c1, s1 := s.s1, n1 := s.n1, x1 := s.x1, l1 := s.l1, y1 := s.y1 }).q5, .int .i64 (out6k { z := s.z, n5 := s.n5, q5 := s.q5, i := s.i, nn := s.nn, xx := s.xx, bu := false, n7 := s.n7, q7 := s.q7, l7 := s.l7, j := s.j, n6 := s.n, q6 := s.y, l6 := (s.n : Int), k := 0, ti := s.ti, n := s.n, y := s.y, m := s.m, p := s.p, t1 := s.t1, a1 := s.a1, p1 := s.p1, v1 := s.v1, m1 := s.m1, b1 := s.b1, c1 := s.c1, s1 := s.s1, n1 := s.n1, x1 := s.x1, l1 := s.l1, y1 := s.y1 }).4, .ptr 1 0, .int .i64 (out6k { z := s.z, n5 := s.n5, q5 := s.q5, i := s.i, nn := s.nn, xx := s.xx, bu := false, n7 := s.n7, q7 := s.q7, l7 := s.l7, j := s.j, n6 := s.n, q6 := s.y, l6 := (s.n : Int), k := 0, ti := s.ti, n := s.n, y := s.y, m := s.m, p := s.p, t1 := s.t1, a1 := s.a1, p1 := s.p1, v1 := s.v1, m1 := s.m1, b1 := s.b1, c1 := s.c1, s1 := s.s1, n1 := s.n1, x1 := s.x1, l1 := s.l1, y1 := s.y1 }).5, .int .i64 (IntKind.i64.wrap ((out6k { z := s.z, n5 := s.n5, q5 := s.q5, i := s.i, nn := s.nn, xx := s.xx, bu := false, n7 := s.n7, q7 := s.q7, l7 := s.l7, j := s.j, n6 := s.n, q6 := s.y, l6 := (s.n : Int), k := 0, ti := s.ti, n := s.n, y := s.y, m := s.m, p := s.p, t1 := s.t1, a1 := s.a1, p1 := s.p1, v1 := s.v1, m1 := s.m1, b1 := s.b1, c1 := s.c1, s1 := s.s1, n1 := s.n1, x1 := s.x1, l1 := s.l1, y1 := s.y1 }).6 + 1)), .isz (out6k { z := s.z, n5 := s.n5, q5 := s.q5, i := s.i, nn := s.nn, xx := s.xx, bu := false, n7 := s.n7, q7 := s.q7, l7 := s.l7, j := s.j, n6 := s.n, q6 := s.y, l6 := (s.n : Int), k := 0, ti := s.ti, n := s.n, y := s.y, m := s.m, p := s.p, t1 := s.t1, a1 := s.a1, p1 := s.p1, v1 := s.v1, m1 := s.m1, b1 := s.b1, c1 := s.c1, s1 := s.s1, n1 := s.n1, x1 := s.x1, l1 := s.l1, y1 := s.y1 }).8 SS (out6k { z := s.z, n5 := s.n5, q5 := s.q5, i := s.i, nn := s.nn, xx := s.xx, bu := false, n7 := s.n7, q7 := s.q7, l7 := s.l7, j := s.j, n6 := s.n, q6 := s.y, l6 := (s.n : Int), k := 0, ti := s.ti, n := s.n, y := s.y, m := s.m, p := s.p, t1 := s.t1, a1 := s.a1, p1 := s.p1, v1 := s.v1, m1 := s.m1, b1 := s.b1, c1 := s.c1, s1 := s.s1, n1 := s.n1, x1 := s.x1, l1 := s.l1, y1 := s.y1 }).q7, .int .i64 (out6k { z := s.z, n5 := s.n5, q5 := s.q5, i := s.i, nn := s.nn, xx := s.xx, bu := false, n7 := s.n7, q7 := s.q7, l7 := s.l7, j := s.j, n6 := s.n, q6 := s.y, l6 := (s.n : Int), k := 0, ti := s.ti, n := s.n, y := s.y, m := s.m, p := s.p, t1 := s.t1, a1 := s.a1, p1 := s.p1, v1 := s.v1, m1 := s.m1, b1 := s.b1, c1 := s.c1, s1 := s.s1, n1 := s.n1, x1 := s.x1, l1 := s.l1, y1 := s.y1 }).10, .int .i64 (out6k { z := s.z, n5 := s.n5, q5 := s.q5, i := s.i, nn := s.nn, xx := s.xx, bu := false, n7 := s.n7, q7 := s.q7, l7 := s.l7, j := s.j, n6 := s.n, q6 := s.y, l6 := (s.n : Int), k := 0, ti := s.ti, n := s.n, y := s.y, m := s.m, p := s.p, t1 := s.t1, a1 := s.a1, p1 := s.p1, v1 := s.v1, m1 := s.m1, b1 := s.b1, c1 := s.c1, s1 := s.s1, n1 := s.n1, x1 := s.x1, l1 := s.l1, y1 := s.y1 }).11], [.cells [.int .i64 (out6k { z := s.z, n5 := s.n5, q5 := s.q5, i := s.i, nn := s.nn, xx := s.xx, bu := false, n7 := s.n7, q7 := s.q7, l7 := s.l7, j := s.j, n6 := s.n, q6 := s.y, l6 := (s.n : Int), k := 0, ti := s.ti, n := s.n, y := s.y, m := s.m, p := s.p, t1 := s.t1, a1 := s.a1, p1 := s.p1, v1 := s.v1, m1 := s.m1, b1 := s.b1, c1 := s.c1, s1 := s.s1, n1 := s.n1, x1 := s.x1, l1 := s.l1, y1 := s.y1 }).16, .isz (out6k { z := s.z, n5 := s.n5, q5 := s.q5, i := s.i, nn := s.nn, xx := s.xx, bu := false, n7 := s.n7, q7 := s.q7, l7 := s.l7, j := s.j, n6 := s.n, q6 := s.y, l6 := (s.n : Int), k := 0, ti := s.ti, n := s.n, y := s.y, m := s.m, p := s.p, t1 := s.t1, a1 := s.a1, p1 := s.p1, v1 := s.v1, m1 := s.m1, b1 := s.b1, c1 := s.c1, s1 := s.s1, n1 := s.n1, x1 := s.x1, l1 := s.l1, y1 := s.y1 }).17 SS (out6k { z := s.z, n5 := s.n5, q5 := s.q5, i := s.i, nn := s.nn, xx := s.xx, bu := false, n7 := s.n7, q7 := s.q7, l7 := s.l7, j := s.j, n6 := s.n, q6 := s.y, l6 := (s.n : Int), k := 0, ti := s.ti, n := s.n, y := s.y, m := s.m, p := s.p, t1 := s.t1, a1 := s.a1, p1 := s.p1, v1 := s.v1, m1 := s.m1, b1 := s.b1, c1 := s.c1, s1 := s.s1, n1 := s.n1, x1 := s.x1, l1 := s.l1, y1 := s.y1 }).y, .isz (out6k { z := s.z, n5 := s.n5, q5 := s.q5, i := s.i, nn := s.nn, xx := s.xx, bu := false, n7 := s.n7, q7 := s.q7, l7 := s.l7, j := s.j, n6 := s.n, q6 := s.y, l6 := (s.n : Int), k := 0, ti := s.ti, n := s.n, y := s.y, m := s.m, p := s.p, t1 := s.t1, a1 := s.a1, p1 := s.p1, v1 := s.v1, m1 := s.m1, b1 := s.b1, c1 := s.c1, s1 := s.s1, n1 := s.n1, x1 := s.x1, l1 := s.l1, y1 := s.y1 }).19 [.int .i64] (out6k { z := s.z, n5 := s.n5, q5 := s.q5, i := s.i, nn := s.nn, xx := s.xx, bu := false, n7 := s.n7, q7 := s.q7, l7 := s.l7, j := s.j, n6 := s.n, q6 := s.y, l6 := (s.n : Int), k := 0, ti := s.ti, n := s.n, y := s.y, m := s.m, p := s.p, t1 := s.t1, a1 := s.a1, p1 := s.p1, v1 := s.v1, m1 := s.m1, b1 := s.b1, c1 := s.c1, s1 := s.s1, n1 := s.n1, x1 := s.x1, l1 := s.l1, y1 := s.y1 }).p] 36, .cells [.int .i64 (out6k { z := s.z, n5 := s.n5, q5 := s.q5, i := s.i, nn := s.nn, xx := s.xx, bu := false, n7 := s.n7, q7 := s.q7, l7 := s.l7, j := s.j, n6 := s.n, q6 := s.y, l6 := (s.n : Int), k := 0, ti := s.ti, n := s.n, y := s.y, m := s.m, p := s.p, t1 := s.t1, a1 := s.a1, p1 := s.p1, v1 := s.v1, m1 := s.m1, b1 := s.b1, c1 := s.c1, s1 := s.s1, n1 := s.n1, x1 := s.x1, l1 := s.l1, y1 := s.y1 }).21, .int .i64 (out6k { z := s.z, n5 := s.n5, q5 := s.q5, i := s.i, nn := s.nn, xx := s.xx, bu := false, n7 := s.n7, q7 := s.q7, l7 := s.l7, j := s.j, n6 := s.n, q6 := s.y, l6 := (s.n : Int), k := 0, ti := s.ti, n := s.n, y := s.y, m := s.m, p := s.p, t1 := s.t1, a1 := s.a1, p1 := s.p1, v1 := s.v1, m1 := s.m1, b1 := s.b1, c1 := s.c1, s1 := s.s1, n1 := s.n1, x1 := s.x1, l1 := s.l1, y1 := s.y1 }).22, .int .i64 (out6k { z := s.z, n5 := s.n5, q5 := s.q5, i := s.i, nn := s.nn, xx := s.xx, bu := false, n7 := s.n7, q7 := s.q7, l7 := s.l7, j := s.j, n6 := s.n, q6 := s.y, l6 := (s.n : Int), k := 0, ti := s.ti, n := s.n, y := s.y, m := s.m, p := s.p, t1 := s.t1, a1 := s.a1, p1 := s.p1, v1 := s.v1, m1 := s.m1, b1 := s.b1, c1 := s.c1, s1 := s.s1, n1 := s.n1, x1 := s.x1, l1 := s.l1, y1 := s.y1 }).23, .str (out6k { z := s.z, n5 := s.n5, q5 := s.q5, i := s.i, nn := s.nn, xx := s.xx, bu := false, n7 := s.n7, q7 := s.q7, l7 := s.l7, j := s.j, n6 := s.n, q6 := s.y, l6 := (s.n : Int), k := 0, ti := s.ti, n := s.n, y := s.y, m := s.m, p := s.p, t1 := s.t1, a1 := s.a1, p1 := s.p1, v1 := s.v1, m1 := s.m1, b1 := s.b1, c1 := s.c1, s1 := s.s1, n1 := s.n1, x1 := s.x1, l1 := s.l1, y1 := s.y1 }).v1, .str (out6k { z := s.z, n5 := s.n5, q5 := s.q5, i := s.i, nn := s.nn, xx := s.xx, bu := false, n7 := s.n7, q7 := s.q7, l7 := s.l7, j := s.j, n6 := s.n, q6 := s.y, l6 := (s.n : Int), k := 0, ti := s.ti, n := s.n, y := s.y, m := s.m, p := s.p, t1 := s.t1, a1 := s.a1, p1 := s.p1, v1 := s.v1, m1 := s.m1, b1 := s.b1, c1 := s.c1, s1 := s.s1, n1 := s.n1, x1 := s.x1, l1 := s.l1, y1 := s.y1 }).m1, .int .i64 (out6k { z := s.z, n5 := s.n5, q5 := s.q5, i := s.i, nn := s.nn, xx := s.xx, bu := false, n7 := s.n7, q7 := s.q7, l7 := s.l7, j := s.j, n6 := s.n, q6 := s.y, l6 := (s.n : Int), k := 0, ti := s.ti, n := s.n, y := s.y, m := s.m, p := s.p, t1 := s.t1, a1 := s.a1, p1 := s.p1, v1 := s.v1, m1 := s.m1, b1 := s.b1, c1 := s.c1, s1 := s.s1, n1 := s.n1, x1 := s.x1, l1 := s.l1, y1 := s.y1 }).26, .int .i64 (out6k { z := s.z, n5 := s.n5, q5 := s.q5, i := s.i, nn := s.nn, xx := s.xx, bu := false, n7 := s.n7, q7 := s.q7, l7 := s.l7, j := s.j, n6 := s.n, q6 := s.y, l6 := (s.n : Int), k := 0, ti := s.ti, n := s.n, y := s.y, m := s.m, p := s.p, t1 := s.t1, a1 := s.a1, p1 := s.p1, v1 := s.v1, m1 := s.m1, b1 := s.b1, c1 := s.c1, s1 := s.s1, n1 := s.n1, x1 := s.x1, l1 := s.l1, y1 := s.y1 }).27, .int .i64 (out6k { z := s.z, n5 := s.n5, q5 := s.q5, i := s.i, nn := s.nn, xx := s.xx, bu := false, n7 := s.n7, q7 := s.q7, l7 := s.l7, j := s.j, n6 := s.n, q6 := s.y, l6 := (s.n : Int), k := 0, ti := s.ti, n := s.n, y := s.y, m := s.m, p := s.p, t1 := s.t1, a1 := s.a1, p1 := s.p1, v1 := s.v1, m1 := s.m1, b1 := s.b1, c1 := s.c1, s1 := s.s1, n1 := s.n1, x1 := s.x1, l1 := s.l1, y1 := s.y1 }).28, .isz (out6k { z := s.z, n5 := s.n5, q5 := s.q5, i := s.i, nn := s.nn, xx := s.xx, bu := false, n7 := s.n7, q7 := s.q7, l7 := s.l7, j := s.j, n6 := s.n, q6 := s.y, l6 := (s.n : Int), k := 0, ti := s.ti, n := s.n, y := s.y, m := s.m, p := s.p, t1 := s.t1, a1 := s.a1, p1 := s.p1, v1 := s.v1, m1 := s.m1, b1 := s.b1, c1 := s.c1, s1 := s.s1, n1 := s.n1, x1 := s.x1, l1 := s.l1, y1 := s.y1 }).29 [.str, .str] (out6k { z := s.z, n5 := s.n5, q5 := s.q5, i := s.i, nn := s.nn, xx := s.xx, bu := false, n7 := s.n7, q7 := s.q7, l7 := s.l7, j := s.j, n6 := s.n, q6 := s.y, l6 := (s.n : Int), k := 0, ti := s.ti, n := s.n, y := s.y, m := s.m, p := s.p, t1 := s.t1, a1 := s.a1, p1 := s.p1, v1 := s.v1, m1 := s.m1, b1 := s.b1, c1 := s.c1, s1 := s.s1, n1 := s.n1, x1 := s.x1, l1 := s.l1, y1 := s.y1 }).x1, .isz (out6k { z := s.z, n5 := s.n5, q5 := s.q5, i := s.i, nn := s.nn, xx := s.xx, bu := false, n7 := s.n7, q7 := s.q7, l7 := s.l7, j := s.j, n6 := s.n, q6 := s.y, l6 := (s.n : Int), k := 0, ti := s.ti, n := s.n, y := s.y, m := s.m, p := s.p, t1 := s.t1, a1 := s.a1, p1 := s.p1, v1 := s.v1, m1 := s.m1, b1 := s.b1, c1 := s.c1, s1 := s.s1, n1 := s.n1, x1 := s.x1, l1 := s.l1, y1 := s.y1 }).31 [.int .i64, .int .i64] (out6k { z := s.z, n5 := s.n5, q5 := s.q5, i := s.i, nn := s.nn, xx := s.xx, bu := false, n7 := s.n7, q7 := s.q7, l7 := s.l7, j := s.j, n6 := s.n, q6 := s.y, l6 := (s.n : Int), k := 0, ti := s.ti, n := s.n, y := s.y, m := s.m, p := s.p, t1 := s.t1, a1 := s.a1, p1 := s.p1, v1 := s.v1, m1 := s.m1, b1 := s.b1, c1 := s.c1, s1 := s.s1, n1 := s.n1, x1 := s.x1, l1 := s.l1, y1 := s.y1 }).y1] 25]) else some (.normal, [.bool (out6k { z := s.z, n5 := s.n5, q5 := s.q5, i := s.i, nn := s.nn, xx := s.xx, bu := false, n7 := s.n7, q7 := s.q7, l7 := s.l7, j := s.j, n6 := s.n, q6 := s.y, l6 := (s.n : Int), k := 0, ti := s.ti, n := s.n, y := s.y, m := s.m, p := s.p, t1 := s.t1, a1 := s.a1, p1 := s.p1, v1 := s.v1, m1 := s.m1, b1 := s.b1, c1 := s.c1, s1 := s.s1, n1 := s.n1, x1 := s.x1, l1 := s.l1, y1 := s.y1 }).1, .ptr 0 0, .isz (out6k { z := s.z, n5 := s.n5, q5 := s.q5, i := s.i, nn := s.nn, xx := s.xx, bu := false, n7 := s.n7, q7 := s.q7, l7 := s.l7, j := s.j, n6 := s.n, q6 := s.y, l6 := (s.n : Int), k := 0, ti := s.ti, n := s.n, y := s.y, m := s.m, p := s.p, t1 := s.t1, a1 := s.a1, p1 := s.p1, v1 := s.v1, m1 := s.m1, b1 := s.b1, c1 := s.c1, s1 := s.s1, n1 := s.n1, x1 := s.x1, l1 := s.l1, y1 := s.y1 }).2 [.int .i64] (out6k { z := s.z, n5 := s.n5, q5 := s.q5, i := s.i, nn := s.nn, xx := s.xx, bu := false, n7 := s.n7, q7 := s.q7, l7 := s.l7, j := s.j, n6 := s.n, q6 := s.y, l6 := (s.n : Int), k := 0, ti := s.ti, n := s.n, y := s.y, m := s.m, p := s.p, t1 := s.t1, a1 := s.a1, p1 := s.p1, v1 := s.v1, m1 := s.m1, b1 := s.b1, c1 := s.c1, s1 := s.s1, n1 := s.n1, x1 := s.x1, l1 := s.l1, y1 := s.y1 }).q5, .int .i64 (out6k { z := s.z, n5 := s.n5, q5 := s.q5, i := s.i, nn := s.nn, xx := s.xx, bu := false, n7 := s.n7, q7 := s.q7, l7 := s.l7, j := s.j, n6 := s.n, q6 := s.y, l6 := (s.n : Int), k := 0, ti := s.ti, n := s.n, y := s.y, m := s.m, p := s.p, t1 := s.t1, a1 := s.a1, p1 := s.p1, v1 := s.v1, m1 := s.m1, b1 := s.b1, c1 := s.c1, s1 := s.s1, n1 := s.n1, x1 := s.x1, l1 := s.l1, y1 := s.y1 }).4, .ptr 1 0, .int .i64 (IntKind.i64.wrap ((out6k { z := s.z, n5 := s.n5, q5 := s.q5, i := s.i, nn := s.nn, xx := s.xx, bu := false, n7 := s.n7, q7 := s.q7, l7 := s.l7, j := s.j, n6 := s.n, q6 := s.y, l6 := (s.n : Int), k := 0, ti := s.ti, n := s.n, y := s.y, m := s.m, p := s.p, t1 := s.t1, a1 := s.a1, p1 := s.p1, v1 := s.v1, m1 := s.m1, b1 := s.b1, c1 := s.c1, s1 := s.s1, n1 := s.n1, x1 := s.x1, l1 := s.l1, y1 := s.y1 }).5 + 1)), .int .i64 (IntKind.i64.wrap ((out6k { z := s.z, n5 := s.n5, q5 := s.q5, i := s.i, nn := s.nn, xx := s.xx, bu := false, n7 := s.n7, q7 := s.q7, l7 := s.l7, j := s.j, n6 := s.n, q6 := s.y, l6 := (s.n : Int), k := 0, ti := s.ti, n := s.n, y := s.y, m := s.m, p := s.p, t1 := s.t1, a1 := s.a1, p1 := s.p1, v1 := s.v1, m1 := s.m1, b1 := s.b1, c1 := s.c1, s1 := s.s1, n1 := s.n1, x1 := s.x1, l1 := s.l1, y1 := s.y1 }).6 + 1)), .isz (out6k { z := s.z, n5 := s.n5, q5 := s.q5, i := s.i, nn := s.nn, xx := s.xx, bu := false, n7 := s.n7, q7 := s.q7, l7 := s.l7, j := s.j, n6 := s.n, q6 := s.y, l6 := (s.n : Int), k := 0, ti := s.ti, n := s.n, y := s.y, m := s.m, p := s.p, t1 := s.t1, a1 := s.a1, p1 := s.p1, v1 := s.v1, m1 := s.m1, b1 := s.b1, c1 := s.c1, s1 := s.s1, n1 := s.n1, x1 := s.x1, l1 := s.l1, y1 := s.y1 }).8 SS (out6k { z := s.z, n5 := s.n5, q5 := s.q5, i := s.i, nn := s.nn, xx := s.xx, bu := false, n7 := s.n7, q7 := s.q7, l7 := s.l7, j := s.j, n6 := s.n, q6 := s.y, l6 := (s.n : Int), k := 0, ti := s.ti, n := s.n, y := s.y, m := s.m, p := s.p, t1 := s.t1, a1 := s.a1, p1 := s.p1, v1 := s.v1, m1 := s.m1, b1 := s.b1, c1 := s.c1, s1 := s.s1, n1 := s.n1, x1 := s.x1, l1 := s.l1, y1 := s.y1 }).q7, .int .i64 (out6k { z := s.z, n5 := s.n5, q5 := s.q5, i := s.i, nn := s.nn, xx := s.xx, bu := false, n7 := s.n7, q7 := s.q7, l7 := s.l7, j := s.j, n6 := s.n, q6 := s.y, l6 := (s.n : Int), k := 0, ti := s.ti, n := s.n, y := s.y, m := s.m, p := s.p, t1 := s.t1, a1 := s.a1, p1 := s.p1, v1 := s.v1, m1 := s.m1, b1 := s.b1, c1 := s.c1, s1 := s.s1, n1 := s.n1, x1 := s.x1, l1 := s.l1, y1 := s.y1 }).10, .int .i64 (out6k { z := s.z, n5 := s.n5, q5 := s.q5, i := s.i, nn := s.nn, xx := s.xx, bu := false, n7 := s.n7, q7 := s.q7, l7 := s.l7, j := s.j, n6 := s.n, q6 := s.y, l6 := (s.n : Int), k := 0, ti := s.ti, n := s.n, y := s.y, m := s.m, p := s.p, t1 := s.t1, a1 := s.a1, p1 := s.p1, v1 := s.v1, m1 := s.m1, b1 := s.b1, c1 := s.c1, s1 := s.s1, n1 := s.n1, x1 := s.x1, l1 := s.l1, y1 := s.y1 }).11], [.cells [.int .i64 (out6k { z := s.z, n5 := s.n5, q5 := s.q5, i := s.i, nn := s.nn, xx := s.xx, bu := false, n7 := s.n7, q7 := s.q7, l7 := s.l7, j := s.j, n6 := s.n, q6 := s.y, l6 := (s.n : Int), k := 0, ti := s.ti, n := s.n, y := s.y, m := s.m, p := s.p, t1 := s.t1, a1 := s.a1, p1 := s.p1, v1 := s.v1, m1 := s.m1, b1 := s.b1, c1 := s.c1, s1 := s.s1, n1 := s.n1, x1 := s.x1, l1 := s.l1, y1 := s.y1 }).16, .isz (out6k { z := s.z, n5 := s.n5, q5 := s.q5, i := s.i, nn := s.nn, xx := s.xx, bu := false, n7 := s.n7, q7 := s.q7, l7 := s.l7, j := s.j, n6 := s.n, q6 := s.y, l6 := (s.n : Int), k := 0, ti := s.ti, n := s.n, y := s.y, m := s.m, p := s.p, t1 := s.t1, a1 := s.a1, p1 := s.p1, v1 := s.v1, m1 := s.m1, b1 := s.b1, c1 := s.c1, s1 := s.s1, n1 := s.n1, x1 := s.x1, l1 := s.l1, y1 := s.y1 }).17 SS (out6k { z := s.z, n5 := s.n5, q5 := s.q5, i := s.i, nn := s.nn, xx := s.xx, bu := false, n7 := s.n7, q7 := s.q7, l7 := s.l7, j := s.j, n6 := s.n, q6 := s.y, l6 := (s.n : Int), k := 0, ti := s.ti, n := s.n, y := s.y, m := s.m, p := s.p, t1 := s.t1, a1 := s.a1, p1 := s.p1, v1 := s.v1, m1 := s.m1, b1 := s.b1, c1 := s.c1, s1 := s.s1, n1 := s.n1, x1 := s.x1, l1 := s.l1, y1 := s.y1 }).y, .isz (out6k { z := s.z, n5 := s.n5, q5 := s.q5, i := s.i, nn := s.nn, xx := s.xx, bu := false, n7 := s.n7, q7 := s.q7, l7 := s.l7, j := s.j, n6 := s.n, q6 := s.y, l6 := (s.n : Int), k := 0, ti := s.ti, n := s.n, y := s.y, m := s.m, p := s.p, t1 := s.t1, a1 := s.a1, p1 := s.p1, v1 := s.v1, m1 := s.m1, b1 := s.b1, c1 := s.c1, s1 := s.s1, n1 := s.n1, x1 := s.x1, l1 := s.l1, y1 := s.y1 }).19 [.int .i64] (out6k { z := s.z, n5 := s.n5, q5 := s.q5, i := s.i, nn := s.nn, xx := s.xx, bu := false, n7 := s.n7, q7 := s.q7, l7 := s.l7, j := s.j, n6 := s.n, q6 := s.y, l6 := (s.n : Int), k := 0, ti := s.ti, n := s.n, y := s.y, m := s.m, p := s.p, t1 := s.t1, a1 := s.a1, p1 := s.p1, v1 := s.v1, m1 := s.m1, b1 := s.b1, c1 := s.c1, s1 := s.s1, n1 := s.n1, x1 := s.x1, l1 := s.l1, y1 := s.y1 }).p] 36, .cells [.int .i64 (out6k { z := s.z, n5 := s.n5, q5 := s.q5, i := s.i, nn := s.nn, xx := s.xx, bu := false, n7 := s.n7, q7 := s.q7, l7 := s.l7, j := s.j, n6 := s.n, q6 := s.y, l6 := (s.n : Int), k := 0, ti := s.ti, n := s.n, y := s.y, m := s.m, p := s.p, t1 := s.t1, a1 := s.a1, p1 := s.p1, v1 := s.v1, m1 := s.m1, b1 := s.b1, c1 := s.c1, s1 := s.s1, n1 := s.n1, x1 := s.x1, l1 := s.l1, y1 := s.y1 }).21, .int .i64 (out6k { z := s.z, n5 := s.n5, q5 := s.q5, i := s.i, nn := s.nn, xx := s.xx, bu := false, n7 := s.n7, q7 := s.q7, l7 := s.l7, j := s.j, n6 := s.n, q6 := s.y, l6 := (s.n : Int), k := 0, ti := s.ti, n := s.n, y := s.y, m := s.m, p := s.p, t1 := s.t1, a1 := s.a1, p1 := s.p1, v1 := s.v1, m1 := s.m1, b1 := s.b1, c1 := s.c1, s1 := s.s1, n1 := s.n1, x1 := s.x1, l1 := s.l1, y1 := s.y1 }).22, .int .i64 (out6k { z := s.z, n5 := s.n5, q5 := s.q5, i := s.i, nn := s.nn, xx := s.xx, bu := false, n7 := s.n7, q7 := s.q7, l7 := s.l7, j := s.j, n6 := s.n, q6 := s.y, l6 := (s.n : Int), k := 0, ti := s.ti, n := s.n, y := s.y, m := s.m, p := s.p, t1 := s.t1, a1 := s.a1, p1 := s.p1, v1 := s.v1, m1 := s.m1, b1 := s.b1, c1 := s.c1, s1 := s.s1, n1 := s.n1, x1 := s.x1, l1 := s.l1, y1 := s.y1 }).23, .str (out6k { z := s.z, n5 := s.n5, q5 := s.q5, i := s.i, nn := s.nn, xx := s.xx, bu := false, n7 := s.n7, q7 := s.q7, l7 := s.l7, j := s.j, n6 := s.n, q6 := s.y, l6 := (s.n : Int), k := 0, ti := s.ti, n := s.n, y := s.y, m := s.m, p := s.p, t1 := s.t1, a1 := s.a1, p1 := s.p1, v1 := s.v1, m1 := s.m1, b1 := s.b1, c1 := s.c1, s1 := s.s1, n1 := s.n1, x1 := s.x1, l1 := s.l1, y1 := s.y1 }).v1, .str (out6k { z := s.z, n5 := s.n5, q5 := s.q5, i := s.i, nn := s.nn, xx := s.xx, bu := false, n7 := s.n7, q7 := s.q7, l7 := s.l7, j := s.j, n6 := s.n, q6 := s.y, l6 := (s.n : Int), k := 0, ti := s.ti, n := s.n, y := s.y, m := s.m, p := s.p, t1 := s.t1, a1 := s.a1, p1 := s.p1, v1 := s.v1, m1 := s.m1, b1 := s.b1, c1 := s.c1, s1 := s.s1, n1 := s.n1, x1 := s.x1, l1 := s.l1, y1 := s.y1 }).m1, .int .i64 (out6k { z := s.z, n5 := s.n5, q5 := s.q5, i := s.i, nn := s.nn, xx := s.xx, bu := false, n7 := s.n7, q7 := s.q7, l7 := s.l7, j := s.j, n6 := s.n, q6 := s.y, l6 := (s.n : Int), k := 0, ti := s.ti, n := s.n, y := s.y, m := s.m, p := s.p, t1 := s.t1, a1 := s.a1, p1 := s.p1, v1 := s.v1, m1 := s.m1, b1 := s.b1, c1 := s.c1, s1 := s.s1, n1 := s.n1, x1 := s.x1, l1 := s.l1, y1 := s.y1 }).26, .int .i64 (out6k { z := s.z, n5 := s.n5, q5 := s.q5, i := s.i, nn := s.nn, xx := s.xx, bu := false, n7 := s.n7, q7 := s.q7, l7 := s.l7, j := s.j, n6 := s.n, q6 := s.y, l6 := (s.n : Int), k := 0, ti := s.ti, n := s.n, y := s.y, m := s.m, p := s.p, t1 := s.t1, a1 := s.a1, p1 := s.p1, v1 := s.v1, m1 := s.m1, b1 := s.b1, c1 := s.c1, s1 := s.s1, n1 := s.n1, x1 := s.x1, l1 := s.l1, y1 := s.y1 }).27, .int .i64 (out6k { z := s.z, n5 := s.n5, q5 := s.q5, i := s.i, nn := s.nn, xx := s.xx, bu := false, n7 := s.n7, q7 := s.q7, l7 := s.l7, j := s.j, n6 := s.n, q6 := s.y, l6 := (s.n : Int), k := 0, ti := s.ti, n := s.n, y := s.y, m := s.m, p := s.p, t1 := s.t1, a1 := s.a1, p1 := s.p1, v1 := s.v1, m1 := s.m1, b1 := s.b1, c1 := s.c1, s1 := s.s1, n1 := s.n1, x1 := s.x1, l1 := s.l1, y1 := s.y1 }).28, .isz (out6k { z := s.z, n5 := s.n5, q5 := s.q5, i := s.i, nn := s.nn, xx := s.xx, bu := false, n7 := s.n7, q7 := s.q7, l7 := s.l7, j := s.j, n6 := s.n, q6 := s.y, l6 := (s.n : Int), k := 0, ti := s.ti, n := s.n, y := s.y, m := s.m, p := s.p, t1 := s.t1, a1 := s.a1, p1 := s.p1, v1 := s.v1, m1 := s.m1, b1 := s.b1, c1 := s.c1, s1 := s.s1, n1 := s.n1, x1 := s.x1, l1 := s.l1, y1 := s.y1 }).29 [.str, .str] (out6k { z := s.z, n5 := s.n5, q5 := s.q5, i := s.i, nn := s.nn, xx := s.xx, bu := false, n7 := s.n7, q7 := s.q7, l7 := s.l7, j := s.j, n6 := s.n, q6 := s.y, l6 := (s.n : Int), k := 0, ti := s.ti, n := s.n, y := s.y, m := s.m, p := s.p, t1 := s.t1, a1 := s.a1, p1 := s.p1, v1 := s.v1, m1 := s.m1, b1 := s.b1, c1 := s.c1, s1 := s.s1, n1 := s.n1, x1 := s.x1, l1 := s.l1, y1 := s.y1 }).x1, .isz (out6k { z := s.z, n5 := s.n5, q5 := s.q5, i := s.i, nn := s.nn, xx := s.xx, bu := false, n7 := s.n7, q7 := s.q7, l7 := s.l7, j := s.j, n6 := s.n, q6 := s.y, l6 := (s.n : Int), k := 0, ti := s.ti, n := s.n, y := s.y, m := s.m, p := s.p, t1 := s.t1, a1 := s.a1, p1 := s.p1, v1 := s.v1, m1 := s.m1, b1 := s.b1, c1 := s.c1, s1 := s.s1, n1 := s.n1, x1 := s.x1, l1 := s.l1, y1 := s.y1 }).31 [.int .i64, .int .i64] (out6k { z := s.z, n5 := s.n5, q5 := s.q5, i := s.i, nn := s.nn, xx := s.xx, bu := false, n7 := s.n7, q7 := s.q7, l7 := s.l7, j := s.j, n6 := s.n, q6 := s.y, l6 := (s.n : Int), k := 0, ti := s.ti, n := s.n, y := s.y, m := s.m, p := s.p, t1 := s.t1, a1 := s.a1, p1 := s.p1, v1 := s.v1, m1 := s.m1, b1 := s.b1, c1 := s.c1, s1 := s.s1, n1 := s.n1, x1 := s.x1, l1 := s.l1, y1 := s.y1 }).y1] 25]) else none else some (.exit 2, [.bool s.z, .ptr 0 0, .isz s.n5 [.int .i64] s.q5, .int .i64 s.i, .ptr 1 0, .int .i64 s.nn, .int .i64 s.xx, .isz s.n7 SS s.q7, .int .i64 s.l7, .int .i64 s.j], [.cells [.int .i64 s.ti, .isz s.n SS s.y, .isz s.m [.int .i64] s.p] 36, .cells [.int .i64 s.t1, .int .i64 s.a1, .int .i64 s.p1, .str s.v1, .str s.m1, .int .i64 s.b1, .int .i64 s.c1, .int .i64 s.s1, .isz s.n1 [.str, .str] s.x1, .isz s.l1 [.int .i64, .int .i64] s.y1] 25]) else some (.exit 2, [.bool s.z, .ptr 0 0, .isz s.n5 [.int .i64] s.q5, .int .i64 s.i, .ptr 1 0, .int .i64 s.nn, .int .i64 s.xx, .isz s.n7 SS s.q7, .int .i64 s.l7, .int .i64 s.j], [.cells [.int .i64 s.ti, .isz s.n SS s.y, .isz s.m [.int .i64] s.p] 36, .cells [.int .i64 s.t1, .int .i64 s.a1, .int .i64 s.p1, .str s.v1, .str s.m1, .int .i64 s.b1, .int .i64 s.c1, .int .i64 s.s1, .isz s.n1 [.str, .str] s.x1, .isz s.l1 [.int .i64, .int .i64] s.y1] 25])
noncomputable def L6x : Ls S6x := ⟨2, dec6x, vs6x, hp6x, rnd6x⟩
set_option maxRecDepth 20000 in
theorem L6x_ok : L6x.Ok := fun vs H s h => by
  have h : dec6x vs H = some s := h
  unfold dec6x at h
  split at h
  · obtain rfl := Option.some.inj h
    exact ⟨rfl, rfl⟩
  · cases h
noncomputable def ok6x (s : S6x) : Bool := L6x.ok 0 s
noncomputable def out6x (s : S6x) : S6x := (L6x.end_ s).2
noncomputable def ret6x (s : S6x) : Bool := (L6x.end_ s).1
noncomputable def fin6x (s : S6x) : Tr (Ex × List AV × List Ob) := .leaf (.exit 2, vs6x (out6x s), hp6x (out6x s))
noncomputable abbrev f6xs : List AV → List Ob → Tr (Ex × List AV × List Ob) := stF dec6x ok6x fin6x
theorem de6x (c : S6x) : L6x.dec (L6x.vs c) (L6x.hp c) = some c := by kernel_rfl
theorem on6x {s s1 s2 : S6x} {b : Bool} (h : rnd6x s = some (.normal, vs6x s1, hp6x s1)) (h2 : L6x.To s1 b s2) : L6x.To s b s2 := L6x.to_on h (de6x s1) h2
theorem ot6x {s s1 : S6x} (h : rnd6x s = some (.exit 2, vs6x s1, hp6x s1)) : L6x.To s false s1 := L6x.to_out h (de6x s1)
theorem ok6x_of {s s1 : S6x} {b : Bool} (h : L6x.To s b s1) (hb : mdB 0 b = true) : ok6x s = true := h.ok L6x (m := 0) hb
theorem out6x_of {s s1 : S6x} {b : Bool} (h : L6x.To s b s1) : out6x s = s1 := congrArg Prod.snd (h.end_ L6x)
theorem ret6x_of {s s1 : S6x} {b : Bool} (h : L6x.To s b s1) : ret6x s = b := congrArg Prod.fst (h.end_ L6x)
structure S6 where
  z : Bool
  n5 : Nat
  q5 : Nat → Nat → Dt
  n7 : Nat
  q7 : Nat → Nat → Dt
  l7 : Int
  j : Int
  ti : Int
  n : Nat
  y : Nat → Nat → Dt
  m : Nat
  p : Nat → Nat → Dt
abbrev keep6 : List Nat := [2, 3, 5, 46, 47, 48]
abbrev vs6 (s : S6) : List AV := [.bool s.z, .ptr 0 0, .isz s.n5 [.int .i64] s.q5, .isz s.n7 SS s.q7, .int .i64 s.l7, .int .i64 s.j]
abbrev hp6 (s : S6) : List Ob := [.cells [.int .i64 s.ti, .isz s.n SS s.y, .isz s.m [.int .i64] s.p] 36]
noncomputable def dec6 : List AV → List Ob → Option S6
  | [.bool z, .ptr 0 0, .isz n5 [.int .i64] q5, .isz n7 [.int .i64, .int .i64, .int .i64, .str, .str, .int .i64, .int .i64, .int .i64, .row [.str, .str], .row [.int .i64, .int .i64]] q7, .int .i64 l7, .int .i64 j], [.cells [.int .i64 ti, .isz n [.int .i64, .int .i64, .int .i64, .str, .str, .int .i64, .int .i64, .int .i64, .row [.str, .str], .row [.int .i64, .int .i64]] y, .isz m [.int .i64] p] 36] => some ⟨z, n5, q5, n7, q7, l7, j, ti, n, y, m, p⟩
  | _, _ => none
noncomputable def rnd6 (s : S6) : Option (Ex × List AV × List Ob) :=
  bif decide (s.j < s.l7) then bif decide (0 ≤ s.j) && decide (s.j < (s.n7 : Int)) then bif ok6x { z := s.z, n5 := s.n5, q5 := s.q5, i := s.j, nn := 0, xx := (s.q7 s.j.toNat 5).n, n7 := s.n7, q7 := s.q7, l7 := s.l7, j := s.j, ti := s.ti, n := s.n, y := s.y, m := s.m, p := s.p, t1 := (s.q7 s.j.toNat 0).n, a1 := (s.q7 s.j.toNat 1).n, p1 := (s.q7 s.j.toNat 2).n, v1 := (s.q7 s.j.toNat 3).s, m1 := (s.q7 s.j.toNat 4).s, b1 := (s.q7 s.j.toNat 5).n, c1 := (s.q7 s.j.toNat 6).n, s1 := (s.q7 s.j.toNat 7).n, n1 := (s.q7 s.j.toNat 8).len, x1 := (s.q7 s.j.toNat 8).el, l1 := (s.q7 s.j.toNat 9).len, y1 := (s.q7 s.j.toNat 9).el } then bif decide (0 ≤ (out6x { z := s.z, n5 := s.n5, q5 := s.q5, i := s.j, nn := 0, xx := (s.q7 s.j.toNat 5).n, n7 := s.n7, q7 := s.q7, l7 := s.l7, j := s.j, ti := s.ti, n := s.n, y := s.y, m := s.m, p := s.p, t1 := (s.q7 s.j.toNat 0).n, a1 := (s.q7 s.j.toNat 1).n, p1 := (s.q7 s.j.toNat 2).n, v1 := (s.q7 s.j.toNat 3).s, m1 := (s.q7 s.j.toNat 4).s, b1 := (s.q7 s.j.toNat 5).n, c1 := (s.q7 s.j.toNat 6).n, s1 := (s.q7 s.j.toNat 7).n, n1 := (s.q7 s.j.toNat 8).len, x1 := (s.q7 s.j.toNat 8).el, l1 := (s.q7 s.j.toNat 9).len, y1 := (s.q7 s.j.toNat 9).el }).4) && decide ((out6x { z := s.z, n5 := s.n5, q5 := s.q5, i := s.j, nn := 0, xx := (s.q7 s.j.toNat 5).n, n7 := s.n7, q7 := s.q7, l7 := s.l7, j := s.j, ti := s.ti, n := s.n, y := s.y, m := s.m, p := s.p, t1 := (s.q7 s.j.toNat 0).n, a1 := (s.q7 s.j.toNat 1).n, p1 := (s.q7 s.j.toNat 2).n, v1 := (s.q7 s.j.toNat 3).s, m1 := (s.q7 s.j.toNat 4).s, b1 := (s.q7 s.j.toNat 5).n, c1 := (s.q7 s.j.toNat 6).n, s1 := (s.q7 s.j.toNat 7).n, n1 := (s.q7 s.j.toNat 8).len, x1 := (s.q7 s.j.toNat 8).el, l1 := (s.q7 s.j.toNat 9).len, y1 := (s.q7 s.j.toNat 9).el }).4 < ((out6x { z := s.z, n5 := s.n5, q5 := s.q5, i := s.j, nn := 0, xx := (s.q7 s.j.toNat 5).n, n7 := s.n7, q7 := s.q7, l7 := s.l7, j := s.j, ti := s.ti, n := s.n, y := s.y, m := s.m, p := s.p, t1 := (s.q7 s.j.toNat 0).n, a1 := (s.q7 s.j.toNat 1).n, p1 := (s.q7 s.j.toNat 2).n, v1 := (s.q7 s.j.toNat 3).s, m1 := (s.q7 s.j.toNat 4).s, b1 := (s.q7 s.j.toNat 5).n, c1 := (s.q7 s.j.toNat 6).n, s1 := (s.q7 s.j.toNat 7).n, n1 := (s.q7 s.j.toNat 8).len, x1 := (s.q7 s.j.toNat 8).el, l1 := (s.q7 s.j.toNat 9).len, y1 := (s.q7 s.j.toNat 9).el }).2 : Int)) then bif ((out6x { z := s.z, n5 := s.n5, q5 := s.q5, i := s.j, nn := 0, xx := (s.q7 s.j.toNat 5).n, n7 := s.n7, q7 := s.q7, l7 := s.l7, j := s.j, ti := s.ti, n := s.n, y := s.y, m := s.m, p := s.p, t1 := (s.q7 s.j.toNat 0).n, a1 := (s.q7 s.j.toNat 1).n, p1 := (s.q7 s.j.toNat 2).n, v1 := (s.q7 s.j.toNat 3).s, m1 := (s.q7 s.j.toNat 4).s, b1 := (s.q7 s.j.toNat 5).n, c1 := (s.q7 s.j.toNat 6).n, s1 := (s.q7 s.j.toNat 7).n, n1 := (s.q7 s.j.toNat 8).len, x1 := (s.q7 s.j.toNat 8).el, l1 := (s.q7 s.j.toNat 9).len, y1 := (s.q7 s.j.toNat 9).el }).3 (out6x { z := s.z, n5 := s.n5, q5 := s.q5, i := s.j, nn := 0, xx := (s.q7 s.j.toNat 5).n, n7 := s.n7, q7 := s.q7, l7 := s.l7, j := s.j, ti := s.ti, n := s.n, y := s.y, m := s.m, p := s.p, t1 := (s.q7 s.j.toNat 0).n, a1 := (s.q7 s.j.toNat 1).n, p1 := (s.q7 s.j.toNat 2).n, v1 := (s.q7 s.j.toNat 3).s, m1 := (s.q7 s.j.toNat 4).s, b1 := (s.q7 s.j.toNat 5).n, c1 := (s.q7 s.j.toNat 6).n, s1 := (s.q7 s.j.toNat 7).n, n1 := (s.q7 s.j.toNat 8).len, x1 := (s.q7 s.j.toNat 8).el, l1 := (s.q7 s.j.toNat 9).len, y1 := (s.q7 s.j.toNat 9).el }).i.toNat 0).n != (out6x { z := s.z, n5 := s.n5, q5 := s.q5, i := s.j, nn := 0, xx := (s.q7 s.j.toNat 5).n, n7 := s.n7, q7 := s.q7, l7 := s.l7, j := s.j, ti := s.ti, n := s.n, y := s.y, m := s.m, p := s.p, t1 := (s.q7 s.j.toNat 0).n, a1 := (s.q7 s.j.toNat 1).n, p1 := (s.q7 s.j.toNat 2).n, v1 := (s.q7 s.j.toNat 3).s, m1 := (s.q7 s.j.toNat 4).s, b1 := (s.q7 s.j.toNat 5).n, c1 := (s.q7 s.j.toNat 6).n, s1 := (s.q7 s.j.toNat 7).n, n1 := (s.q7 s.j.toNat 8).len, x1 := (s.q7 s.j.toNat 8).el, l1 := (s.q7 s.j.toNat 9).len, y1 := (s.q7 s.j.toNat 9).el }).5 then some (.ret, [.bool false, .ptr 0 0, .isz (out6x { z := s.z, n5 := s.n5, q5 := s.q5, i := s.j, nn := 0, xx := (s.q7 s.j.toNat 5).n, n7 := s.n7, q7 := s.q7, l7 := s.l7, j := s.j, ti := s.ti, n := s.n, y := s.y, m := s.m, p := s.p, t1 := (s.q7 s.j.toNat 0).n, a1 := (s.q7 s.j.toNat 1).n, p1 := (s.q7 s.j.toNat 2).n, v1 := (s.q7 s.j.toNat 3).s, m1 := (s.q7 s.j.toNat 4).s, b1 := (s.q7 s.j.toNat 5).n, c1 := (s.q7 s.j.toNat 6).n, s1 := (s.q7 s.j.toNat 7).n, n1 := (s.q7 s.j.toNat 8).len, x1 := (s.q7 s.j.toNat 8).el, l1 := (s.q7 s.j.toNat 9).len, y1 := (s.q7 s.j.toNat 9).el }).2 [.int .i64] (out6x { z := s.z, n5 := s.n5, q5 := s.q5, i := s.j, nn := 0, xx := (s.q7 s.j.toNat 5).n, n7 := s.n7, q7 := s.q7, l7 := s.l7, j := s.j, ti := s.ti, n := s.n, y := s.y, m := s.m, p := s.p, t1 := (s.q7 s.j.toNat 0).n, a1 := (s.q7 s.j.toNat 1).n, p1 := (s.q7 s.j.toNat 2).n, v1 := (s.q7 s.j.toNat 3).s, m1 := (s.q7 s.j.toNat 4).s, b1 := (s.q7 s.j.toNat 5).n, c1 := (s.q7 s.j.toNat 6).n, s1 := (s.q7 s.j.toNat 7).n, n1 := (s.q7 s.j.toNat 8).len, x1 := (s.q7 s.j.toNat 8).el, l1 := (s.q7 s.j.toNat 9).len, y1 := (s.q7 s.j.toNat 9).el }).q5, .isz (out6x { z := s.z, n5 := s.n5, q5 := s.q5, i := s.j, nn := 0, xx := (s.q7 s.j.toNat 5).n, n7 := s.n7, q7 := s.q7, l7 := s.l7, j := s.j, ti := s.ti, n := s.n, y := s.y, m := s.m, p := s.p, t1 := (s.q7 s.j.toNat 0).n, a1 := (s.q7 s.j.toNat 1).n, p1 := (s.q7 s.j.toNat 2).n, v1 := (s.q7 s.j.toNat 3).s, m1 := (s.q7 s.j.toNat 4).s, b1 := (s.q7 s.j.toNat 5).n, c1 := (s.q7 s.j.toNat 6).n, s1 := (s.q7 s.j.toNat 7).n, n1 := (s.q7 s.j.toNat 8).len, x1 := (s.q7 s.j.toNat 8).el, l1 := (s.q7 s.j.toNat 9).len, y1 := (s.q7 s.j.toNat 9).el }).7 SS (out6x { z := s.z, n5 := s.n5, q5 := s.q5, i := s.j, nn := 0, xx := (s.q7 s.j.toNat 5).n, n7 := s.n7, q7 := s.q7, l7 := s.l7, j := s.j, ti := s.ti, n := s.n, y := s.y, m := s.m, p := s.p, t1 := (s.q7 s.j.toNat 0).n, a1 := (s.q7 s.j.toNat 1).n, p1 := (s.q7 s.j.toNat 2).n, v1 := (s.q7 s.j.toNat 3).s, m1 := (s.q7 s.j.toNat 4).s, b1 := (s.q7 s.j.toNat 5).n, c1 := (s.q7 s.j.toNat 6).n, s1 := (s.q7 s.j.toNat 7).n, n1 := (s.q7 s.j.toNat 8).len, x1 := (s.q7 s.j.toNat 8).el, l1 := (s.q7 s.j.toNat 9).len, y1 := (s.q7 s.j.toNat 9).el }).q7, .int .i64 (out6x { z := s.z, n5 := s.n5, q5 := s.q5, i := s.j, nn := 0, xx := (s.q7 s.j.toNat 5).n, n7 := s.n7, q7 := s.q7, l7 := s.l7, j := s.j, ti := s.ti, n := s.n, y := s.y, m := s.m, p := s.p, t1 := (s.q7 s.j.toNat 0).n, a1 := (s.q7 s.j.toNat 1).n, p1 := (s.q7 s.j.toNat 2).n, v1 := (s.q7 s.j.toNat 3).s, m1 := (s.q7 s.j.toNat 4).s, b1 := (s.q7 s.j.toNat 5).n, c1 := (s.q7 s.j.toNat 6).n, s1 := (s.q7 s.j.toNat 7).n, n1 := (s.q7 s.j.toNat 8).len, x1 := (s.q7 s.j.toNat 8).el, l1 := (s.q7 s.j.toNat 9).len, y1 := (s.q7 s.j.toNat 9).el }).9, .int .i64 (out6x { z := s.z, n5 := s.n5, q5 := s.q5, i := s.j, nn := 0, xx := (s.q7 s.j.toNat 5).n, n7 := s.n7, q7 := s.q7, l7 := s.l7, j := s.j, ti := s.ti, n := s.n, y := s.y, m := s.m, p := s.p, t1 := (s.q7 s.j.toNat 0).n, a1 := (s.q7 s.j.toNat 1).n, p1 := (s.q7 s.j.toNat 2).n, v1 := (s.q7 s.j.toNat 3).s, m1 := (s.q7 s.j.toNat 4).s, b1 := (s.q7 s.j.toNat 5).n, c1 := (s.q7 s.j.toNat 6).n, s1 := (s.q7 s.j.toNat 7).n, n1 := (s.q7 s.j.toNat 8).len, x1 := (s.q7 s.j.toNat 8).el, l1 := (s.q7 s.j.toNat 9).len, y1 := (s.q7 s.j.toNat 9).el }).10], [.cells [.int .i64 (out6x { z := s.z, n5 := s.n5, q5 := s.q5, i := s.j, nn := 0, xx := (s.q7 s.j.toNat 5).n, n7 := s.n7, q7 := s.q7, l7 := s.l7, j := s.j, ti := s.ti, n := s.n, y := s.y, m := s.m, p := s.p, t1 := (s.q7 s.j.toNat 0).n, a1 := (s.q7 s.j.toNat 1).n, p1 := (s.q7 s.j.toNat 2).n, v1 := (s.q7 s.j.toNat 3).s, m1 := (s.q7 s.j.toNat 4).s, b1 := (s.q7 s.j.toNat 5).n, c1 := (s.q7 s.j.toNat 6).n, s1 := (s.q7 s.j.toNat 7).n, n1 := (s.q7 s.j.toNat 8).len, x1 := (s.q7 s.j.toNat 8).el, l1 := (s.q7 s.j.toNat 9).len, y1 := (s.q7 s.j.toNat 9).el }).11, .isz (out6x { z := s.z, n5 := s.n5, q5 := s.q5, i := s.j, nn := 0, xx := (s.q7 s.j.toNat 5).n, n7 := s.n7, q7 := s.q7, l7 := s.l7, j := s.j, ti := s.ti, n := s.n, y := s.y, m := s.m, p := s.p, t1 := (s.q7 s.j.toNat 0).n, a1 := (s.q7 s.j.toNat 1).n, p1 := (s.q7 s.j.toNat 2).n, v1 := (s.q7 s.j.toNat 3).s, m1 := (s.q7 s.j.toNat 4).s, b1 := (s.q7 s.j.toNat 5).n, c1 := (s.q7 s.j.toNat 6).n, s1 := (s.q7 s.j.toNat 7).n, n1 := (s.q7 s.j.toNat 8).len, x1 := (s.q7 s.j.toNat 8).el, l1 := (s.q7 s.j.toNat 9).len, y1 := (s.q7 s.j.toNat 9).el }).12 SS (out6x { z := s.z, n5 := s.n5, q5 := s.q5, i := s.j, nn := 0, xx := (s.q7 s.j.toNat 5).n, n7 := s.n7, q7 := s.q7, l7 := s.l7, j := s.j, ti := s.ti, n := s.n, y := s.y, m := s.m, p := s.p, t1 := (s.q7 s.j.toNat 0).n, a1 := (s.q7 s.j.toNat 1).n, p1 := (s.q7 s.j.toNat 2).n, v1 := (s.q7 s.j.toNat 3).s, m1 := (s.q7 s.j.toNat 4).s, b1 := (s.q7 s.j.toNat 5).n, c1 := (s.q7 s.j.toNat 6).n, s1 := (s.q7 s.j.toNat 7).n, n1 := (s.q7 s.j.toNat 8).len, x1 := (s.q7 s.j.toNat 8).el, l1 := (s.q7 s.j.toNat 9).len, y1 := (s.q7 s.j.toNat 9).el }).y, .isz (out6x { z := s.z, n5 := s.n5, q5 := s.q5, i := s.j, nn := 0, xx := (s.q7 s.j.toNat 5).n, n7 := s.n7, q7 := s.q7, l7 := s.l7, j := s.j, ti := s.ti, n := s.n, y := s.y, m := s.m, p := s.p, t1 := (s.q7 s.j.toNat 0).n, a1 := (s.q7 s.j.toNat 1).n, p1 := (s.q7 s.j.toNat 2).n, v1 := (s.q7 s.j.toNat 3).s, m1 := (s.q7 s.j.toNat 4).s, b1 := (s.q7 s.j.toNat 5).n, c1 := (s.q7 s.j.toNat 6).n, s1 := (s.q7 s.j.toNat 7).n, n1 := (s.q7 s.j.toNat 8).len, x1 := (s.q7 s.j.toNat 8).el, l1 := (s.q7 s.j.toNat 9).len, y1 := (s.q7 s.j.toNat 9).el }).14 [.int .i64] (out6x { z := s.z, n5 := s.n5, q5 := s.q5, i := s.j, nn := 0, xx := (s.q7 s.j.toNat 5).n, n7 := s.n7, q7 := s.q7, l7 := s.l7, j := s.j, ti := s.ti, n := s.n, y := s.y, m := s.m, p := s.p, t1 := (s.q7 s.j.toNat 0).n, a1 := (s.q7 s.j.toNat 1).n, p1 := (s.q7 s.j.toNat 2).n, v1 := (s.q7 s.j.toNat 3).s, m1 := (s.q7 s.j.toNat 4).s, b1 := (s.q7 s.j.toNat 5).n, c1 := (s.q7 s.j.toNat 6).n, s1 := (s.q7 s.j.toNat 7).n, n1 := (s.q7 s.j.toNat 8).len, x1 := (s.q7 s.j.toNat 8).el, l1 := (s.q7 s.j.toNat 9).len, y1 := (s.q7 s.j.toNat 9).el }).p] 36]) else some (.normal, [.bool (out6x { z := s.z, n5 := s.n5, q5 := s.q5, i := s.j, nn := 0, xx := (s.q7 s.j.toNat 5).n, n7 := s.n7, q7 := s.q7, l7 := s.l7, j := s.j, ti := s.ti, n := s.n, y := s.y, m := s.m, p := s.p, t1 := (s.q7 s.j.toNat 0).n, a1 := (s.q7 s.j.toNat 1).n, p1 := (s.q7 s.j.toNat 2).n, v1 := (s.q7 s.j.toNat 3).s, m1 := (s.q7 s.j.toNat 4).s, b1 := (s.q7 s.j.toNat 5).n, c1 := (s.q7 s.j.toNat 6).n, s1 := (s.q7 s.j.toNat 7).n, n1 := (s.q7 s.j.toNat 8).len, x1 := (s.q7 s.j.toNat 8).el, l1 := (s.q7 s.j.toNat 9).len, y1 := (s.q7 s.j.toNat 9).el }).1, .ptr 0 0, .isz (out6x { z := s.z, n5 := s.n5, q5 := s.q5, i := s.j, nn := 0, xx := (s.q7 s.j.toNat 5).n, n7 := s.n7, q7 := s.q7, l7 := s.l7, j := s.j, ti := s.ti, n := s.n, y := s.y, m := s.m, p := s.p, t1 := (s.q7 s.j.toNat 0).n, a1 := (s.q7 s.j.toNat 1).n, p1 := (s.q7 s.j.toNat 2).n, v1 := (s.q7 s.j.toNat 3).s, m1 := (s.q7 s.j.toNat 4).s, b1 := (s.q7 s.j.toNat 5).n, c1 := (s.q7 s.j.toNat 6).n, s1 := (s.q7 s.j.toNat 7).n, n1 := (s.q7 s.j.toNat 8).len, x1 := (s.q7 s.j.toNat 8).el, l1 := (s.q7 s.j.toNat 9).len, y1 := (s.q7 s.j.toNat 9).el }).2 [.int .i64] (out6x { z := s.z, n5 := s.n5, q5 := s.q5, i := s.j, nn := 0, xx := (s.q7 s.j.toNat 5).n, n7 := s.n7, q7 := s.q7, l7 := s.l7, j := s.j, ti := s.ti, n := s.n, y := s.y, m := s.m, p := s.p, t1 := (s.q7 s.j.toNat 0).n, a1 := (s.q7 s.j.toNat 1).n, p1 := (s.q7 s.j.toNat 2).n, v1 := (s.q7 s.j.toNat 3).s, m1 := (s.q7 s.j.toNat 4).s, b1 := (s.q7 s.j.toNat 5).n, c1 := (s.q7 s.j.toNat 6).n, s1 := (s.q7 s.j.toNat 7).n, n1 := (s.q7 s.j.toNat 8).len, x1 := (s.q7 s.j.toNat 8).el, l1 := (s.q7 s.j.toNat 9).len, y1 := (s.q7 s.j.toNat 9).el }).q5, .isz (out6x { z := s.z, n5 := s.n5, q5 := s.q5, i := s.j, nn := 0, xx := (s.q7 s.j.toNat 5).n, n7 := s.n7, q7 := s.q7, l7 := s.l7, j := s.j, ti := s.ti, n := s.n, y := s.y, m := s.m, p := s.p, t1 := (s.q7 s.j.toNat 0).n, a1 := (s.q7 s.j.toNat 1).n, p1 := (s.q7 s.j.toNat 2).n, v1 := (s.q7 s.j.toNat 3).s, m1 := (s.q7 s.j.toNat 4).s, b1 := (s.q7 s.j.toNat 5).n, c1 := (s.q7 s.j.toNat 6).n, s1 := (s.q7 s.j.toNat 7).n, n1 := (s.q7 s.j.toNat 8).len, x1 := (s.q7 s.j.toNat 8).el, l1 := (s.q7 s.j.toNat 9).len, y1 := (s.q7 s.j.toNat 9).el }).7 SS (out6x { z := s.z, n5 := s.n5, q5 := s.q5, i := s.j, nn := 0, xx := (s.q7 s.j.toNat 5).n, n7 := s.n7, q7 := s.q7, l7 := s.l7, j := s.j, ti := s.ti, n := s.n, y := s.y, m := s.m, p := s.p, t1 := (s.q7 s.j.toNat 0).n, a1 := (s.q7 s.j.toNat 1).n, p1 := (s.q7 s.j.toNat 2).n, v1 := (s.q7 s.j.toNat 3).s, m1 := (s.q7 s.j.toNat 4).s, b1 := (s.q7 s.j.toNat 5).n, c1 := (s.q7 s.j.toNat 6).n, s1 := (s.q7 s.j.toNat 7).n, n1 := (s.q7 s.j.toNat 8).len, x1 := (s.q7 s.j.toNat 8).el, l1 := (s.q7 s.j.toNat 9).len, y1 := (s.q7 s.j.toNat 9).el }).q7, .int .i64 (out6x { z := s.z, n5 := s.n5, q5 := s.q5, i := s.j, nn := 0, xx := (s.q7 s.j.toNat 5).n, n7 := s.n7, q7 := s.q7, l7 := s.l7, j := s.j, ti := s.ti, n := s.n, y := s.y, m := s.m, p := s.p, t1 := (s.q7 s.j.toNat 0).n, a1 := (s.q7 s.j.toNat 1).n, p1 := (s.q7 s.j.toNat 2).n, v1 := (s.q7 s.j.toNat 3).s, m1 := (s.q7 s.j.toNat 4).s, b1 := (s.q7 s.j.toNat 5).n, c1 := (s.q7 s.j.toNat 6).n, s1 := (s.q7 s.j.toNat 7).n, n1 := (s.q7 s.j.toNat 8).len, x1 := (s.q7 s.j.toNat 8).el, l1 := (s.q7 s.j.toNat 9).len, y1 := (s.q7 s.j.toNat 9).el }).9, .int .i64 (IntKind.i64.wrap ((out6x { z := s.z, n5 := s.n5, q5 := s.q5, i := s.j, nn := 0, xx := (s.q7 s.j.toNat 5).n, n7 := s.n7, q7 := s.q7, l7 := s.l7, j := s.j, ti := s.ti, n := s.n, y := s.y, m := s.m, p := s.p, t1 := (s.q7 s.j.toNat 0).n, a1 := (s.q7 s.j.toNat 1).n, p1 := (s.q7 s.j.toNat 2).n, v1 := (s.q7 s.j.toNat 3).s, m1 := (s.q7 s.j.toNat 4).s, b1 := (s.q7 s.j.toNat 5).n, c1 := (s.q7 s.j.toNat 6).n, s1 := (s.q7 s.j.toNat 7).n, n1 := (s.q7 s.j.toNat 8).len, x1 := (s.q7 s.j.toNat 8).el, l1 := (s.q7 s.j.toNat 9).len, y1 := (s.q7 s.j.toNat 9).el }).10 + 1))], [.cells [.int .i64 (out6x { z := s.z, n5 := s.n5, q5 := s.q5, i := s.j, nn := 0, xx := (s.q7 s.j.toNat 5).n, n7 := s.n7, q7 := s.q7, l7 := s.l7, j := s.j, ti := s.ti, n := s.n, y := s.y, m := s.m, p := s.p, t1 := (s.q7 s.j.toNat 0).n, a1 := (s.q7 s.j.toNat 1).n, p1 := (s.q7 s.j.toNat 2).n, v1 := (s.q7 s.j.toNat 3).s, m1 := (s.q7 s.j.toNat 4).s, b1 := (s.q7 s.j.toNat 5).n, c1 := (s.q7 s.j.toNat 6).n, s1 := (s.q7 s.j.toNat 7).n, n1 := (s.q7 s.j.toNat 8).len, x1 := (s.q7 s.j.toNat 8).el, l1 := (s.q7 s.j.toNat 9).len, y1 := (s.q7 s.j.toNat 9).el }).11, .isz (out6x { z := s.z, n5 := s.n5, q5 := s.q5, i := s.j, nn := 0, xx := (s.q7 s.j.toNat 5).n, n7 := s.n7, q7 := s.q7, l7 := s.l7, j := s.j, ti := s.ti, n := s.n, y := s.y, m := s.m, p := s.p, t1 := (s.q7 s.j.toNat 0).n, a1 := (s.q7 s.j.toNat 1).n, p1 := (s.q7 s.j.toNat 2).n, v1 := (s.q7 s.j.toNat 3).s, m1 := (s.q7 s.j.toNat 4).s, b1 := (s.q7 s.j.toNat 5).n, c1 := (s.q7 s.j.toNat 6).n, s1 := (s.q7 s.j.toNat 7).n, n1 := (s.q7 s.j.toNat 8).len, x1 := (s.q7 s.j.toNat 8).el, l1 := (s.q7 s.j.toNat 9).len, y1 := (s.q7 s.j.toNat 9).el }).12 SS (out6x { z := s.z, n5 := s.n5, q5 := s.q5, i := s.j, nn := 0, xx := (s.q7 s.j.toNat 5).n, n7 := s.n7, q7 := s.q7, l7 := s.l7, j := s.j, ti := s.ti, n := s.n, y := s.y, m := s.m, p := s.p, t1 := (s.q7 s.j.toNat 0).n, a1 := (s.q7 s.j.toNat 1).n, p1 := (s.q7 s.j.toNat 2).n, v1 := (s.q7 s.j.toNat 3).s, m1 := (s.q7 s.j.toNat 4).s, b1 := (s.q7 s.j.toNat 5).n, c1 := (s.q7 s.j.toNat 6).n, s1 := (s.q7 s.j.toNat 7).n, n1 := (s.q7 s.j.toNat 8).len, x1 := (s.q7 s.j.toNat 8).el, l1 := (s.q7 s.j.toNat 9).len, y1 := (s.q7 s.j.toNat 9).el }).y, .isz (out6x { z := s.z, n5 := s.n5, q5 := s.q5, i := s.j, nn := 0, xx := (s.q7 s.j.toNat 5).n, n7 := s.n7, q7 := s.q7, l7 := s.l7, j := s.j, ti := s.ti, n := s.n, y := s.y, m := s.m, p := s.p, t1 := (s.q7 s.j.toNat 0).n, a1 := (s.q7 s.j.toNat 1).n, p1 := (s.q7 s.j.toNat 2).n, v1 := (s.q7 s.j.toNat 3).s, m1 := (s.q7 s.j.toNat 4).s, b1 := (s.q7 s.j.toNat 5).n, c1 := (s.q7 s.j.toNat 6).n, s1 := (s.q7 s.j.toNat 7).n, n1 := (s.q7 s.j.toNat 8).len, x1 := (s.q7 s.j.toNat 8).el, l1 := (s.q7 s.j.toNat 9).len, y1 := (s.q7 s.j.toNat 9).el }).14 [.int .i64] (out6x { z := s.z, n5 := s.n5, q5 := s.q5, i := s.j, nn := 0, xx := (s.q7 s.j.toNat 5).n, n7 := s.n7, q7 := s.q7, l7 := s.l7, j := s.j, ti := s.ti, n := s.n, y := s.y, m := s.m, p := s.p, t1 := (s.q7 s.j.toNat 0).n, a1 := (s.q7 s.j.toNat 1).n, p1 := (s.q7 s.j.toNat 2).n, v1 := (s.q7 s.j.toNat 3).s, m1 := (s.q7 s.j.toNat 4).s, b1 := (s.q7 s.j.toNat 5).n, c1 := (s.q7 s.j.toNat 6).n, s1 := (s.q7 s.j.toNat 7).n, n1 := (s.q7 s.j.toNat 8).len, x1 := (s.q7 s.j.toNat 8).el, l1 := (s.q7 s.j.toNat 9).len, y1 := (s.q7 s.j.toNat 9).el }).p] 36]) else none else none else none else some (.exit 0, [.bool s.z, .ptr 0 0, .isz s.n5 [.int .i64] s.q5, .isz s.n7 SS s.q7, .int .i64 s.l7, .int .i64 s.j], [.cells [.int .i64 s.ti, .isz s.n SS s.y, .isz s.m [.int .i64] s.p] 36])
noncomputable def L6 : Ls S6 := ⟨0, dec6, vs6, hp6, rnd6⟩
set_option maxRecDepth 20000 in
theorem L6_ok : L6.Ok := fun vs H s h => by
  have h : dec6 vs H = some s := h
  unfold dec6 at h
  split at h
  · obtain rfl := Option.some.inj h
    exact ⟨rfl, rfl⟩
  · cases h
noncomputable def ok6 (s : S6) : Bool := L6.ok 2 s
noncomputable def out6 (s : S6) : S6 := (L6.end_ s).2
noncomputable def ret6 (s : S6) : Bool := (L6.end_ s).1
noncomputable def fin6 (s : S6) : Tr (Ex × List AV × List Ob) := .node (ret6 s) (.leaf (.ret, vs6 (out6 s), hp6 (out6 s))) (.leaf (.exit 0, vs6 (out6 s), hp6 (out6 s)))
noncomputable abbrev f6s : List AV → List Ob → Tr (Ex × List AV × List Ob) := stF dec6 ok6 fin6
theorem de6 (c : S6) : L6.dec (L6.vs c) (L6.hp c) = some c := by kernel_rfl
theorem on6 {s s1 s2 : S6} {b : Bool} (h : rnd6 s = some (.normal, vs6 s1, hp6 s1)) (h2 : L6.To s1 b s2) : L6.To s b s2 := L6.to_on h (de6 s1) h2
theorem ot6 {s s1 : S6} (h : rnd6 s = some (.exit 0, vs6 s1, hp6 s1)) : L6.To s false s1 := L6.to_out h (de6 s1)
theorem rt6 {s s1 : S6} (h : rnd6 s = some (.ret, vs6 s1, hp6 s1)) : L6.To s true s1 := L6.to_ret h (de6 s1)
theorem ok6_of {s s1 : S6} {b : Bool} (h : L6.To s b s1) : ok6 s = true := h.ok L6 (m := 2) rfl
theorem out6_of {s s1 : S6} {b : Bool} (h : L6.To s b s1) : out6 s = s1 := congrArg Prod.snd (h.end_ L6)
theorem ret6_of {s s1 : S6} {b : Bool} (h : L6.To s b s1) : ret6 s = b := congrArg Prod.fst (h.end_ L6)
noncomputable abbrev lp6 (i : Nat) : LT := bif Nat.beq i 4 then .sum keep6k f6ks else bif Nat.beq i 2 then .sum keep6x f6xs else .sum keep6 f6s
theorem loop6k (s : S6k) : evC (β := Ex × List AV × List Ob) Try.prog (spOf [t16, t17, t23s, t25, iAw]) (inlOf []) extD (cKD [t16, t17, t23s, t25, iAw] []) (lp6) (bodyOf Try.prog 6 4) ⟨mkF Try.f6.ntmps keep6k (vs6k s), hp6k s⟩ (fun e st => (cutBack keep6k 2 st).map fun q => (e, q.1, q.2)) = rnd6k s := by kernel_rfl
theorem sum6k : LoopOkT Try.prog (spOf [t16, t17, t23s, t25, iAw]) (inlOf []) extD (cKD [t16, t17, t23s, t25, iAw] []) lp6 Try.f6.ntmps (bodyOf Try.prog 6 4) (.sum keep6k f6ks) := by
  dsimp only [LoopOkT]
  exact ⟨by decide, by decide, sum_ls L6k 0 L6k_ok loop6k⟩
theorem loop6x (s : S6x) : evC (β := Ex × List AV × List Ob) Try.prog (spOf [t16, t17, t23s, t25, iAw]) (inlOf []) extD (cKD [t16, t17, t23s, t25, iAw] []) (lp6) (bodyOf Try.prog 6 2) ⟨mkF Try.f6.ntmps keep6x (vs6x s), hp6x s⟩ (fun e st => (cutBack keep6x 2 st).map fun q => (e, q.1, q.2)) = rnd6x s := by kernel_rfl
theorem sum6x : LoopOkT Try.prog (spOf [t16, t17, t23s, t25, iAw]) (inlOf []) extD (cKD [t16, t17, t23s, t25, iAw] []) lp6 Try.f6.ntmps (bodyOf Try.prog 6 2) (.sum keep6x f6xs) := by
  dsimp only [LoopOkT]
  exact ⟨by decide, by decide, sum_ls L6x 0 L6x_ok loop6x⟩
theorem loop6 (s : S6) : evC (β := Ex × List AV × List Ob) Try.prog (spOf [t16, t17, t23s, t25, iAw]) (inlOf []) extD (cKD [t16, t17, t23s, t25, iAw] []) (lp6) (bodyOf Try.prog 6 0) ⟨mkF Try.f6.ntmps keep6 (vs6 s), hp6 s⟩ (fun e st => (cutBack keep6 1 st).map fun q => (e, q.1, q.2)) = rnd6 s := by kernel_rfl
theorem sum6 : LoopOkT Try.prog (spOf [t16, t17, t23s, t25, iAw]) (inlOf []) extD (cKD [t16, t17, t23s, t25, iAw] []) lp6 Try.f6.ntmps (bodyOf Try.prog 6 0) (.sum keep6 f6s) := by
  dsimp only [LoopOkT]
  exact ⟨by decide, by decide, sum_ls L6 2 L6_ok loop6⟩
end Go.Proofs.Ytfgniheefiefjaa

/- Self times: the plain law of the times that no child covers. -/
namespace Go.Proofs.Ytfgniheefiefjaa
open Go.Evl Go.RowKit
/-- how many of f times from a are not covered -/
def ctF (c : Int → Bool) : Nat → Int → Int
  | 0, _ => 0
  | f + 1, a => (bif c a then 0 else 1) + ctF c f (a + 1)
theorem ctF_add (c : Int → Bool) : ∀ (f g : Nat) (a : Int), ctF c (f + g) a = ctF c f a + ctF c g (a + f)
  | 0, g, a => by
    simp only [ctF, Nat.zero_add]
    rw [show a + ((0 : Nat) : Int) = a by omega]
    omega
  | f + 1, g, a => by
    rw [show f + 1 + g = (f + g) + 1 by omega]
    simp only [ctF]
    rw [ctF_add c f g (a + 1), show a + 1 + (f : Int) = a + ((f + 1 : Nat) : Int) by omega]
    omega
theorem ctF_all {c : Int → Bool} : ∀ (f : Nat) (a : Int), (∀ x, a ≤ x → x < a + f → c x = true) → ctF c f a = 0
  | 0, _, _ => rfl
  | f + 1, a, h => by
    simp only [ctF]
    rw [h a (by omega) (by omega), ctF_all f (a + 1) (fun x h1 h2 => h x (by omega) (by omega))]
    rfl
theorem ctF_none {c : Int → Bool} : ∀ (f : Nat) (a : Int), (∀ x, a ≤ x → x < a + f → c x = false) → ctF c f a = f
  | 0, _, _ => rfl
  | f + 1, a, h => by
    simp only [ctF]
    rw [h a (by omega) (by omega), ctF_none f (a + 1) (fun x h1 h2 => h x (by omega) (by omega)), cond_false]
    omega
/-- the times from a on before e that are not covered -/
def ctI (c : Int → Bool) (a e : Int) : Int := ctF c (e - a).toNat a
theorem ctI_le {c : Int → Bool} {a e : Int} (h : e ≤ a) : ctI c a e = 0 := by
  unfold ctI
  rw [show (e - a).toNat = 0 by omega]
  rfl
theorem ctI_add {c : Int → Bool} {a m e : Int} (h1 : a ≤ m) (h2 : m ≤ e) : ctI c a e = ctI c a m + ctI c m e := by
  unfold ctI
  rw [show (e - a).toNat = (m - a).toNat + (e - m).toNat by omega, ctF_add, show a + (((m - a).toNat : Nat) : Int) = m by omega]
theorem ctI_all {c : Int → Bool} {a e : Int} (h : ∀ x, a ≤ x → x < e → c x = true) : ctI c a e = 0 := ctF_all _ _ fun x h1 h2 => h x h1 (by omega)
theorem ctI_none {c : Int → Bool} {a e : Int} (h0 : a ≤ e) (h : ∀ x, a ≤ x → x < e → c x = false) : ctI c a e = e - a := by
  unfold ctI
  rw [ctF_none _ _ fun x h1 h2 => h x h1 (by omega)]
  omega
/-- a row of children covers a time -/
def cvB (n : Nat) (y : Nat → Nat → Dt) (x : Int) : Bool := (List.range n).any fun q => decide ((y q 5).n ≤ x) && decide (x < (y q 6).n)
theorem cvB_true {n : Nat} {y : Nat → Nat → Dt} {x : Int} {q : Nat} (hq : q < n) (h1 : (y q 5).n ≤ x) (h2 : x < (y q 6).n) : cvB n y x = true :=
  List.any_eq_true.2 ⟨q, List.mem_range.2 hq, by rw [decide_eq_true h1, decide_eq_true h2]; rfl⟩
theorem cvB_false {n : Nat} {y : Nat → Nat → Dt} {x : Int} (h : ∀ q, q < n → x < (y q 5).n ∨ (y q 6).n ≤ x) : cvB n y x = false := by
  rw [← Bool.not_eq_true]
  intro hc
  obtain ⟨q, hq, h2⟩ := List.any_eq_true.1 hc
  simp only [Bool.and_eq_true, decide_eq_true_eq] at h2
  rcases h q (List.mem_range.1 hq) with h3 | h3 <;> omega
def fnI (r : Int × Int) (e : Int) : Int := if r.2 < e then r.1 + (e - r.2) else r.1
theorem sfF_ct {n : Nat} {y : Nat → Nat → Dt} {b e : Int} (hs : ∀ a c, a < c → c < n → (y a 5).n ≤ (y c 5).n) (he : ∀ q, q < n → (y q 5).n ≤ (y q 6).n) :
    ∀ (f i : Nat) (sf a : Int), i + f = n → b ≤ a → (∀ q, q < i → (y q 6).n ≤ a) → sf = ctI (cvB n y) b (min a e) →
    fnI (sfF y e f i sf a) e = ctI (cvB n y) b e := by
  have fin : ∀ (i : Nat) (sf a : Int), b ≤ a → (∀ q, q < i → (y q 6).n ≤ a) → (∀ q, i ≤ q → q < n → e ≤ (y q 5).n) → sf = ctI (cvB n y) b (min a e) → fnI (sf, a) e = ctI (cvB n y) b e := by
    intro i sf a h1 h2 h3 h4
    show (if a < e then sf + (e - a) else sf) = ctI (cvB n y) b e
    by_cases h : a < e
    · rw [if_pos h, h4, Int.min_eq_left (by omega), ctI_add h1 (Int.le_of_lt h), ctI_none (Int.le_of_lt h) fun x hx1 hx2 => cvB_false fun q hq => ?_]
      by_cases hqi : q < i
      · have := h2 q hqi; omega
      · have := h3 q (by omega) hq; omega
    · rw [if_neg h, h4, Int.min_eq_right (by omega)]
  intro f
  induction f with
  | zero =>
    intro i sf a hi h1 h2 h3
    exact fin i sf a h1 h2 (fun q hq hn => by omega) h3
  | succ f ih =>
    intro i sf a hi h1 h2 h3
    simp only [sfF]
    by_cases hse : (y i 5).n ≥ e
    · rw [if_pos hse]
      exact fin i sf a h1 h2 (fun q hq hn => by
        rcases Nat.lt_or_ge i q with h | h
        · have := hs i q h hn; omega
        · obtain rfl : q = i := by omega
          exact hse) h3
    · rw [if_neg hse]
      have hii := he i (by omega)
      have hlate : ∀ q, i ≤ q → q < n → (y i 5).n ≤ (y q 5).n := fun q hq hn => by
        rcases Nat.lt_or_ge i q with h | h
        · exact hs i q h hn
        · obtain rfl : q = i := by omega
          exact Int.le_refl _
      have hup : ∀ a', a ≤ a' → (y i 6).n ≤ a' → ∀ q, q < i + 1 → (y q 6).n ≤ a' := fun a' h4 h5 q hq => by
        by_cases hq2 : q < i
        · have := h2 q hq2; omega
        · obtain rfl : q = i := by omega
          exact h5
      by_cases hsa : (y i 5).n > a
      · rw [if_pos hsa]
        have ha' : (if (y i 6).n > a then (y i 6).n else a) = (y i 6).n := if_pos (by omega)
        rw [ha']
        refine ih (i + 1) _ _ (by omega) (by omega) (hup _ (by omega) (Int.le_refl _)) ?_
        have m1 : min a e = a := Int.min_eq_left (by omega)
        rw [h3, m1, ctI_add (c := cvB n y) (a := b) (m := a) (e := min (y i 6).n e) h1 (by omega), ctI_add (c := cvB n y) (a := a) (m := (y i 5).n) (e := min (y i 6).n e) (by omega) (by omega),
          ctI_none (a := a) (e := (y i 5).n) (by omega) (fun x hx1 hx2 => cvB_false fun q hq => ?_), ctI_all (a := (y i 5).n) (fun x hx1 hx2 => cvB_true (q := i) (by omega) hx1 (by omega))]
        · omega
        · by_cases hqi : q < i
          · have := h2 q hqi; omega
          · have := hlate q (by omega) hq; omega
      · rw [if_neg hsa]
        by_cases hea : (y i 6).n > a
        · rw [if_pos hea]
          refine ih (i + 1) _ _ (by omega) (by omega) (hup _ (by omega) (Int.le_refl _)) ?_
          rw [h3]
          by_cases hae : a ≤ e
          · have m1 : min a e = a := Int.min_eq_left hae
            rw [m1, ctI_add (c := cvB n y) (a := b) (m := a) (e := min (y i 6).n e) h1 (by omega), ctI_all (a := a) (fun x hx1 hx2 => cvB_true (q := i) (by omega) (by omega) (by omega))]
            omega
          · have m1 : min a e = e := Int.min_eq_right (by omega)
            have m2 : min (y i 6).n e = e := Int.min_eq_right (by omega)
            rw [m1, m2]
        · rw [if_neg hea]
          exact ih (i + 1) _ _ (by omega) h1 (hup _ (Int.le_refl _) (by omega)) h3
theorem sfI_ct {n : Nat} {y : Nat → Nat → Dt} {b e : Int} (hs : ∀ a c, a < c → c < n → (y a 5).n ≤ (y c 5).n) (he : ∀ q, q < n → (y q 5).n ≤ (y q 6).n) : sfI n y b e = ctI (cvB n y) b e := by
  exact sfF_ct hs he n 0 0 b (by omega) (Int.le_refl _) (fun q hq => absurd hq (Nat.not_lt_zero q)) (ctI_le (by omega)).symm
end Go.Proofs.Ytfgniheefiefjaa

/- SpantreeSelf: what its loops come to. -/
namespace Go.Proofs.Ytfgniheefiefjaa
open Go.Evl Go.RowKit
set_option maxRecDepth 20000 in
theorem to6k {N : Nat} (hN : N ≤ 1000) : ∀ (f : Nat) (s : S6k) (k : Nat), s.k = (k : Int) → k + f = N → s.l6 = (N : Int) → s.n6 = N → s.m = N →
    ∃ bu', (bu' = true ↔ s.bu = true ∨ ∃ q, k ≤ q ∧ q < N ∧ (s.p q 0).n = s.i ∧ (s.q6 q 5).n ≤ s.xx ∧ s.xx < (s.q6 q 6).n) ∧ L6k.To s false { s with bu := bu', k := (N : Int) } := by
  intro f
  induction f with
  | zero =>
    intro s k hk hf hl h6 hm
    refine ⟨s.bu, ⟨.inl, fun h => ?_⟩, ?_⟩
    · rcases h with h | ⟨q, h1, h2, _⟩
      · exact h
      · omega
    · have e : { s with bu := s.bu, k := (N : Int) } = s := by
        have : s.k = (N : Int) := by omega
        rw [← this]
      rw [e]
      refine ot6k ?_
      simp only [rnd6k]
      rw [condF (decide_eq_false (by omega))]
  | succ f ih =>
    intro s k hk hf hl h6 hm
    have b0 : decide (s.k < s.l6) = true := decide_eq_true (by omega)
    have b1 : (decide (0 ≤ s.k) && decide (s.k < (s.n6 : Int))) = true := by rw [decide_eq_true (by omega : (0 : Int) ≤ s.k), decide_eq_true (by omega)]; rfl
    have b2 : (decide (0 ≤ s.k) && decide (s.k < (s.m : Int))) = true := by rw [decide_eq_true (by omega : (0 : Int) ≤ s.k), decide_eq_true (by omega)]; rfl
    have w1 : IntKind.i64.wrap (s.k + 1) = ((k + 1 : Nat) : Int) := by rw [wrapI (by omega) (by omega)]; omega
    have kt : s.k.toNat = k := by omega
    have step : ∀ b : Bool, rnd6k s = some (.normal, vs6k { s with bu := b, k := ((k + 1 : Nat) : Int) }, hp6k { s with bu := b, k := ((k + 1 : Nat) : Int) }) →
        (b = true ↔ s.bu = true ∨ ((s.p k 0).n = s.i ∧ (s.q6 k 5).n ≤ s.xx ∧ s.xx < (s.q6 k 6).n)) →
        ∃ bu', (bu' = true ↔ s.bu = true ∨ ∃ q, k ≤ q ∧ q < N ∧ (s.p q 0).n = s.i ∧ (s.q6 q 5).n ≤ s.xx ∧ s.xx < (s.q6 q 6).n) ∧ L6k.To s false { s with bu := bu', k := (N : Int) } := by
      intro b hr hb
      obtain ⟨bu', h1, h2⟩ := ih { s with bu := b, k := ((k + 1 : Nat) : Int) } (k + 1) rfl (by omega) hl h6 hm
      refine ⟨bu', ⟨fun h => ?_, fun h => ?_⟩, on6k hr h2⟩
      · rcases h1.1 h with h | ⟨q, hq1, hq2, hq⟩
        · rcases hb.1 h with h | h
          · exact .inl h
          · exact .inr ⟨k, Nat.le_refl _, by omega, h⟩
        · exact .inr ⟨q, by omega, hq2, hq⟩
      · refine h1.2 ?_
        rcases h with h | ⟨q, hq1, hq2, hq⟩
        · exact .inl (hb.2 (.inl h))
        · rcases Nat.lt_or_ge k q with h3 | h3
          · exact .inr ⟨q, h3, hq2, hq⟩
          · obtain rfl : q = k := by omega
            exact .inl (hb.2 (.inr hq))
    cases hbu : s.bu with
    | true =>
      rw [hbu] at step
      refine step true ?_ ⟨fun _ => .inl rfl, fun _ => rfl⟩
      simp only [rnd6k]
      rw [condT b0, condT b1, condT hbu, w1]
    | false =>
      rw [hbu] at step
      by_cases c1 : (s.p k 0).n = s.i
      · have hc1 : ((s.p k 0).n == s.i) = true := by rw [c1, beq_self_eq_true]
        by_cases c2 : (s.q6 k 5).n ≤ s.xx
        · by_cases c3 : s.xx < (s.q6 k 6).n
          · refine step true ?_ ⟨fun _ => .inr ⟨c1, c2, c3⟩, fun _ => rfl⟩
            simp only [rnd6k, kt]
            rw [condT b0, condT b1, condF hbu, condT b2, condT hc1, condT (decide_eq_true c2), condT (decide_eq_true c3), w1]
          · refine step false ?_ ⟨fun h => (by cases h), fun h => h.elim id fun h => absurd h.2.2 c3⟩
            simp only [rnd6k, kt]
            rw [condT b0, condT b1, condF hbu, condT b2, condT hc1, condT (decide_eq_true c2), condF (decide_eq_false c3), w1]
        · refine step false ?_ ⟨fun h => (by cases h), fun h => h.elim id fun h => absurd h.2.1 c2⟩
          simp only [rnd6k, kt]
          rw [condT b0, condT b1, condF hbu, condT b2, condT hc1, condF (decide_eq_false c2), w1]
      · refine step false ?_ ⟨fun h => (by cases h), fun h => h.elim id fun h => absurd h.1 c1⟩
        have hc1 : ((s.p k 0).n == s.i) = false := beq_eq_false_iff_ne.2 c1
        simp only [rnd6k, kt]
        rw [condT b0, condT b1, condF hbu, condT b2, condF hc1, w1]
set_option maxRecDepth 20000 in
theorem to6x {N : Nat} (hN : N ≤ 1000) {c : Int → Bool} : ∀ (f : Nat) (s : S6x), (s.c1 - s.xx).toNat = f → s.c1 ≤ s.b1 + 300 → 0 ≤ s.b1 → s.b1 ≤ 1099511627776 → 0 ≤ s.xx → 0 ≤ s.nn → s.nn + f ≤ 1000000 → s.n = N → s.m = N →
    (∀ x, c x = true ↔ ∃ q, q < N ∧ (s.p q 0).n = s.i ∧ (s.y q 5).n ≤ x ∧ x < (s.y q 6).n) → ∃ x', L6x.To s false { s with nn := s.nn + ctF c f s.xx, xx := x' } := by
  intro f
  induction f with
  | zero =>
    intro s hf h1 h2 h3 h4 h5 h6 hn hm hc
    refine ⟨s.xx, ?_⟩
    have e : { s with nn := s.nn + ctF c 0 s.xx, xx := s.xx } = s := by
      simp only [ctF, Int.add_zero]
    rw [e]
    refine ot6x ?_
    simp only [rnd6x]
    rw [condF (decide_eq_false (by omega))]
  | succ f ih =>
    intro s hf h1 h2 h3 h4 h5 h6 hn hm hc
    have w0 : IntKind.i64.wrap (s.b1 + 300) = s.b1 + 300 := wrapI (by omega) (by omega)
    have w1 : IntKind.i64.wrap (s.xx + 1) = s.xx + 1 := wrapI (by omega) (by omega)
    have w2 : IntKind.i64.wrap (s.nn + 1) = s.nn + 1 := wrapI (by omega) (by omega)
    have b0 : decide (s.xx < s.c1) = true := decide_eq_true (by omega)
    have b1 : decide (s.xx ≤ s.b1 + 300) = true := decide_eq_true (by omega)
    obtain ⟨bu', hb, ht⟩ := to6k hN N { z := s.z, n5 := s.n5, q5 := s.q5, i := s.i, nn := s.nn, xx := s.xx, bu := false, n7 := s.n7, q7 := s.q7, l7 := s.l7, j := s.j, n6 := s.n, q6 := s.y, l6 := (s.n : Int), k := 0, ti := s.ti, n := s.n, y := s.y, m := s.m, p := s.p, t1 := s.t1, a1 := s.a1, p1 := s.p1, v1 := s.v1, m1 := s.m1, b1 := s.b1, c1 := s.c1, s1 := s.s1, n1 := s.n1, x1 := s.x1, l1 := s.l1, y1 := s.y1 } 0 rfl (by omega) (by show ((s.n : Nat) : Int) = _; rw [hn]) hn hm
    have hbc : bu' = c s.xx := by
      rw [Bool.eq_iff_iff, hb, hc]
      constructor
      · rintro (h | ⟨q, _, h⟩)
        · cases h
        · exact ⟨q, h⟩
      · rintro ⟨q, h⟩
        exact .inr ⟨q, Nat.zero_le _, h⟩
    have ho := out6k_of ht
    have hok := ok6k_of ht rfl
    cases hcx : c s.xx with
    | true =>
      obtain ⟨x', hs⟩ := ih { s with xx := s.xx + 1 } (by show (s.c1 - (s.xx + 1)).toNat = f; omega) h1 h2 h3 (by show 0 ≤ s.xx + 1; omega) h5 (by show s.nn + (f : Int) ≤ 1000000; omega) hn hm hc
      refine ⟨x', on6x (s1 := { s with xx := s.xx + 1 }) ?_ ?_⟩
      · simp only [rnd6x, w0]
        rw [condT b0, condT b1, condT hok]
        simp only [ho]
        rw [condT (hbc.trans hcx)]
        simp only [w1]
      · have e : s.nn + ctF c (f + 1) s.xx = s.nn + ctF c f (s.xx + 1) := by
          simp only [ctF, hcx, cond_true]; omega
        rw [e]
        exact hs
    | false =>
      obtain ⟨x', hs⟩ := ih { s with nn := s.nn + 1, xx := s.xx + 1 } (by show (s.c1 - (s.xx + 1)).toNat = f; omega) h1 h2 h3 (by show 0 ≤ s.xx + 1; omega) (by show 0 ≤ s.nn + 1; omega) (by show s.nn + 1 + (f : Int) ≤ 1000000; omega) hn hm hc
      refine ⟨x', on6x (s1 := { s with nn := s.nn + 1, xx := s.xx + 1 }) ?_ ?_⟩
      · simp only [rnd6x, w0]
        rw [condT b0, condT b1, condT hok]
        simp only [ho]
        rw [condF (hbc.trans hcx)]
        simp only [w1, w2]
      · have e : s.nn + ctF c (f + 1) s.xx = s.nn + 1 + ctF c f (s.xx + 1) := by
          simp only [ctF, hcx, cond_false]; omega
        rw [e]
        exact hs
end Go.Proofs.Ytfgniheefiefjaa

/- SpantreeSelf's walk. Conditions: none beyond the context's. -/
namespace Go.Proofs.Ytfgniheefiefjaa
open Go.Evl Go.RowKit
theorem chs_lt {p : Nat → Nat → Dt} {j t a b : Nat} (h : a < b) (hb : b < (chs p j t).length) : (chs p j t).getD a 0 < (chs p j t).getD b 0 := by
  have hp : (chs p j t).Pairwise (· < ·) := List.Pairwise.filter _ List.pairwise_lt_range
  rw [List.pairwise_iff_getElem] at hp
  have := hp a b (by omega) hb h
  rw [List.getD_eq_getElem?_getD, List.getD_eq_getElem?_getD, List.getElem?_eq_getElem (by omega), List.getElem?_eq_getElem hb]
  exact this
theorem mem_chs {p : Nat → Nat → Dt} {j t q : Nat} (h : q < t) (hp : (p q 0).n = (j : Int)) : ∃ a, a < (chs p j t).length ∧ (chs p j t).getD a 0 = q := by
  have : q ∈ chs p j t := by
    unfold chs
    rw [List.mem_filter, List.mem_range]
    exact ⟨h, decide_eq_true hp⟩
  obtain ⟨a, ha, e⟩ := List.getElem_of_mem this
  exact ⟨a, ha, by rw [List.getD_eq_getElem?_getD, List.getElem?_eq_getElem ha]; exact e⟩
theorem stq {ti : Int} {n : Nat} {y p : Nat → Nat → Dt} (h : SdOk n y n p) (he : ∀ j, j < n → (y j 5).n ≤ (y j 6).n) :
    ∃ c : Nat → Int → Bool, (∀ j, j < n → ∀ x, c j x = true ↔ ∃ q, q < n ∧ (p q 0).n = (j : Int) ∧ (y q 5).n ≤ x ∧ x < (y q 6).n) ∧ ∀ j, j < n → (stQ ti n y n p j 0).n = ctI (c j) (y j 5).n (y j 6).n := by
  obtain ⟨k, rfl⟩ : ∃ k, n = k + 1 := ⟨n - 1, by have := h.h1; omega⟩
  obtain ⟨vf, rf, tq, hc, ht, h1, h2⟩ := st25 (ti := ti) h
  have o1 := out72w_of h1
  have hst : stQ ti (k + 1) y (k + 1) p = tq := by
    show (stE ti k y (k + 1) p).tq = tq
    unfold stE
    rw [o1, out25_of h2]
  have hf : ∀ j, j < k + 1 → ∀ q, q < (rf (.int (j : Int))).1 → ((rf (.int (j : Int))).2 q 5).n = (y ((chs p j (k + 1)).getD q 0) 5).n ∧ ((rf (.int (j : Int))).2 q 6).n = (y ((chs p j (k + 1)).getD q 0) 6).n := fun j hj q hq => by
    rw [hc.hr j hj] at hq
    refine ⟨?_, ?_⟩
    · rcases hc.hf j hj q hq 5 (by omega) with h | h | h
      · exact h
      · omega
      · omega
    · rcases hc.hf j hj q hq 6 (by omega) with h | h | h
      · exact h
      · omega
      · omega
  have hmono : ∀ j, j < k + 1 → ∀ c a, a + c < (chs p j (k + 1)).length → (y ((chs p j (k + 1)).getD a 0) 5).n ≤ (y ((chs p j (k + 1)).getD (a + c) 0) 5).n := by
    intro j hj c
    induction c with
    | zero => intro a _; exact Int.le_refl _
    | succ c ih =>
      intro a ha
      have i1 := ih a (by omega)
      have i2 := h.hs j hj (a + c) (by omega)
      rw [show a + (c + 1) = a + c + 1 by omega]
      omega
  refine ⟨fun j => cvB (rf (.int (j : Int))).1 (rf (.int (j : Int))).2, fun j hj x => ⟨fun hx => ?_, fun ⟨q, hq, hp, hx1, hx2⟩ => ?_⟩, fun j hj => ?_⟩
  · obtain ⟨q, hq, h2⟩ := List.any_eq_true.1 hx
    simp only [Bool.and_eq_true, decide_eq_true_eq] at h2
    have hq := List.mem_range.1 hq
    have e := hf j hj q hq
    rw [hc.hr j hj] at hq
    have m := chs_mem hq
    exact ⟨_, m.1, m.2, by omega, by omega⟩
  · obtain ⟨a, ha, e⟩ := mem_chs hq hp
    have ha' : a < (rf (.int (j : Int))).1 := by rw [hc.hr j hj]; exact ha
    have hfe := hf j hj a ha'
    rw [e] at hfe
    exact cvB_true ha' (by omega) (by omega)
  · rw [hst, ht j hj]
    refine sfI_ct (fun a c hac hcl => ?_) (fun q hq => ?_)
    · have e1 := hf j hj a (by omega)
      have e2 := hf j hj c hcl
      have := hmono j hj (c - a) a (by rw [← hc.hr j hj]; omega)
      rw [show a + (c - a) = c by omega] at this
      omega
    · have e1 := hf j hj q hq
      rw [hc.hr j hj] at hq
      have := he _ (chs_mem hq).1
      omega
set_option maxRecDepth 20000 in
theorem to6 {n : Nat} {z : Bool} {ti : Int} {q5 y p : Nat → Nat → Dt} {c : Nat → Int → Bool} (hN : n ≤ 1000)
    (hb : ∀ j, j < n → 0 ≤ (y j 5).n ∧ (y j 5).n ≤ 1099511627776 ∧ (y j 6).n ≤ (y j 5).n + 300)
    (hc : ∀ j, j < n → ∀ x, c j x = true ↔ ∃ q, q < n ∧ (p q 0).n = (j : Int) ∧ (y q 5).n ≤ x ∧ x < (y q 6).n)
    (hq : ∀ j, j < n → (q5 j 0).n = ctI (c j) (y j 5).n (y j 6).n) : ∀ (f j : Nat), j + f = n → L6.To ⟨z, n, q5, n, y, (n : Int), (j : Int), ti, n, y, n, p⟩ false ⟨z, n, q5, n, y, (n : Int), (n : Int), ti, n, y, n, p⟩ := by
  intro f
  induction f with
  | zero =>
    intro j hj
    obtain rfl : j = n := by omega
    refine ot6 ?_
    simp only [rnd6]
    rw [condF (decide_eq_false (by omega))]
  | succ f ih =>
    intro j hj
    have hjn : j < n := by omega
    have hbj := hb j hjn
    have b0 : decide ((j : Int) < (n : Int)) = true := decide_eq_true (by omega)
    have b1 : (decide (0 ≤ (j : Int)) && decide ((j : Int) < (n : Int))) = true := by rw [b0, decide_eq_true (by omega)]; rfl
    have w1 : IntKind.i64.wrap ((j : Int) + 1) = ((j + 1 : Nat) : Int) := by rw [wrapI (by omega) (by omega)]; omega
    obtain ⟨x', ht⟩ := to6x hN (c := c j) ((y j 6).n - (y j 5).n).toNat { z := z, n5 := n, q5 := q5, i := (j : Int), nn := 0, xx := (y j 5).n, n7 := n, q7 := y, l7 := (n : Int), j := (j : Int), ti := ti, n := n, y := y, m := n, p := p, t1 := (y j 0).n, a1 := (y j 1).n, p1 := (y j 2).n, v1 := (y j 3).s, m1 := (y j 4).s, b1 := (y j 5).n, c1 := (y j 6).n, s1 := (y j 7).n, n1 := (y j 8).len, x1 := (y j 8).el, l1 := (y j 9).len, y1 := (y j 9).el }
      rfl hbj.2.2 hbj.1 hbj.2.1 hbj.1 (Int.le_refl _) (by show (0 : Int) + _ ≤ _; omega) rfl rfl (hc j hjn)
    refine on6 ?_ (ih (j + 1) (by omega))
    have ho := out6x_of ht
    have hok := ok6x_of ht rfl
    have hne : ((q5 j 0).n != 0 + ctF (c j) ((y j 6).n - (y j 5).n).toNat (y j 5).n) = false := by
      rw [hq j hjn, Int.zero_add]
      show (ctI (c j) (y j 5).n (y j 6).n != ctI (c j) (y j 5).n (y j 6).n) = false
      rw [bne_self_eq_false]
    simp only [rnd6, Int.toNat_natCast]
    rw [condT b0, condT b1, condT hok]
    simp only [ho, Int.toNat_natCast]
    rw [condT b1, condF hne, w1]
theorem spE_tm {y : Nat → Nat → Dt} {k : Nat} (h : spE y k = 0) : (y k 5).n ≤ (y k 6).n ∧ (y k 6).n ≤ 1099511627776 := by
  unfold spE scE at h
  split at h
  · split at h
    · omega
    · split at h
      · split at h
        · rename_i h4; exact ⟨h4.2.1, h4.2.2⟩
        · omega
      · omega
  · omega
theorem lg_get {n : Nat} {x : Nat → Nat → Dt} (h : lgB n x = false) {k : Nat} (hk : k < n) : (x k 6).n ≤ (x k 5).n + 300 ∧ (x k 5).n ≤ 1099511627776 ∧ 0 ≤ (x k 5).n := by
  unfold lgB at h
  have hs : scan (lgG x) n 0 = none := by simpa using h
  have := scan_none hs k (Nat.zero_le _) (by omega)
  unfold lgG at this
  split at this
  · cases this
  · rename_i h3
    simp only [not_or] at h3
    have w := wrapI (x := (x k 5).n + 300) (by omega) (by omega)
    rw [w] at h3
    omega
theorem law6 {n : Nat} {x : Nat → Nat → Dt} (hb : glB n x = false) (hl : lgB n x = false) (h : bdE n x = 0) : bdN n x = n ∧ SdOk n (bdS n x) n (bdP n x) ∧
    ∃ s, L6.To ⟨false, n, stQ (bdI n x) n (bdS n x) n (bdP n x), n, bdS n x, (n : Int), 0, bdI n x, n, bdS n x, n, bdP n x⟩ false s := by
  have hn := (gl_sm hb).1
  obtain ⟨e1, e2⟩ := trW_of hn h
  have hf : ∀ i, i < n → ((bdS n x) i 5).n = (soF n x (kE n (soF n x) i) 5).n ∧ ((bdS n x) i 6).n = (soF n x (kE n (soF n x) i) 6).n := fun i hi => by
    rw [e2.sp i hi]
    exact ⟨rfl, rfl⟩
  have hy : ∀ k, k < n → ((soF n x) k 5).n ≤ ((soF n x) k 6).n ∧ ((soF n x) k 6).n ≤ ((soF n x) k 5).n + 300 ∧ ((soF n x) k 5).n ≤ 1099511627776 ∧ 0 ≤ ((soF n x) k 5).n := fun k hk => by
    obtain ⟨j, hj, e⟩ := toL_mem.1 ((soF_ok n x).2.mem_iff.1 (toL_mem.2 ⟨k, hk, rfl⟩))
    have hv := vE_cell e
    have := lg_get hl hj
    have h2 := spE_tm (e2.good.sp k hk)
    have e5 := hv.2.2.2.2.2.1
    have e6 := hv.2.2.2.2.2.2.1
    omega
  have hw : ∀ i, i < n → ((bdS n x) i 5).n ≤ ((bdS n x) i 6).n ∧ ((bdS n x) i 6).n ≤ ((bdS n x) i 5).n + 300 ∧ ((bdS n x) i 5).n ≤ 1099511627776 ∧ 0 ≤ ((bdS n x) i 5).n := fun i hi => by
    have a := hf i hi
    have b := hy _ (kE_lt hn hi (y := soF n x))
    omega
  have hsd : SdOk n (bdS n x) n (bdP n x) := by
    refine ⟨e2.good.one, hn, rfl, fun j hj q hq => ?_, fun j hj => ?_⟩
    · have ma := chs_mem (show q < (chs (bdP n x) j n).length by omega)
      have mb := chs_mem hq
      have hlt := chs_lt (show q < q + 1 by omega) hq
      have hp : pE n (soF n x) ((chs (bdP n x) j n).getD q 0) = pE n (soF n x) ((chs (bdP n x) j n).getD (q + 1) 0) := by
        rw [← e2.pa _ ma.1, ← e2.pa _ mb.1, ma.2, mb.2]
      have := pE_sib' hn e2.good hlt mb.1 hp
      rw [(hf _ ma.1).1, (hf _ mb.1).1]
      unfold bfN at this
      omega
    · have := hw j hj
      omega
  obtain ⟨c, hc, hq⟩ := stq (ti := bdI n x) hsd fun j hj => (hw j hj).1
  exact ⟨e1, hsd, _, to6 (by omega) (fun j hj => by have := hw j hj; omega) hc hq n 0 (by omega)⟩
theorem lx6 : (mkCx Try.prog (spOf [t16, t17, t23s, t25, iAw]) (inlOf []) extD).Ok InvD := cx_of [] (by kernel_rfl) (by
  intro p hp
  simp only [List.mem_cons, List.not_mem_nil, or_false] at hp
  rcases hp with rfl | rfl | rfl | rfl | rfl
  · exact t16_ok
  · exact t17_ok
  · exact t23s_ok
  · exact t25_ok
  · exact iAw_ok)
set_option maxRecDepth 10000 in
theorem lt6 (n : Nat) (x : Nat → Nat → Dt) : (evFnT Try.prog (spOf [t16, t17, t23s, t25, iAw]) (inlOf []) extD (cKD [t16, t17, t23s, t25, iAw] []) lp6 Try.f6 [.isz n SS x] [] (castT .any)).run =
    (bif n.ble 9223372036854775807 && lnB n x then bif glB n x then RB true else bif n.ble 1000 then bif lgB n x then RB true else bif n.ble 12 && (bdE n x != 0 || okB n x) then bif bdE n x != 0 then RB true else bif sdB (bdN n x) (bdS n x) (bdN n x) (bdP n x) then
      bif ((bdN n x : Nat) : Int) != ((bdN n x : Nat) : Int) then RB false else bif ((bdN n x : Nat) : Int) != ((bdN n x : Nat) : Int) then RB false else bif ok6 ⟨false, bdN n x, stQ (bdI n x) (bdN n x) (bdS n x) (bdN n x) (bdP n x), bdN n x, bdS n x, ((bdN n x : Nat) : Int), 0, bdI n x, bdN n x, bdS n x, bdN n x, bdP n x⟩ then
      bif ret6 ⟨false, bdN n x, stQ (bdI n x) (bdN n x) (bdS n x) (bdN n x) (bdP n x), bdN n x, bdS n x, ((bdN n x : Nat) : Int), 0, bdI n x, bdN n x, bdS n x, bdN n x, bdP n x⟩ then RB (out6 ⟨false, bdN n x, stQ (bdI n x) (bdN n x) (bdS n x) (bdN n x) (bdP n x), bdN n x, bdS n x, ((bdN n x : Nat) : Int), 0, bdI n x, bdN n x, bdS n x, bdN n x, bdP n x⟩).z else RB true else none else none else none else none else none : Option Res) := by kernel_rfl
def l6 : Ent := ⟨6, fun
  | [.isz n [.int .i64, .int .i64, .int .i64, .str, .str, .int .i64, .int .i64, .int .i64, .row [.str, .str], .row [.int .i64, .int .i64]] x] => .chk (okL n x) (.leaf (.ret (.bool true)))
  | _ => .non⟩
set_option maxRecDepth 10000 in
theorem l6_ok : SpecHolds Try.prog InvD 6 fun a => (l6.2 a).run := by
  refine spec_of_evC Try.prog (spOf [t16, t17, t23s, t25, iAw]) (inlOf []) extD (cKD [t16, t17, t23s, t25, iAw] []) (fun {β} => callK_eq (β := β) Try.prog (spOf [t16, t17, t23s, t25, iAw]) (inlOf []) extD attD uD 20) lx6 stableD mixedD
    (callN_sound attD_ok lx6 stableD mixedD 20) Try.func6 (c := codeOf Try.prog 6) (by kernel_rfl) lp6 (fun p hp => by
    have hl : loops (codeOf Try.prog 6) = [(0, bodyOf Try.prog 6 0), (2, bodyOf Try.prog 6 2), (4, bodyOf Try.prog 6 4)] := by kernel_rfl
    rw [hl] at hp
    simp only [List.mem_cons, List.not_mem_nil, or_false] at hp
    rcases hp with rfl | rfl | rfl
    · exact sum6
    · exact sum6x
    · exact sum6k) .any fun args r hh => ?_
  unfold l6 at hh
  simp only at hh
  split at hh
  · rename_i n x
    obtain ⟨hg, hh⟩ := chk_run hh
    refine ⟨by kernel_rfl, ?_⟩
    refine (lt6 n x).trans (Eq.trans ?_ hh)
    have hg' := hg
    unfold okL at hg'
    simp only [Bool.and_eq_true] at hg'
    rw [condT (by rw [hg'.1, hg'.2.1]; rfl)]
    cases hb : glB n x with
    | true => rfl
    | false =>
      have hn := (gl_sm hb).1
      rw [cond_false, condT (Nat.ble_eq_true_of_le (show n ≤ 1000 by omega))]
      cases hl : lgB n x with
      | true => rfl
      | false =>
        rw [cond_false, condT (okL_bd hb)]
        cases e : bdE n x != 0 with
        | true => rfl
        | false =>
          obtain ⟨e1, hsd, s, hs⟩ := law6 hb hl (show bdE n x = 0 by simpa using e)
          rw [e1, cond_false, condT (sdB_iff.2 hsd), condF (by rw [bne_self_eq_false]), condF (by rw [bne_self_eq_false]), condT (ok6_of hs), condF (ret6_of hs)]
          rfl
  · simp [Tr.run] at hh
end Go.Proofs.Ytfgniheefiefjaa

/- SpantreeSelf returns true for every input, and its arguments read as they did. No condition. -/
namespace Go.Proofs.Ytfgniheefiefjaa
open Go.ChangeShapes Go.WideShapes Go.ChangeAt Go.RowKit Go.Joins Go.Evl

section
variable {H : Type} {enc : TypeId × Value → H} {w : World} {base b0 : Nat} {spare : Nat → Bool} {held : Bool} {rc : Reach} {v : Value} {d : DataW H} {p : List MemPlace}
set_option maxRecDepth 100000 in
theorem spans_form (hv : Value.okWide Try.prog w rc b0 32 v) (h : DataW.Trod enc Try.prog w base spare held 32 v d p) : ∃ (n : Nat) (x : Nat → Nat → Dt), Rv (Nm.one 0 0) (fun b => b < w.heap.size) w None_ (.isz n SS x) v ∧ okL n x = true := by
  obtain ⟨y, hr, hok⟩ := arg_row (ρ := Nm.one 0 0) (d := 8) (s := SS) (show Try.prog.underlying 32 = some (.slice 25) by kernel_rfl) (by kernel_rfl) (by kernel_rfl) hv h
  refine ⟨y.len, y.el, hr, ?_⟩
  have h1 : y.len ≤ maxLen ∧ ∀ i, i < y.len → ∀ j s, SS[j]? = some s → dtOk 2 s (y.el i j) := hok 3
  unfold okL lnB
  rw [Nat.ble_eq_true_of_le (show y.len ≤ 9223372036854775807 from h1.1), Bool.true_and, Bool.and_eq_true]
  refine ⟨List.all_eq_true.2 fun k hk => ?_, List.all_eq_true.2 fun k hk => ?_⟩
  · have h8 : dtOk 2 (.row SL) (y.el k 8) := h1.2 k (List.mem_range.1 hk) 8 _ rfl
    exact Nat.ble_eq_true_of_le h8.1
  · rw [Bool.and_eq_true]
    have h0 : dtOk 2 (.int .i64) (y.el k 0) := h1.2 k (List.mem_range.1 hk) 0 _ rfl
    have h9 : dtOk 2 (.row SK) (y.el k 9) := h1.2 k (List.mem_range.1 hk) 9 _ rfl
    exact ⟨wf_inI h0, List.all_eq_true.2 fun i hi => wf_inI (h9.2 i (List.mem_range.1 hi) 0 _ rfl)⟩
end
set_option maxRecDepth 100000 in
theorem spantreeSelf_lifted (os : Os) (started : os.Started) (H : Type) (enc : TypeId × Value → H) :
    ReturnsInHanded {} Try.checked os 6 .any (Rows.spantreeSelfSpec.pre6 enc Try.prog Try.f6 Rows.spantreeSelfRow.domain false) (Rows.spantreeSelfSpec.post enc Try.prog Try.f6 false true false false) := by
  refine returnsInHanded_of_change (C := Try.checked) own started (by kernel_rfl) Try.func6
    (ChangeSpec.witness6 (enc := enc) (C := Try.checked) false ⟨#[], #[.slice none 0 0], []⟩ 6 (by kernel_rfl) (by kernel_rfl) (by kernel_rfl) (by kernel_rfl)) ?_
  intro W base args ds gs before hval0 hW _ _
  have hval : ∀ (j : Nat) t v, Try.f6.params[j]? = some t → args[j]? = some v → Value.okWide Try.prog W .any base t v := hval0
  have hW' := hW
  obtain ⟨p, q, hA0, hV, rfl, hfz, hnd⟩ := hW
  have hA : DataW.TrodAll enc Try.prog W 0 (fun _ => true) true Try.f6.params.toList args.toList ds p := hA0
  rw [Try.params6] at hA hval
  obtain ⟨u0, d0, rfl, rfl, h0⟩ := trodAll_one hA
  obtain ⟨rfl, rfl⟩ := trodVars_none hV
  have hlt0 : ∀ x ∈ p, x.block < W.heap.size := fun x hx => by simpa using hW'.lt x (by simp [hx])
  obtain ⟨n, x, rv0, g0⟩ := spans_form (hval 0 32 u0 rfl rfl) h0
  clear hA0 hval0
  have hrun : (l6.2 [.isz n SS x]).run = some (.ret (.bool true)) := by
    show (Tr.chk (okL n x) (Tr.leaf (Res.ret (AV.bool true)))).run = _
    rw [g0]; rfl
  refine (l6_ok _ (.ret (.bool true)) hrun (Nm.one 0 0) (fun b => b < W.heap.size) W [u0] (fun _ h => h) trivial (.cons rv0 .nil)).mono fun e W' ⟨hbel, u, he, hu⟩ => ?_
  subst he
  rw [hu.of_bool]
  refine ⟨_, rfl, _, _, _, [], p, [], hW', ?_, ?_, rfl, hbel.frame _, fun h => by cases h⟩
  · exact trodAll_mk1 (shut_bool Try.underlying4 true)
  · exact trodAll_mk1 (below_trod (by kernel_rfl) (of_decide_eq_true (by kernel_rfl)) h0 hbel hlt0)
theorem spantreeSelf_holds : Rows.SpantreeSelfSaid :=
  OpenClaim.holds_of_wide 6 Try.f6 rfl rfl rfl rfl rfl rfl rfl ⟨rfl, rfl, rfl, rfl, rfl⟩ rfl rfl rfl rfl rfl (by kernel_rfl) Try.func6 (by kernel_rfl)
    (of_decide_eq_true (by kernel_rfl)) (by unfold Func.isWrapper; first | (rw [if_pos (by decide +kernel)]; kernel_rfl) | (rw [if_neg (by decide +kernel)]; exact ⟨rfl, rfl⟩))
    (fun os started H enc _ => spantreeSelf_lifted os started H enc)
#print axioms spantreeSelf_holds
end Go.Proofs.Ytfgniheefiefjaa
