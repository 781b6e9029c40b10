/- SpantreeOnce returns true for every input, and its arguments read as they did. No condition. -/
import Derived.Test.YtfgniheefiefjaaXCore8
/- Spans told apart: the loop. Conditions: none beyond the context's. -/
namespace Go.Proofs.Ytfgniheefiefjaa
open Go.Evl Go.RowKit
structure S27f where
  z : Bool
  i : Int
  t1 : Int
  a1 : Int
  p1 : Int
  v1 : ByteArray
  m1 : ByteArray
  b1 : Int
  c1 : Int
  s1 : Int
  n1 : Nat
  x1 : Nat → Nat → Dt
  l1 : Nat
  y1 : Nat → Nat → Dt
  t2 : Int
  a2 : Int
  p2 : Int
  v2 : ByteArray
  m2 : ByteArray
  b2 : Int
  c2 : Int
  s2 : Int
  n2 : Nat
  x2 : Nat → Nat → Dt
  l2 : Nat
  y2 : Nat → Nat → Dt
abbrev keep27f : List Nat := [2, 3, 4, 5]
abbrev vs27f (s : S27f) : List AV := [.ptr 0 0, .ptr 1 0, .bool s.z, .int .i64 s.i]
abbrev hp27f (s : S27f) : List Ob := [.cells [.int .i64 s.t1, .int .i64 s.a1, .int .i64 s.p1, .str s.v1, .str s.m1, .int .i64 s.b1, .int .i64 s.c1, .int .i64 s.s1, .isz s.n1 [.str, .str] s.x1, .isz s.l1 [.int .i64, .int .i64] s.y1] 25, .cells [.int .i64 s.t2, .int .i64 s.a2, .int .i64 s.p2, .str s.v2, .str s.m2, .int .i64 s.b2, .int .i64 s.c2, .int .i64 s.s2, .isz s.n2 [.str, .str] s.x2, .isz s.l2 [.int .i64, .int .i64] s.y2] 25]
noncomputable def dec27f : List AV → List Ob → Option S27f
  | [.ptr 0 0, .ptr 1 0, .bool z, .int .i64 i], [.cells [.int .i64 t1, .int .i64 a1, .int .i64 p1, .str v1, .str m1, .int .i64 b1, .int .i64 c1, .int .i64 s1, .isz n1 [.str, .str] x1, .isz l1 [.int .i64, .int .i64] y1] 25, .cells [.int .i64 t2, .int .i64 a2, .int .i64 p2, .str v2, .str m2, .int .i64 b2, .int .i64 c2, .int .i64 s2, .isz n2 [.str, .str] x2, .isz l2 [.int .i64, .int .i64] y2] 25] => some ⟨z, i, t1, a1, p1, v1, m1, b1, c1, s1, n1, x1, l1, y1, t2, a2, p2, v2, m2, b2, c2, s2, n2, x2, l2, y2⟩
  | _, _ => none
noncomputable def rnd27f (s : S27f) : Option (Ex × List AV × List Ob) :=
  bif decide (s.i < (s.l1 : Int)) then bif decide (0 ≤ s.i) && decide (s.i < (s.l1 : Int)) then bif decide (0 ≤ s.i) && decide (s.i < (s.l2 : Int)) then bif !((s.y1 s.i.toNat 0).n == (s.y2 s.i.toNat 0).n && ((s.y1 s.i.toNat 1).n == (s.y2 s.i.toNat 1).n && true)) then some (.ret, [.ptr 0 0, .ptr 1 0, .bool false, .int .i64 s.i], [.cells [.int .i64 s.t1, .int .i64 s.a1, .int .i64 s.p1, .str s.v1, .str s.m1, .int .i64 s.b1, .int .i64 s.c1, .int .i64 s.s1, .isz s.n1 [.str, .str] s.x1, .isz s.l1 [.int .i64, .int .i64] s.y1] 25, .cells [.int .i64 s.t2, .int .i64 s.a2, .int .i64 s.p2, .str s.v2, .str s.m2, .int .i64 s.b2, .int .i64 s.c2, .int .i64 s.s2, .isz s.n2 [.str, .str] s.x2, .isz s.l2 [.int .i64, .int .i64] s.y2] 25]) else some (.normal, [.ptr 0 0, .ptr 1 0, .bool s.z, .int .i64 (IntKind.i64.wrap (s.i + 1))], [.cells [.int .i64 s.t1, .int .i64 s.a1, .int .i64 s.p1, .str s.v1, .str s.m1, .int .i64 s.b1, .int .i64 s.c1, .int .i64 s.s1, .isz s.n1 [.str, .str] s.x1, .isz s.l1 [.int .i64, .int .i64] s.y1] 25, .cells [.int .i64 s.t2, .int .i64 s.a2, .int .i64 s.p2, .str s.v2, .str s.m2, .int .i64 s.b2, .int .i64 s.c2, .int .i64 s.s2, .isz s.n2 [.str, .str] s.x2, .isz s.l2 [.int .i64, .int .i64] s.y2] 25]) else none else none else some (.exit 0, [.ptr 0 0, .ptr 1 0, .bool s.z, .int .i64 s.i], [.cells [.int .i64 s.t1, .int .i64 s.a1, .int .i64 s.p1, .str s.v1, .str s.m1, .int .i64 s.b1, .int .i64 s.c1, .int .i64 s.s1, .isz s.n1 [.str, .str] s.x1, .isz s.l1 [.int .i64, .int .i64] s.y1] 25, .cells [.int .i64 s.t2, .int .i64 s.a2, .int .i64 s.p2, .str s.v2, .str s.m2, .int .i64 s.b2, .int .i64 s.c2, .int .i64 s.s2, .isz s.n2 [.str, .str] s.x2, .isz s.l2 [.int .i64, .int .i64] s.y2] 25])
noncomputable def L27f : Ls S27f := ⟨0, dec27f, vs27f, hp27f, rnd27f⟩
theorem L27f_ok : L27f.Ok := fun vs H s h => by
  have h : dec27f vs H = some s := h
  unfold dec27f at h
  split at h
  · obtain rfl := Option.some.inj h
    exact ⟨rfl, rfl⟩
  · cases h
noncomputable def ok27f (s : S27f) : Bool := L27f.ok 2 s
noncomputable def out27f (s : S27f) : S27f := (L27f.end_ s).2
noncomputable def ret27f (s : S27f) : Bool := (L27f.end_ s).1
noncomputable def fin27f (s : S27f) : Tr (Ex × List AV × List Ob) := .node (ret27f s) (.leaf (.ret, vs27f (out27f s), hp27f (out27f s))) (.leaf (.exit 0, vs27f (out27f s), hp27f (out27f s)))
noncomputable abbrev f27fs : List AV → List Ob → Tr (Ex × List AV × List Ob) := stF dec27f ok27f fin27f
theorem de27f (c : S27f) : L27f.dec (L27f.vs c) (L27f.hp c) = some c := by kernel_rfl
theorem on27f {s s1 s2 : S27f} {b : Bool} (h : rnd27f s = some (.normal, vs27f s1, hp27f s1)) (h2 : L27f.To s1 b s2) : L27f.To s b s2 := L27f.to_on h (de27f s1) h2
theorem ot27f {s s1 : S27f} (h : rnd27f s = some (.exit 0, vs27f s1, hp27f s1)) : L27f.To s false s1 := L27f.to_out h (de27f s1)
theorem rt27f {s s1 : S27f} (h : rnd27f s = some (.ret, vs27f s1, hp27f s1)) : L27f.To s true s1 := L27f.to_ret h (de27f s1)
theorem ok27f_of {s s1 : S27f} {b : Bool} (h : L27f.To s b s1) : ok27f s = true := h.ok L27f (m := 2) rfl
theorem out27f_of {s s1 : S27f} {b : Bool} (h : L27f.To s b s1) : out27f s = s1 := congrArg Prod.snd (h.end_ L27f)
theorem ret27f_of {s s1 : S27f} {b : Bool} (h : L27f.To s b s1) : ret27f s = b := congrArg Prod.fst (h.end_ L27f)
noncomputable abbrev lp27f (_ : Nat) : LT := .sum keep27f f27fs
theorem loop27f (s : S27f) : evC (β := Ex × List AV × List Ob) Try.prog (spOf [t15, t60]) (inlOf []) extD (cKD [t15, t60] []) (lp27f) (bodyOf Try.prog 27 0) ⟨mkF Try.f27.ntmps keep27f (vs27f s), hp27f s⟩ (fun e st => (cutBack keep27f 2 st).map fun q => (e, q.1, q.2)) = rnd27f s := by kernel_rfl
theorem sum27f : LoopOkT Try.prog (spOf [t15, t60]) (inlOf []) extD (cKD [t15, t60] []) lp27f Try.f27.ntmps (bodyOf Try.prog 27 0) (.sum keep27f f27fs) := by
  dsimp only [LoopOkT]
  exact ⟨by decide, by decide, sum_ls L27f 2 L27f_ok loop27f⟩
end Go.Proofs.Ytfgniheefiefjaa

/- The index of a number in a row; a span within a row: the loops. Conditions: none beyond the context's. -/
namespace Go.Proofs.Ytfgniheefiefjaa
open Go.Evl Go.RowKit
structure S28 where
  n : Nat
  x : Nat → Nat → Dt
  v : Int
  z : Int
  l : Int
  k : Int
abbrev keep28 : List Nat := [0, 1, 4, 7, 8]
abbrev vs28 (s : S28) : List AV := [.isz s.n [.int .i64] s.x, .int .i64 s.v, .int .i64 s.z, .int .i64 s.l, .int .i64 s.k]
abbrev hp28 (s : S28) : List Ob := []
noncomputable def dec28 : List AV → List Ob → Option S28
  | [.isz n [.int .i64] x, .int .i64 v, .int .i64 z, .int .i64 l, .int .i64 k], [] => some ⟨n, x, v, z, l, k⟩
  | _, _ => none
noncomputable def rnd28 (s : S28) : Option (Ex × List AV × List Ob) :=
  bif decide (s.k < s.l) then bif decide (0 ≤ s.k) && decide (s.k < (s.n : Int)) then bif s.v == (s.x s.k.toNat 0).n then some (.ret, [.isz s.n [.int .i64] s.x, .int .i64 s.v, .int .i64 s.k, .int .i64 s.l, .int .i64 s.k], []) else some (.normal, [.isz s.n [.int .i64] s.x, .int .i64 s.v, .int .i64 s.z, .int .i64 s.l, .int .i64 (IntKind.i64.wrap (s.k + 1))], []) else none else some (.exit 0, [.isz s.n [.int .i64] s.x, .int .i64 s.v, .int .i64 s.z, .int .i64 s.l, .int .i64 s.k], [])
noncomputable def L28 : Ls S28 := ⟨0, dec28, vs28, hp28, rnd28⟩
theorem L28_ok : L28.Ok := fun vs H s h => by
  have h : dec28 vs H = some s := h
  unfold dec28 at h
  split at h
  · obtain rfl := Option.some.inj h
    exact ⟨rfl, rfl⟩
  · cases h
noncomputable def ok28 (s : S28) : Bool := L28.ok 2 s
noncomputable def out28 (s : S28) : S28 := (L28.end_ s).2
noncomputable def ret28 (s : S28) : Bool := (L28.end_ s).1
noncomputable def fin28 (s : S28) : Tr (Ex × List AV × List Ob) := .node (ret28 s) (.leaf (.ret, vs28 (out28 s), hp28 (out28 s))) (.leaf (.exit 0, vs28 (out28 s), hp28 (out28 s)))
noncomputable abbrev f28s : List AV → List Ob → Tr (Ex × List AV × List Ob) := stF dec28 ok28 fin28
theorem de28 (c : S28) : L28.dec (L28.vs c) (L28.hp c) = some c := by kernel_rfl
theorem on28 {s s1 s2 : S28} {b : Bool} (h : rnd28 s = some (.normal, vs28 s1, hp28 s1)) (h2 : L28.To s1 b s2) : L28.To s b s2 := L28.to_on h (de28 s1) h2
theorem ot28 {s s1 : S28} (h : rnd28 s = some (.exit 0, vs28 s1, hp28 s1)) : L28.To s false s1 := L28.to_out h (de28 s1)
theorem rt28 {s s1 : S28} (h : rnd28 s = some (.ret, vs28 s1, hp28 s1)) : L28.To s true s1 := L28.to_ret h (de28 s1)
theorem ok28_of {s s1 : S28} {b : Bool} (h : L28.To s b s1) : ok28 s = true := h.ok L28 (m := 2) rfl
theorem out28_of {s s1 : S28} {b : Bool} (h : L28.To s b s1) : out28 s = s1 := congrArg Prod.snd (h.end_ L28)
theorem ret28_of {s s1 : S28} {b : Bool} (h : L28.To s b s1) : ret28 s = b := congrArg Prod.fst (h.end_ L28)
noncomputable abbrev lp28 (_ : Nat) : LT := .sum keep28 f28s
theorem loop28 (s : S28) : evC (β := Ex × List AV × List Ob) Try.prog (spOf []) (inlOf []) extD (cKD [] []) (lp28) (bodyOf Try.prog 28 0) ⟨mkF Try.f28.ntmps keep28 (vs28 s), hp28 s⟩ (fun e st => (cutBack keep28 0 st).map fun q => (e, q.1, q.2)) = rnd28 s := by kernel_rfl
theorem sum28 : LoopOkT Try.prog (spOf []) (inlOf []) extD (cKD [] []) lp28 Try.f28.ntmps (bodyOf Try.prog 28 0) (.sum keep28 f28s) := by
  dsimp only [LoopOkT]
  exact ⟨by decide, by decide, sum_ls L28 2 L28_ok loop28⟩
end Go.Proofs.Ytfgniheefiefjaa

/- Spans told apart; a number's place in a row: contracts. Conditions: none beyond the context's. -/
namespace Go.Proofs.Ytfgniheefiefjaa
open Go.Evl Go.RowKit
/-- the state in which SameSpan's loop is entered -/
def s27i (t1 : Int) (a1 : Int) (p1 : Int) (v1 : ByteArray) (m1 : ByteArray) (b1 : Int) (c1 : Int) (s1 : Int) (n1 : Nat) (x1 : Nat → Nat → Dt) (l1 : Nat) (y1 : Nat → Nat → Dt) (t2 : Int) (a2 : Int) (p2 : Int) (v2 : ByteArray) (m2 : ByteArray) (b2 : Int) (c2 : Int) (s2 : Int) (n2 : Nat) (x2 : Nat → Nat → Dt) (l2 : Nat) (y2 : Nat → Nat → Dt) : S27f := ⟨false, 0, t1, a1, p1, v1, m1, b1, c1, s1, n1, x1, l1, y1, t2, a2, p2, v2, m2, b2, c2, s2, n2, x2, l2, y2⟩
theorem vt27f (t1 : Int) (a1 : Int) (p1 : Int) (v1 : ByteArray) (m1 : ByteArray) (b1 : Int) (c1 : Int) (s1 : Int) (n1 : Nat) (x1 : Nat → Nat → Dt) (l1 : Nat) (y1 : Nat → Nat → Dt) (t2 : Int) (a2 : Int) (p2 : Int) (v2 : ByteArray) (m2 : ByteArray) (b2 : Int) (c2 : Int) (s2 : Int) (n2 : Nat) (x2 : Nat → Nat → Dt) (l2 : Nat) (y2 : Nat → Nat → Dt) : evFn Try.prog (spOf [t15, t60]) (inlOf []) extD (cKD [t15, t60] []) lp27f Try.f27 [.agg [.int .i64 t1, .int .i64 a1, .int .i64 p1, .str v1, .str m1, .int .i64 b1, .int .i64 c1, .int .i64 s1, .isz n1 [.str, .str] x1, .isz l1 [.int .i64, .int .i64] y1], .agg [.int .i64 t2, .int .i64 a2, .int .i64 p2, .str v2, .str m2, .int .i64 b2, .int .i64 c2, .int .i64 s2, .isz n2 [.str, .str] x2, .isz l2 [.int .i64, .int .i64] y2]] [] (fun r _ => some r) =
    (bif (l1 : Int) != (l2 : Int) then RB false else bif ok27f (s27i t1 a1 p1 v1 m1 b1 c1 s1 n1 x1 l1 y1 t2 a2 p2 v2 m2 b2 c2 s2 n2 x2 l2 y2) then bif ret27f (s27i t1 a1 p1 v1 m1 b1 c1 s1 n1 x1 l1 y1 t2 a2 p2 v2 m2 b2 c2 s2 n2 x2 l2 y2) then some (.ret (.bool (out27f (s27i t1 a1 p1 v1 m1 b1 c1 s1 n1 x1 l1 y1 t2 a2 p2 v2 m2 b2 c2 s2 n2 x2 l2 y2)).z)) else bif cpI (out27f (s27i t1 a1 p1 v1 m1 b1 c1 s1 n1 x1 l1 y1 t2 a2 p2 v2 m2 b2 c2 s2 n2 x2 l2 y2)).t1 (out27f (s27i t1 a1 p1 v1 m1 b1 c1 s1 n1 x1 l1 y1 t2 a2 p2 v2 m2 b2 c2 s2 n2 x2 l2 y2)).a1 (out27f (s27i t1 a1 p1 v1 m1 b1 c1 s1 n1 x1 l1 y1 t2 a2 p2 v2 m2 b2 c2 s2 n2 x2 l2 y2)).t2 (out27f (s27i t1 a1 p1 v1 m1 b1 c1 s1 n1 x1 l1 y1 t2 a2 p2 v2 m2 b2 c2 s2 n2 x2 l2 y2)).a2 == 0 then bif (out27f (s27i t1 a1 p1 v1 m1 b1 c1 s1 n1 x1 l1 y1 t2 a2 p2 v2 m2 b2 c2 s2 n2 x2 l2 y2)).p1 == (out27f (s27i t1 a1 p1 v1 m1 b1 c1 s1 n1 x1 l1 y1 t2 a2 p2 v2 m2 b2 c2 s2 n2 x2 l2 y2)).p2 then bif (out27f (s27i t1 a1 p1 v1 m1 b1 c1 s1 n1 x1 l1 y1 t2 a2 p2 v2 m2 b2 c2 s2 n2 x2 l2 y2)).v1.toList == (out27f (s27i t1 a1 p1 v1 m1 b1 c1 s1 n1 x1 l1 y1 t2 a2 p2 v2 m2 b2 c2 s2 n2 x2 l2 y2)).v2.toList then bif (out27f (s27i t1 a1 p1 v1 m1 b1 c1 s1 n1 x1 l1 y1 t2 a2 p2 v2 m2 b2 c2 s2 n2 x2 l2 y2)).m1.toList == (out27f (s27i t1 a1 p1 v1 m1 b1 c1 s1 n1 x1 l1 y1 t2 a2 p2 v2 m2 b2 c2 s2 n2 x2 l2 y2)).m2.toList then
      bif (out27f (s27i t1 a1 p1 v1 m1 b1 c1 s1 n1 x1 l1 y1 t2 a2 p2 v2 m2 b2 c2 s2 n2 x2 l2 y2)).b1 == (out27f (s27i t1 a1 p1 v1 m1 b1 c1 s1 n1 x1 l1 y1 t2 a2 p2 v2 m2 b2 c2 s2 n2 x2 l2 y2)).b2 then bif (out27f (s27i t1 a1 p1 v1 m1 b1 c1 s1 n1 x1 l1 y1 t2 a2 p2 v2 m2 b2 c2 s2 n2 x2 l2 y2)).c1 == (out27f (s27i t1 a1 p1 v1 m1 b1 c1 s1 n1 x1 l1 y1 t2 a2 p2 v2 m2 b2 c2 s2 n2 x2 l2 y2)).c2 then bif (out27f (s27i t1 a1 p1 v1 m1 b1 c1 s1 n1 x1 l1 y1 t2 a2 p2 v2 m2 b2 c2 s2 n2 x2 l2 y2)).s1 == (out27f (s27i t1 a1 p1 v1 m1 b1 c1 s1 n1 x1 l1 y1 t2 a2 p2 v2 m2 b2 c2 s2 n2 x2 l2 y2)).s2 then bif (out27f (s27i t1 a1 p1 v1 m1 b1 c1 s1 n1 x1 l1 y1 t2 a2 p2 v2 m2 b2 c2 s2 n2 x2 l2 y2)).n1.ble 1000000 && elB (out27f (s27i t1 a1 p1 v1 m1 b1 c1 s1 n1 x1 l1 y1 t2 a2 p2 v2 m2 b2 c2 s2 n2 x2 l2 y2)).n1 (out27f (s27i t1 a1 p1 v1 m1 b1 c1 s1 n1 x1 l1 y1 t2 a2 p2 v2 m2 b2 c2 s2 n2 x2 l2 y2)).x1 (out27f (s27i t1 a1 p1 v1 m1 b1 c1 s1 n1 x1 l1 y1 t2 a2 p2 v2 m2 b2 c2 s2 n2 x2 l2 y2)).n2 (out27f (s27i t1 a1 p1 v1 m1 b1 c1 s1 n1 x1 l1 y1 t2 a2 p2 v2 m2 b2 c2 s2 n2 x2 l2 y2)).x2 then RB true else none else RB false else RB false else RB false else RB false else RB false else RB false else RB false else none : Option Res) := by kernel_rfl
theorem to27f {z : Bool} {t1 : Int} {a1 : Int} {p1 : Int} {v1 : ByteArray} {m1 : ByteArray} {b1 : Int} {c1 : Int} {s1 : Int} {n1 : Nat} {x1 : Nat → Nat → Dt} {l1 : Nat} {y1 : Nat → Nat → Dt} {t2 : Int} {a2 : Int} {p2 : Int} {v2 : ByteArray} {m2 : ByteArray} {b2 : Int} {c2 : Int} {s2 : Int} {n2 : Nat} {x2 : Nat → Nat → Dt} {l2 : Nat} {y2 : Nat → Nat → Dt} (h0 : l1 = l2) (hl : l1 ≤ 1000000) : ∀ f i, i + f = l1 → ∃ b s, L27f.To ⟨z, (i : Int), t1, a1, p1, v1, m1, b1, c1, s1, n1, x1, l1, y1, t2, a2, p2, v2, m2, b2, c2, s2, n2, x2, l2, y2⟩ b s ∧ s.t1 = t1 ∧ s.a1 = a1 ∧ s.t2 = t2 ∧ s.a2 = a2 ∧ (b = true → s.z = false)
  | 0, i, hi => by
    obtain rfl : l1 = i := by omega
    refine ⟨false, ⟨z, (l1 : Int), t1, a1, p1, v1, m1, b1, c1, s1, n1, x1, l1, y1, t2, a2, p2, v2, m2, b2, c2, s2, n2, x2, l2, y2⟩, ot27f ?_, rfl, rfl, rfl, rfl, fun h => by cases h⟩
    simp only [rnd27f]
    rw [condF (decide_eq_false (by omega))]
  | f + 1, i, hi => by
    have w1 : IntKind.i64.wrap ((i : Int) + 1) = ((i + 1 : Nat) : Int) := by rw [wrapI (by omega) (by omega)]; omega
    have k1 : decide ((i : Int) < (l1 : Int)) = true := decide_eq_true (by omega)
    have k2 : (decide (0 ≤ (i : Int)) && decide ((i : Int) < (l1 : Int))) = true := by rw [k1, decide_eq_true (by omega)]; rfl
    have k3 : (decide (0 ≤ (i : Int)) && decide ((i : Int) < (l2 : Int))) = true := by rw [← h0]; exact k2
    cases e : (!((y1 i 0).n == (y2 i 0).n && ((y1 i 1).n == (y2 i 1).n && true))) with
    | true =>
      refine ⟨true, ⟨false, (i : Int), t1, a1, p1, v1, m1, b1, c1, s1, n1, x1, l1, y1, t2, a2, p2, v2, m2, b2, c2, s2, n2, x2, l2, y2⟩, rt27f ?_, rfl, rfl, rfl, rfl, fun _ => rfl⟩
      simp only [rnd27f, Int.toNat_natCast]
      rw [condT k1, condT k2, condT k3, condT e]
    | false =>
      obtain ⟨b, s, h1, h2⟩ := to27f (z := z) h0 hl f (i + 1) (by omega)
      refine ⟨b, s, on27f ?_ h1, h2⟩
      simp only [rnd27f, Int.toNat_natCast]
      rw [condT k1, condT k2, condT k3, condF e, w1]
/-- SameSpan: alike, or told apart by the identities -/
def t27f : Ent := ⟨27, fun
  | [.agg [.int .i64 t1, .int .i64 a1, .int .i64 p1, .str v1, .str m1, .int .i64 b1, .int .i64 c1, .int .i64 s1, .isz n1 [.str, .str] x1, .isz l1 [.int .i64, .int .i64] y1], .agg [.int .i64 t2, .int .i64 a2, .int .i64 p2, .str v2, .str m2, .int .i64 b2, .int .i64 c2, .int .i64 s2, .isz n2 [.str, .str] x2, .isz l2 [.int .i64, .int .i64] y2]] => .chk (esB t1 a1 p1 v1 m1 b1 c1 s1 n1 x1 l1 y1 t2 a2 p2 v2 m2 b2 c2 s2 n2 x2 l2 y2 || (Nat.ble l1 1000000 && cpI t1 a1 t2 a2 != 0)) (.leaf (.ret (.bool (esB t1 a1 p1 v1 m1 b1 c1 s1 n1 x1 l1 y1 t2 a2 p2 v2 m2 b2 c2 s2 n2 x2 l2 y2))))
  | _ => .non⟩
set_option maxRecDepth 10000 in
theorem t27f_ok : SpecHolds Try.prog InvD 27 fun a => (t27f.2 a).run := by
  intro args r hh
  have hh0 := hh
  unfold t27f at hh
  simp only at hh
  split at hh
  · rename_i t1 a1 p1 v1 m1 b1 c1 s1 n1 x1 l1 y1 t2 a2 p2 v2 m2 b2 c2 s2 n2 x2 l2 y2
    obtain ⟨hg, hh⟩ := chk_run hh
    cases he : esB t1 a1 p1 v1 m1 b1 c1 s1 n1 x1 l1 y1 t2 a2 p2 v2 m2 b2 c2 s2 n2 x2 l2 y2 with
    | true =>
      refine t27_ok _ r ?_
      unfold t27
      simp only [Tr.run, he, cond_true]
      rw [he] at hh
      exact hh
    | false =>
      rw [he, Bool.false_or, Bool.and_eq_true, Nat.ble_eq] at hg
      have key : SpecHolds Try.prog InvD 27 fun a => ((fun a => @ite _ (a = [.agg [.int .i64 t1, .int .i64 a1, .int .i64 p1, .str v1, .str m1, .int .i64 b1, .int .i64 c1, .int .i64 s1, .isz n1 [.str, .str] x1, .isz l1 [.int .i64, .int .i64] y1], .agg [.int .i64 t2, .int .i64 a2, .int .i64 p2, .str v2, .str m2, .int .i64 b2, .int .i64 c2, .int .i64 s2, .isz n2 [.str, .str] x2, .isz l2 [.int .i64, .int .i64] y2]]) (Classical.propDecidable _) (Tr.leaf (Res.ret (.bool false))) Tr.non) a).run := by
        refine specD sx27 Try.func27 (c := codeOf Try.prog 27) (by kernel_rfl) lp27f (fun p hp => by
          have hl : loops (codeOf Try.prog 27) = [(0, bodyOf Try.prog 27 0)] := by kernel_rfl
          rw [hl, List.mem_singleton] at hp
          subst hp
          exact sum27f) fun args r hh => ?_
        split at hh
        · rename_i e
          subst e
          refine ⟨by kernel_rfl, tr_ok (by rfl) hh, ?_⟩
          refine (vt27f t1 a1 p1 v1 m1 b1 c1 s1 n1 x1 l1 y1 t2 a2 p2 v2 m2 b2 c2 s2 n2 x2 l2 y2).trans (Eq.trans ?_ hh)
          by_cases h0 : l1 = l2
          · obtain ⟨b, s, h1, e1, e2, e3, e4, e5⟩ := to27f (z := false) (t1 := t1) (a1 := a1) (p1 := p1) (v1 := v1) (m1 := m1) (b1 := b1) (c1 := c1) (s1 := s1) (n1 := n1) (x1 := x1) (l1 := l1) (y1 := y1) (t2 := t2) (a2 := a2) (p2 := p2) (v2 := v2) (m2 := m2) (b2 := b2) (c2 := c2) (s2 := s2) (n2 := n2) (x2 := x2) (l2 := l2) (y2 := y2) h0 hg.1 l1 0 (by omega)
            rw [show ((0 : Nat) : Int) = 0 from rfl] at h1
            have ho : out27f (s27i t1 a1 p1 v1 m1 b1 c1 s1 n1 x1 l1 y1 t2 a2 p2 v2 m2 b2 c2 s2 n2 x2 l2 y2) = s := out27f_of h1
            have hr : ret27f (s27i t1 a1 p1 v1 m1 b1 c1 s1 n1 x1 l1 y1 t2 a2 p2 v2 m2 b2 c2 s2 n2 x2 l2 y2) = b := ret27f_of h1
            rw [condF (by rw [h0, bne_self_eq_false]), condT (show ok27f (s27i t1 a1 p1 v1 m1 b1 c1 s1 n1 x1 l1 y1 t2 a2 p2 v2 m2 b2 c2 s2 n2 x2 l2 y2) = true from ok27f_of h1), hr, ho]
            cases b with
            | true => rw [cond_true, e5 rfl]; rfl
            | false =>
              rw [cond_false, condF (by rw [e1, e2, e3, e4]; exact beq_eq_false_iff_ne.2 (bne_iff_ne.1 hg.2))]
              rfl
          · rw [condT (by rw [bne_iff_ne]; omega)]
            rfl
        · simp [Tr.run] at hh
      refine key _ r ?_
      rw [he] at hh
      simp only [if_true]
      exact hh
  · simp [Tr.run] at hh
/-- a number's first place in a row -/
def ixG (x : Nat → Nat → Dt) (v : Int) (j : Nat) : Option Unit := if v = (x j 0).n then some () else none
def ixI (n : Nat) (x : Nat → Nat → Dt) (v : Int) : Int := match scan (ixG x v) n 0 with
  | some (_, j) => (j : Int)
  | none => -1
theorem to28 {n : Nat} {x : Nat → Nat → Dt} {v : Int} (hn : n ≤ 1000000) : ∀ f k z, k + f = n → match scan (ixG x v) f k with
    | some (_, j) => ∃ s, s.z = (j : Int) ∧ L28.To ⟨n, x, v, z, (n : Int), (k : Int)⟩ true s
    | none => ∃ s, L28.To ⟨n, x, v, z, (n : Int), (k : Int)⟩ false s
  | 0, k, z, hk => by
    simp only [scan]
    refine ⟨⟨n, x, v, z, (n : Int), (k : Int)⟩, ot28 ?_⟩
    simp only [rnd28, Int.toNat_natCast]
    rw [condF (decide_eq_false (by omega))]
  | f + 1, k, z, hk => by
    have hc1 : decide ((k : Int) < (n : Int)) = true := decide_eq_true (by omega)
    have hc2 : (decide (0 ≤ (k : Int)) && decide ((k : Int) < (n : Int))) = true := by rw [hc1, decide_eq_true (by omega)]; rfl
    have w1 : IntKind.i64.wrap ((k : Int) + 1) = ((k + 1 : Nat) : Int) := by rw [wrapI (by omega) (by omega)]; omega
    simp only [scan]
    by_cases h : v = (x k 0).n
    · rw [show ixG x v k = some () from if_pos h]
      refine ⟨⟨n, x, v, (k : Int), (n : Int), (k : Int)⟩, rfl, rt28 ?_⟩
      simp only [rnd28, Int.toNat_natCast]
      rw [condT hc1, condT hc2, condT (beq_iff_eq.2 h)]
    · rw [show ixG x v k = none from if_neg h]
      have ih := to28 (x := x) (v := v) hn f (k + 1) z (by omega)
      have hr : rnd28 ⟨n, x, v, z, (n : Int), (k : Int)⟩ = some (.normal, vs28 ⟨n, x, v, z, (n : Int), ((k + 1 : Nat) : Int)⟩, hp28 ⟨n, x, v, z, (n : Int), ((k + 1 : Nat) : Int)⟩) := by
        simp only [rnd28, Int.toNat_natCast]
        rw [condT hc1, condT hc2, condF (beq_eq_false_iff_ne.2 h), w1]
      dsimp only
      cases e : scan (ixG x v) f (k + 1) with
      | none =>
        rw [e] at ih
        obtain ⟨s, hs⟩ := ih
        exact ⟨s, on28 hr hs⟩
      | some q =>
        rw [e] at ih
        obtain ⟨s, h1, hs⟩ := ih
        exact ⟨s, h1, on28 hr hs⟩
def t28 : Ent := ⟨28, fun
  | [.isz n [.int .i64] x, .int .i64 v] => .chk (Nat.ble n 1000000) (.leaf (.ret (.int .i64 (ixI n x v))))
  | _ => .non⟩
theorem vt28 (n : Nat) (x : Nat → Nat → Dt) (v : Int) : evFn Try.prog (spOf []) (inlOf []) extD (cKD [] []) lp28 Try.f28 [.isz n [.int .i64] x, .int .i64 v] [] (fun r _ => some r) =
    (bif ok28 ⟨n, x, v, 0, (n : Int), 0⟩ then bif ret28 ⟨n, x, v, 0, (n : Int), 0⟩ then some (.ret (.int .i64 (out28 ⟨n, x, v, 0, (n : Int), 0⟩).z)) else some (.ret (.int .i64 (-1))) else none : Option Res) := by kernel_rfl
set_option maxRecDepth 10000 in
theorem t28_ok : SpecHolds Try.prog InvD 28 fun a => (t28.2 a).run := by
  refine specD cx0 Try.func28 (c := codeOf Try.prog 28) (by kernel_rfl) lp28 (fun p hp => by
    have hl : loops (codeOf Try.prog 28) = [(0, bodyOf Try.prog 28 0)] := by kernel_rfl
    rw [hl, List.mem_singleton] at hp
    subst hp
    exact sum28) fun args r hh => ?_
  unfold t28 at hh
  simp only at hh
  split at hh
  · rename_i n x v
    obtain ⟨hg, hh⟩ := chk_run hh
    refine ⟨by kernel_rfl, tr_ok (by rfl) hh, ?_⟩
    refine (vt28 n x v).trans (Eq.trans ?_ hh)
    rw [Nat.ble_eq] at hg
    have h := to28 (x := x) (v := v) hg n 0 0 (by omega)
    rw [show ((0 : Nat) : Int) = 0 from rfl] at h
    unfold ixI
    cases e : scan (ixG x v) n 0 with
    | none =>
      rw [e] at h
      obtain ⟨s, hs⟩ := h
      rw [condT (ok28_of hs), condF (ret28_of hs)]
      rfl
    | some q =>
      rw [e] at h
      obtain ⟨s, h1, hs⟩ := h
      rw [condT (ok28_of hs), condT (ret28_of hs), out28_of hs, h1]
      rfl
  · simp [Tr.run] at hh
end Go.Proofs.Ytfgniheefiefjaa

/- SpantreeOnce: the loops. Conditions: none beyond the context's. -/
namespace Go.Proofs.Ytfgniheefiefjaa
open Go.Evl Go.RowKit
structure S21o where
  n0 : Nat
  x0 : Nat → Nat → Dt
  z : Int
  l : Int
  k : Int
  ti : Int
  n : Nat
  y : Nat → Nat → Dt
  m : Nat
  p : Nat → Nat → Dt
  c : Nat
  mf : Ky → Option Dt
  t1 : Int
  a1 : Int
  p1 : Int
  v1 : ByteArray
  m1 : ByteArray
  b1 : Int
  c1 : Int
  s1 : Int
  n1 : Nat
  x1 : Nat → Nat → Dt
  l1 : Nat
  y1 : Nat → Nat → Dt
abbrev keep21o : List Nat := [0, 1, 4, 7, 8]
abbrev vs21o (s : S21o) : List AV := [.isz s.n0 SS s.x0, .fn (.func 26) [.ptr 2 0], .int .i64 s.z, .int .i64 s.l, .int .i64 s.k]
abbrev hp21o (s : S21o) : List Ob := [.cells [.int .i64 s.ti, .isz s.n SS s.y, .isz s.m [.int .i64] s.p] 36, .mapF (.int .i64) s.c (.dat (.int .i64) s.mf), .cells [.int .i64 s.t1, .int .i64 s.a1, .int .i64 s.p1, .str s.v1, .str s.m1, .int .i64 s.b1, .int .i64 s.c1, .int .i64 s.s1, .isz s.n1 [.str, .str] s.x1, .isz s.l1 [.int .i64, .int .i64] s.y1] 25]
noncomputable def dec21o : List AV → List Ob → Option S21o
  | [.isz n0 [.int .i64, .int .i64, .int .i64, .str, .str, .int .i64, .int .i64, .int .i64, .row [.str, .str], .row [.int .i64, .int .i64]] x0, .fn (.func 26) [.ptr 2 0], .int .i64 z, .int .i64 l, .int .i64 k], [.cells [.int .i64 ti, .isz n [.int .i64, .int .i64, .int .i64, .str, .str, .int .i64, .int .i64, .int .i64, .row [.str, .str], .row [.int .i64, .int .i64]] y, .isz m [.int .i64] p] 36, .mapF (.int .i64) c (.dat (.int .i64) mf), .cells [.int .i64 t1, .int .i64 a1, .int .i64 p1, .str v1, .str m1, .int .i64 b1, .int .i64 c1, .int .i64 s1, .isz n1 [.str, .str] x1, .isz l1 [.int .i64, .int .i64] y1] 25] => some ⟨n0, x0, z, l, k, ti, n, y, m, p, c, mf, t1, a1, p1, v1, m1, b1, c1, s1, n1, x1, l1, y1⟩
  | _, _ => none
noncomputable def rnd21o (s : S21o) : Option (Ex × List AV × List Ob) :=
  bif decide (s.k < s.l) then bif decide (0 ≤ s.k) && decide (s.k < (s.n0 : Int)) then bif esB (s.x0 s.k.toNat 0).n (s.x0 s.k.toNat 1).n (s.x0 s.k.toNat 2).n (s.x0 s.k.toNat 3).s (s.x0 s.k.toNat 4).s (s.x0 s.k.toNat 5).n (s.x0 s.k.toNat 6).n (s.x0 s.k.toNat 7).n (s.x0 s.k.toNat 8).len (s.x0 s.k.toNat 8).el (s.x0 s.k.toNat 9).len (s.x0 s.k.toNat 9).el s.t1 s.a1 s.p1 s.v1 s.m1 s.b1 s.c1 s.s1 s.n1 s.x1 s.l1 s.y1 || (s.x0 s.k.toNat 9).len.ble 1000000 && cpI (s.x0 s.k.toNat 0).n (s.x0 s.k.toNat 1).n s.t1 s.a1 != 0 then bif esB (s.x0 s.k.toNat 0).n (s.x0 s.k.toNat 1).n (s.x0 s.k.toNat 2).n (s.x0 s.k.toNat 3).s (s.x0 s.k.toNat 4).s (s.x0 s.k.toNat 5).n (s.x0 s.k.toNat 6).n (s.x0 s.k.toNat 7).n (s.x0 s.k.toNat 8).len (s.x0 s.k.toNat 8).el (s.x0 s.k.toNat 9).len (s.x0 s.k.toNat 9).el s.t1 s.a1 s.p1 s.v1 s.m1 s.b1 s.c1 s.s1 s.n1 s.x1 s.l1 s.y1 then some (.ret, [.isz s.n0 SS s.x0, .fn (Fn.func 26) [.ptr 2 0], .int .i64 s.k, .int .i64 s.l, .int .i64 s.k], [.cells [.int .i64 s.ti, .isz s.n SS s.y, .isz s.m [.int .i64] s.p] 36, .mapF (Dk.int .i64) s.c (MF.dat (.int .i64) s.mf), .cells [.int .i64 s.t1, .int .i64 s.a1, .int .i64 s.p1, .str s.v1, .str s.m1, .int .i64 s.b1, .int .i64 s.c1, .int .i64 s.s1, .isz s.n1 [.str, .str] s.x1, .isz s.l1 [.int .i64, .int .i64] s.y1] 25]) else some (.normal, [.isz s.n0 SS s.x0, .fn (Fn.func 26) [.ptr 2 0], .int .i64 s.z, .int .i64 s.l, .int .i64 (IntKind.i64.wrap (s.k + 1))], [.cells [.int .i64 s.ti, .isz s.n SS s.y, .isz s.m [.int .i64] s.p] 36, .mapF (Dk.int .i64) s.c (MF.dat (.int .i64) s.mf), .cells [.int .i64 s.t1, .int .i64 s.a1, .int .i64 s.p1, .str s.v1, .str s.m1, .int .i64 s.b1, .int .i64 s.c1, .int .i64 s.s1, .isz s.n1 [.str, .str] s.x1, .isz s.l1 [.int .i64, .int .i64] s.y1] 25]) else none else none else some (.exit 0, [.isz s.n0 SS s.x0, .fn (Fn.func 26) [.ptr 2 0], .int .i64 s.z, .int .i64 s.l, .int .i64 s.k], [.cells [.int .i64 s.ti, .isz s.n SS s.y, .isz s.m [.int .i64] s.p] 36, .mapF (Dk.int .i64) s.c (MF.dat (.int .i64) s.mf), .cells [.int .i64 s.t1, .int .i64 s.a1, .int .i64 s.p1, .str s.v1, .str s.m1, .int .i64 s.b1, .int .i64 s.c1, .int .i64 s.s1, .isz s.n1 [.str, .str] s.x1, .isz s.l1 [.int .i64, .int .i64] s.y1] 25])
noncomputable def L21o : Ls S21o := ⟨0, dec21o, vs21o, hp21o, rnd21o⟩
theorem L21o_ok : L21o.Ok := fun vs H s h => by
  have h : dec21o vs H = some s := h
  unfold dec21o at h
  split at h
  · obtain rfl := Option.some.inj h
    exact ⟨rfl, rfl⟩
  · cases h
noncomputable def ok21o (s : S21o) : Bool := L21o.ok 2 s
noncomputable def out21o (s : S21o) : S21o := (L21o.end_ s).2
noncomputable def ret21o (s : S21o) : Bool := (L21o.end_ s).1
noncomputable def fin21o (s : S21o) : Tr (Ex × List AV × List Ob) := .node (ret21o s) (.leaf (.ret, vs21o (out21o s), hp21o (out21o s))) (.leaf (.exit 0, vs21o (out21o s), hp21o (out21o s)))
noncomputable abbrev f21os : List AV → List Ob → Tr (Ex × List AV × List Ob) := stF dec21o ok21o fin21o
theorem de21o (c : S21o) : L21o.dec (L21o.vs c) (L21o.hp c) = some c := by kernel_rfl
theorem on21o {s s1 s2 : S21o} {b : Bool} (h : rnd21o s = some (.normal, vs21o s1, hp21o s1)) (h2 : L21o.To s1 b s2) : L21o.To s b s2 := L21o.to_on h (de21o s1) h2
theorem ot21o {s s1 : S21o} (h : rnd21o s = some (.exit 0, vs21o s1, hp21o s1)) : L21o.To s false s1 := L21o.to_out h (de21o s1)
theorem rt21o {s s1 : S21o} (h : rnd21o s = some (.ret, vs21o s1, hp21o s1)) : L21o.To s true s1 := L21o.to_ret h (de21o s1)
theorem ok21o_of {s s1 : S21o} {b : Bool} (h : L21o.To s b s1) : ok21o s = true := h.ok L21o (m := 2) rfl
theorem out21o_of {s s1 : S21o} {b : Bool} (h : L21o.To s b s1) : out21o s = s1 := congrArg Prod.snd (h.end_ L21o)
theorem ret21o_of {s s1 : S21o} {b : Bool} (h : L21o.To s b s1) : ret21o s = b := congrArg Prod.fst (h.end_ L21o)
noncomputable abbrev lp21o (_ : Nat) : LT := .sum keep21o f21os
theorem loop21o (s : S21o) : evC (β := Ex × List AV × List Ob) Try.prog (spOf [t16, t17, t27f, t28, iAw]) (inlOf [21, 23, 26]) extD (cKD [t16, t17, t27f, t28, iAw] [21, 23, 26]) (lp21o) (bodyOf Try.prog 21 0) ⟨mkF Try.f21.ntmps keep21o (vs21o s), hp21o s⟩ (fun e st => (cutBack keep21o 3 st).map fun q => (e, q.1, q.2)) = rnd21o s := by kernel_rfl
theorem sum21o : LoopOkT Try.prog (spOf [t16, t17, t27f, t28, iAw]) (inlOf [21, 23, 26]) extD (cKD [t16, t17, t27f, t28, iAw] [21, 23, 26]) lp21o Try.f21.ntmps (bodyOf Try.prog 21 0) (.sum keep21o f21os) := by
  dsimp only [LoopOkT]
  exact ⟨by decide, by decide, sum_ls L21o 2 L21o_ok loop21o⟩
noncomputable abbrev cO0 {β : Type} : CallK β := cKD [t16, t17, t27f, t28, iAw] [21, 23, 26]
noncomputable abbrev cO1 {β : Type} : CallK β := callLK Try.prog (spOf [t16, t17, t27f, t28, iAw]) (inlOf [21, 23, 26]) extD cO0 [(21, lp21o)]
noncomputable abbrev cO2 {β : Type} : CallK β := callLK Try.prog (spOf [t16, t17, t27f, t28, iAw]) (inlOf [21, 23, 26]) extD cO1 [(23, fun _ => .unroll 0)]
structure S7 where
  n0 : Nat
  x0 : Nat → Nat → Dt
  z : Bool
  on : Nat
  oq : Nat → Nat → Dt
  n8 : Nat
  y8 : Nat → Nat → Dt
  l : Int
  i : Int
  ti : Int
  n : Nat
  y : Nat → Nat → Dt
  m : Nat
  p : Nat → Nat → Dt
  c : Nat
  mf : Ky → Option Dt
abbrev keep7 : List Nat := [0, 2, 3, 5, 6, 48, 49, 50]
abbrev vs7 (s : S7) : List AV := [.isz s.n0 SS s.x0, .bool s.z, .ptr 0 0, .map 1, .isz s.on [.int .i64] s.oq, .isz s.n8 SS s.y8, .int .i64 s.l, .int .i64 s.i]
abbrev hp7 (s : S7) : List Ob := [.cells [.int .i64 s.ti, .isz s.n SS s.y, .isz s.m [.int .i64] s.p] 36, .mapF (.int .i64) s.c (.dat (.int .i64) s.mf)]
noncomputable def dec7 : List AV → List Ob → Option S7
  | [.isz n0 [.int .i64, .int .i64, .int .i64, .str, .str, .int .i64, .int .i64, .int .i64, .row [.str, .str], .row [.int .i64, .int .i64]] x0, .bool z, .ptr 0 0, .map 1, .isz on [.int .i64] oq, .isz n8 [.int .i64, .int .i64, .int .i64, .str, .str, .int .i64, .int .i64, .int .i64, .row [.str, .str], .row [.int .i64, .int .i64]] y8, .int .i64 l, .int .i64 i], [.cells [.int .i64 ti, .isz n [.int .i64, .int .i64, .int .i64, .str, .str, .int .i64, .int .i64, .int .i64, .row [.str, .str], .row [.int .i64, .int .i64]] y, .isz m [.int .i64] p] 36, .mapF (.int .i64) c (.dat (.int .i64) mf)] => some ⟨n0, x0, z, on, oq, n8, y8, l, i, ti, n, y, m, p, c, mf⟩
  | _, _ => none
noncomputable def rnd7 (s : S7) : Option (Ex × List AV × List Ob) :=
  bif decide (s.i < s.l) then bif decide (0 ≤ s.i) && decide (s.i < (s.n8 : Int)) then bif ok21o { n0 := s.n0, x0 := s.x0, z := 0, l := (s.n0 : Int), k := 0, ti := s.ti, n := s.n, y := s.y, m := s.m, p := s.p, c := s.c, mf := s.mf, t1 := (s.y8 s.i.toNat 0).n, a1 := (s.y8 s.i.toNat 1).n, p1 := (s.y8 s.i.toNat 2).n, v1 := (s.y8 s.i.toNat 3).s, m1 := (s.y8 s.i.toNat 4).s, b1 := (s.y8 s.i.toNat 5).n, c1 := (s.y8 s.i.toNat 6).n, s1 := (s.y8 s.i.toNat 7).n, n1 := (s.y8 s.i.toNat 8).len, x1 := (s.y8 s.i.toNat 8).el, l1 := (s.y8 s.i.toNat 9).len, y1 := (s.y8 s.i.toNat 9).el } then bif ret21o { n0 := s.n0, x0 := s.x0, z := 0, l := (s.n0 : Int), k := 0, ti := s.ti, n := s.n, y := s.y, m := s.m, p := s.p, c := s.c, mf := s.mf, t1 := (s.y8 s.i.toNat 0).n, a1 := (s.y8 s.i.toNat 1).n, p1 := (s.y8 s.i.toNat 2).n, v1 := (s.y8 s.i.toNat 3).s, m1 := (s.y8 s.i.toNat 4).s, b1 := (s.y8 s.i.toNat 5).n, c1 := (s.y8 s.i.toNat 6).n, s1 := (s.y8 s.i.toNat 7).n, n1 := (s.y8 s.i.toNat 8).len, x1 := (s.y8 s.i.toNat 8).el, l1 := (s.y8 s.i.toNat 9).len, y1 := (s.y8 s.i.toNat 9).el } then bif decide ((out21o { n0 := s.n0, x0 := s.x0, z := 0, l := (s.n0 : Int), k := 0, ti := s.ti, n := s.n, y := s.y, m := s.m, p := s.p, c := s.c, mf := s.mf, t1 := (s.y8 s.i.toNat 0).n, a1 := (s.y8 s.i.toNat 1).n, p1 := (s.y8 s.i.toNat 2).n, v1 := (s.y8 s.i.toNat 3).s, m1 := (s.y8 s.i.toNat 4).s, b1 := (s.y8 s.i.toNat 5).n, c1 := (s.y8 s.i.toNat 6).n, s1 := (s.y8 s.i.toNat 7).n, n1 := (s.y8 s.i.toNat 8).len, x1 := (s.y8 s.i.toNat 8).el, l1 := (s.y8 s.i.toNat 9).len, y1 := (s.y8 s.i.toNat 9).el }).3 ≥ 0) then bif decide (0 ≤ s.i) && decide (s.i < ((out21o { n0 := s.n0, x0 := s.x0, z := 0, l := (s.n0 : Int), k := 0, ti := s.ti, n := s.n, y := s.y, m := s.m, p := s.p, c := s.c, mf := s.mf, t1 := (s.y8 s.i.toNat 0).n, a1 := (s.y8 s.i.toNat 1).n, p1 := (s.y8 s.i.toNat 2).n, v1 := (s.y8 s.i.toNat 3).s, m1 := (s.y8 s.i.toNat 4).s, b1 := (s.y8 s.i.toNat 5).n, c1 := (s.y8 s.i.toNat 6).n, s1 := (s.y8 s.i.toNat 7).n, n1 := (s.y8 s.i.toNat 8).len, x1 := (s.y8 s.i.toNat 8).el, l1 := (s.y8 s.i.toNat 9).len, y1 := (s.y8 s.i.toNat 9).el }).9 : Int)) then bif s.on.ble 1000000 then bif decide (ixI s.on s.oq ((out21o { n0 := s.n0, x0 := s.x0, z := 0, l := (s.n0 : Int), k := 0, ti := s.ti, n := s.n, y := s.y, m := s.m, p := s.p, c := s.c, mf := s.mf, t1 := (s.y8 s.i.toNat 0).n, a1 := (s.y8 s.i.toNat 1).n, p1 := (s.y8 s.i.toNat 2).n, v1 := (s.y8 s.i.toNat 3).s, m1 := (s.y8 s.i.toNat 4).s, b1 := (s.y8 s.i.toNat 5).n, c1 := (s.y8 s.i.toNat 6).n, s1 := (s.y8 s.i.toNat 7).n, n1 := (s.y8 s.i.toNat 8).len, x1 := (s.y8 s.i.toNat 8).el, l1 := (s.y8 s.i.toNat 9).len, y1 := (s.y8 s.i.toNat 9).el }).10 s.i.toNat 0).n < 0) then some (.ret, [.isz s.n0 SS s.x0, .bool false, .ptr 0 0, .map 1, .isz s.on [.int .i64] s.oq, .isz s.n8 SS s.y8, .int .i64 s.l, .int .i64 s.i], [.cells [.int .i64 (out21o { n0 := s.n0, x0 := s.x0, z := 0, l := (s.n0 : Int), k := 0, ti := s.ti, n := s.n, y := s.y, m := s.m, p := s.p, c := s.c, mf := s.mf, t1 := (s.y8 s.i.toNat 0).n, a1 := (s.y8 s.i.toNat 1).n, p1 := (s.y8 s.i.toNat 2).n, v1 := (s.y8 s.i.toNat 3).s, m1 := (s.y8 s.i.toNat 4).s, b1 := (s.y8 s.i.toNat 5).n, c1 := (s.y8 s.i.toNat 6).n, s1 := (s.y8 s.i.toNat 7).n, n1 := (s.y8 s.i.toNat 8).len, x1 := (s.y8 s.i.toNat 8).el, l1 := (s.y8 s.i.toNat 9).len, y1 := (s.y8 s.i.toNat 9).el }).6, .isz (out21o { n0 := s.n0, x0 := s.x0, z := 0, l := (s.n0 : Int), k := 0, ti := s.ti, n := s.n, y := s.y, m := s.m, p := s.p, c := s.c, mf := s.mf, t1 := (s.y8 s.i.toNat 0).n, a1 := (s.y8 s.i.toNat 1).n, p1 := (s.y8 s.i.toNat 2).n, v1 := (s.y8 s.i.toNat 3).s, m1 := (s.y8 s.i.toNat 4).s, b1 := (s.y8 s.i.toNat 5).n, c1 := (s.y8 s.i.toNat 6).n, s1 := (s.y8 s.i.toNat 7).n, n1 := (s.y8 s.i.toNat 8).len, x1 := (s.y8 s.i.toNat 8).el, l1 := (s.y8 s.i.toNat 9).len, y1 := (s.y8 s.i.toNat 9).el }).7 SS (out21o { n0 := s.n0, x0 := s.x0, z := 0, l := (s.n0 : Int), k := 0, ti := s.ti, n := s.n, y := s.y, m := s.m, p := s.p, c := s.c, mf := s.mf, t1 := (s.y8 s.i.toNat 0).n, a1 := (s.y8 s.i.toNat 1).n, p1 := (s.y8 s.i.toNat 2).n, v1 := (s.y8 s.i.toNat 3).s, m1 := (s.y8 s.i.toNat 4).s, b1 := (s.y8 s.i.toNat 5).n, c1 := (s.y8 s.i.toNat 6).n, s1 := (s.y8 s.i.toNat 7).n, n1 := (s.y8 s.i.toNat 8).len, x1 := (s.y8 s.i.toNat 8).el, l1 := (s.y8 s.i.toNat 9).len, y1 := (s.y8 s.i.toNat 9).el }).y, .isz (out21o { n0 := s.n0, x0 := s.x0, z := 0, l := (s.n0 : Int), k := 0, ti := s.ti, n := s.n, y := s.y, m := s.m, p := s.p, c := s.c, mf := s.mf, t1 := (s.y8 s.i.toNat 0).n, a1 := (s.y8 s.i.toNat 1).n, p1 := (s.y8 s.i.toNat 2).n, v1 := (s.y8 s.i.toNat 3).s, m1 := (s.y8 s.i.toNat 4).s, b1 := (s.y8 s.i.toNat 5).n, c1 := (s.y8 s.i.toNat 6).n, s1 := (s.y8 s.i.toNat 7).n, n1 := (s.y8 s.i.toNat 8).len, x1 := (s.y8 s.i.toNat 8).el, l1 := (s.y8 s.i.toNat 9).len, y1 := (s.y8 s.i.toNat 9).el }).9 [.int .i64] (out21o { n0 := s.n0, x0 := s.x0, z := 0, l := (s.n0 : Int), k := 0, ti := s.ti, n := s.n, y := s.y, m := s.m, p := s.p, c := s.c, mf := s.mf, t1 := (s.y8 s.i.toNat 0).n, a1 := (s.y8 s.i.toNat 1).n, p1 := (s.y8 s.i.toNat 2).n, v1 := (s.y8 s.i.toNat 3).s, m1 := (s.y8 s.i.toNat 4).s, b1 := (s.y8 s.i.toNat 5).n, c1 := (s.y8 s.i.toNat 6).n, s1 := (s.y8 s.i.toNat 7).n, n1 := (s.y8 s.i.toNat 8).len, x1 := (s.y8 s.i.toNat 8).el, l1 := (s.y8 s.i.toNat 9).len, y1 := (s.y8 s.i.toNat 9).el }).p] 36, .mapF (Dk.int .i64) (out21o { n0 := s.n0, x0 := s.x0, z := 0, l := (s.n0 : Int), k := 0, ti := s.ti, n := s.n, y := s.y, m := s.m, p := s.p, c := s.c, mf := s.mf, t1 := (s.y8 s.i.toNat 0).n, a1 := (s.y8 s.i.toNat 1).n, p1 := (s.y8 s.i.toNat 2).n, v1 := (s.y8 s.i.toNat 3).s, m1 := (s.y8 s.i.toNat 4).s, b1 := (s.y8 s.i.toNat 5).n, c1 := (s.y8 s.i.toNat 6).n, s1 := (s.y8 s.i.toNat 7).n, n1 := (s.y8 s.i.toNat 8).len, x1 := (s.y8 s.i.toNat 8).el, l1 := (s.y8 s.i.toNat 9).len, y1 := (s.y8 s.i.toNat 9).el }).11 (MF.dat (.int .i64) (out21o { n0 := s.n0, x0 := s.x0, z := 0, l := (s.n0 : Int), k := 0, ti := s.ti, n := s.n, y := s.y, m := s.m, p := s.p, c := s.c, mf := s.mf, t1 := (s.y8 s.i.toNat 0).n, a1 := (s.y8 s.i.toNat 1).n, p1 := (s.y8 s.i.toNat 2).n, v1 := (s.y8 s.i.toNat 3).s, m1 := (s.y8 s.i.toNat 4).s, b1 := (s.y8 s.i.toNat 5).n, c1 := (s.y8 s.i.toNat 6).n, s1 := (s.y8 s.i.toNat 7).n, n1 := (s.y8 s.i.toNat 8).len, x1 := (s.y8 s.i.toNat 8).el, l1 := (s.y8 s.i.toNat 9).len, y1 := (s.y8 s.i.toNat 9).el }).mf)]) else bif Option.isSome ((out21o { n0 := s.n0, x0 := s.x0, z := 0, l := (s.n0 : Int), k := 0, ti := s.ti, n := s.n, y := s.y, m := s.m, p := s.p, c := s.c, mf := s.mf, t1 := (s.y8 s.i.toNat 0).n, a1 := (s.y8 s.i.toNat 1).n, p1 := (s.y8 s.i.toNat 2).n, v1 := (s.y8 s.i.toNat 3).s, m1 := (s.y8 s.i.toNat 4).s, b1 := (s.y8 s.i.toNat 5).n, c1 := (s.y8 s.i.toNat 6).n, s1 := (s.y8 s.i.toNat 7).n, n1 := (s.y8 s.i.toNat 8).len, x1 := (s.y8 s.i.toNat 8).el, l1 := (s.y8 s.i.toNat 9).len, y1 := (s.y8 s.i.toNat 9).el }).mf (Ky.int ((out21o { n0 := s.n0, x0 := s.x0, z := 0, l := (s.n0 : Int), k := 0, ti := s.ti, n := s.n, y := s.y, m := s.m, p := s.p, c := s.c, mf := s.mf, t1 := (s.y8 s.i.toNat 0).n, a1 := (s.y8 s.i.toNat 1).n, p1 := (s.y8 s.i.toNat 2).n, v1 := (s.y8 s.i.toNat 3).s, m1 := (s.y8 s.i.toNat 4).s, b1 := (s.y8 s.i.toNat 5).n, c1 := (s.y8 s.i.toNat 6).n, s1 := (s.y8 s.i.toNat 7).n, n1 := (s.y8 s.i.toNat 8).len, x1 := (s.y8 s.i.toNat 8).el, l1 := (s.y8 s.i.toNat 9).len, y1 := (s.y8 s.i.toNat 9).el }).p s.i.toNat 0).n)) then bif decide (0 ≤ Dt.n (((out21o { n0 := s.n0, x0 := s.x0, z := 0, l := (s.n0 : Int), k := 0, ti := s.ti, n := s.n, y := s.y, m := s.m, p := s.p, c := s.c, mf := s.mf, t1 := (s.y8 s.i.toNat 0).n, a1 := (s.y8 s.i.toNat 1).n, p1 := (s.y8 s.i.toNat 2).n, v1 := (s.y8 s.i.toNat 3).s, m1 := (s.y8 s.i.toNat 4).s, b1 := (s.y8 s.i.toNat 5).n, c1 := (s.y8 s.i.toNat 6).n, s1 := (s.y8 s.i.toNat 7).n, n1 := (s.y8 s.i.toNat 8).len, x1 := (s.y8 s.i.toNat 8).el, l1 := (s.y8 s.i.toNat 9).len, y1 := (s.y8 s.i.toNat 9).el }).mf (Ky.int ((out21o { n0 := s.n0, x0 := s.x0, z := 0, l := (s.n0 : Int), k := 0, ti := s.ti, n := s.n, y := s.y, m := s.m, p := s.p, c := s.c, mf := s.mf, t1 := (s.y8 s.i.toNat 0).n, a1 := (s.y8 s.i.toNat 1).n, p1 := (s.y8 s.i.toNat 2).n, v1 := (s.y8 s.i.toNat 3).s, m1 := (s.y8 s.i.toNat 4).s, b1 := (s.y8 s.i.toNat 5).n, c1 := (s.y8 s.i.toNat 6).n, s1 := (s.y8 s.i.toNat 7).n, n1 := (s.y8 s.i.toNat 8).len, x1 := (s.y8 s.i.toNat 8).el, l1 := (s.y8 s.i.toNat 9).len, y1 := (s.y8 s.i.toNat 9).el }).p s.i.toNat 0).n)).getD (Dt.int 0))) && decide (Dt.n (((out21o { n0 := s.n0, x0 := s.x0, z := 0, l := (s.n0 : Int), k := 0, ti := s.ti, n := s.n, y := s.y, m := s.m, p := s.p, c := s.c, mf := s.mf, t1 := (s.y8 s.i.toNat 0).n, a1 := (s.y8 s.i.toNat 1).n, p1 := (s.y8 s.i.toNat 2).n, v1 := (s.y8 s.i.toNat 3).s, m1 := (s.y8 s.i.toNat 4).s, b1 := (s.y8 s.i.toNat 5).n, c1 := (s.y8 s.i.toNat 6).n, s1 := (s.y8 s.i.toNat 7).n, n1 := (s.y8 s.i.toNat 8).len, x1 := (s.y8 s.i.toNat 8).el, l1 := (s.y8 s.i.toNat 9).len, y1 := (s.y8 s.i.toNat 9).el }).mf (Ky.int ((out21o { n0 := s.n0, x0 := s.x0, z := 0, l := (s.n0 : Int), k := 0, ti := s.ti, n := s.n, y := s.y, m := s.m, p := s.p, c := s.c, mf := s.mf, t1 := (s.y8 s.i.toNat 0).n, a1 := (s.y8 s.i.toNat 1).n, p1 := (s.y8 s.i.toNat 2).n, v1 := (s.y8 s.i.toNat 3).s, m1 := (s.y8 s.i.toNat 4).s, b1 := (s.y8 s.i.toNat 5).n, c1 := (s.y8 s.i.toNat 6).n, s1 := (s.y8 s.i.toNat 7).n, n1 := (s.y8 s.i.toNat 8).len, x1 := (s.y8 s.i.toNat 8).el, l1 := (s.y8 s.i.toNat 9).len, y1 := (s.y8 s.i.toNat 9).el }).p s.i.toNat 0).n)).getD (Dt.int 0)) < ((out21o { n0 := s.n0, x0 := s.x0, z := 0, l := (s.n0 : Int), k := 0, ti := s.ti, n := s.n, y := s.y, m := s.m, p := s.p, c := s.c, mf := s.mf, t1 := (s.y8 s.i.toNat 0).n, a1 := (s.y8 s.i.toNat 1).n, p1 := (s.y8 s.i.toNat 2).n, v1 := (s.y8 s.i.toNat 3).s, m1 := (s.y8 s.i.toNat 4).s, b1 := (s.y8 s.i.toNat 5).n, c1 := (s.y8 s.i.toNat 6).n, s1 := (s.y8 s.i.toNat 7).n, n1 := (s.y8 s.i.toNat 8).len, x1 := (s.y8 s.i.toNat 8).el, l1 := (s.y8 s.i.toNat 9).len, y1 := (s.y8 s.i.toNat 9).el }).7 : Int)) then bif decide (((out21o { n0 := s.n0, x0 := s.x0, z := 0, l := (s.n0 : Int), k := 0, ti := s.ti, n := s.n, y := s.y, m := s.m, p := s.p, c := s.c, mf := s.mf, t1 := (s.y8 s.i.toNat 0).n, a1 := (s.y8 s.i.toNat 1).n, p1 := (s.y8 s.i.toNat 2).n, v1 := (s.y8 s.i.toNat 3).s, m1 := (s.y8 s.i.toNat 4).s, b1 := (s.y8 s.i.toNat 5).n, c1 := (s.y8 s.i.toNat 6).n, s1 := (s.y8 s.i.toNat 7).n, n1 := (s.y8 s.i.toNat 8).len, x1 := (s.y8 s.i.toNat 8).el, l1 := (s.y8 s.i.toNat 9).len, y1 := (s.y8 s.i.toNat 9).el }).8 (((out21o { n0 := s.n0, x0 := s.x0, z := 0, l := (s.n0 : Int), k := 0, ti := s.ti, n := s.n, y := s.y, m := s.m, p := s.p, c := s.c, mf := s.mf, t1 := (s.y8 s.i.toNat 0).n, a1 := (s.y8 s.i.toNat 1).n, p1 := (s.y8 s.i.toNat 2).n, v1 := (s.y8 s.i.toNat 3).s, m1 := (s.y8 s.i.toNat 4).s, b1 := (s.y8 s.i.toNat 5).n, c1 := (s.y8 s.i.toNat 6).n, s1 := (s.y8 s.i.toNat 7).n, n1 := (s.y8 s.i.toNat 8).len, x1 := (s.y8 s.i.toNat 8).el, l1 := (s.y8 s.i.toNat 9).len, y1 := (s.y8 s.i.toNat 9).el }).mf (Ky.int ((out21o { n0 := s.n0, x0 := s.x0, z := 0, l := (s.n0 : Int), k := 0, ti := s.ti, n := s.n, y := s.y, m := s.m, p := s.p, c := s.c, mf := s.mf, t1 := (s.y8 s.i.toNat 0).n, a1 := (s.y8 s.i.toNat 1).n, p1 := (s.y8 s.i.toNat 2).n, v1 := (s.y8 s.i.toNat 3).s, m1 := (s.y8 s.i.toNat 4).s, b1 := (s.y8 s.i.toNat 5).n, c1 := (s.y8 s.i.toNat 6).n, s1 := (s.y8 s.i.toNat 7).n, n1 := (s.y8 s.i.toNat 8).len, x1 := (s.y8 s.i.toNat 8).el, l1 := (s.y8 s.i.toNat 9).len, y1 := (s.y8 s.i.toNat 9).el }).p s.i.toNat 0).n)).getD (Dt.int 0)).n.toNat 5).n > (out21o { n0 := s.n0, x0 := s.x0, z := 0, l := (s.n0 : Int), k := 0, ti := s.ti, n := s.n, y := s.y, m := s.m, p := s.p, c := s.c, mf := s.mf, t1 := (s.y8 s.i.toNat 0).n, a1 := (s.y8 s.i.toNat 1).n, p1 := (s.y8 s.i.toNat 2).n, v1 := (s.y8 s.i.toNat 3).s, m1 := (s.y8 s.i.toNat 4).s, b1 := (s.y8 s.i.toNat 5).n, c1 := (s.y8 s.i.toNat 6).n, s1 := (s.y8 s.i.toNat 7).n, n1 := (s.y8 s.i.toNat 8).len, x1 := (s.y8 s.i.toNat 8).el, l1 := (s.y8 s.i.toNat 9).len, y1 := (s.y8 s.i.toNat 9).el }).18) then some (.ret, [.isz s.n0 SS s.x0, .bool false, .ptr 0 0, .map 1, .isz s.on [.int .i64] s.oq, .isz s.n8 SS s.y8, .int .i64 s.l, .int .i64 s.i], [.cells [.int .i64 (out21o { n0 := s.n0, x0 := s.x0, z := 0, l := (s.n0 : Int), k := 0, ti := s.ti, n := s.n, y := s.y, m := s.m, p := s.p, c := s.c, mf := s.mf, t1 := (s.y8 s.i.toNat 0).n, a1 := (s.y8 s.i.toNat 1).n, p1 := (s.y8 s.i.toNat 2).n, v1 := (s.y8 s.i.toNat 3).s, m1 := (s.y8 s.i.toNat 4).s, b1 := (s.y8 s.i.toNat 5).n, c1 := (s.y8 s.i.toNat 6).n, s1 := (s.y8 s.i.toNat 7).n, n1 := (s.y8 s.i.toNat 8).len, x1 := (s.y8 s.i.toNat 8).el, l1 := (s.y8 s.i.toNat 9).len, y1 := (s.y8 s.i.toNat 9).el }).6, .isz (out21o { n0 := s.n0, x0 := s.x0, z := 0, l := (s.n0 : Int), k := 0, ti := s.ti, n := s.n, y := s.y, m := s.m, p := s.p, c := s.c, mf := s.mf, t1 := (s.y8 s.i.toNat 0).n, a1 := (s.y8 s.i.toNat 1).n, p1 := (s.y8 s.i.toNat 2).n, v1 := (s.y8 s.i.toNat 3).s, m1 := (s.y8 s.i.toNat 4).s, b1 := (s.y8 s.i.toNat 5).n, c1 := (s.y8 s.i.toNat 6).n, s1 := (s.y8 s.i.toNat 7).n, n1 := (s.y8 s.i.toNat 8).len, x1 := (s.y8 s.i.toNat 8).el, l1 := (s.y8 s.i.toNat 9).len, y1 := (s.y8 s.i.toNat 9).el }).7 SS (out21o { n0 := s.n0, x0 := s.x0, z := 0, l := (s.n0 : Int), k := 0, ti := s.ti, n := s.n, y := s.y, m := s.m, p := s.p, c := s.c, mf := s.mf, t1 := (s.y8 s.i.toNat 0).n, a1 := (s.y8 s.i.toNat 1).n, p1 := (s.y8 s.i.toNat 2).n, v1 := (s.y8 s.i.toNat 3).s, m1 := (s.y8 s.i.toNat 4).s, b1 := (s.y8 s.i.toNat 5).n, c1 := (s.y8 s.i.toNat 6).n, s1 := (s.y8 s.i.toNat 7).n, n1 := (s.y8 s.i.toNat 8).len, x1 := (s.y8 s.i.toNat 8).el, l1 := (s.y8 s.i.toNat 9).len, y1 := (s.y8 s.i.toNat 9).el }).y, .isz (out21o { n0 := s.n0, x0 := s.x0, z := 0, l := (s.n0 : Int), k := 0, ti := s.ti, n := s.n, y := s.y, m := s.m, p := s.p, c := s.c, mf := s.mf, t1 := (s.y8 s.i.toNat 0).n, a1 := (s.y8 s.i.toNat 1).n, p1 := (s.y8 s.i.toNat 2).n, v1 := (s.y8 s.i.toNat 3).s, m1 := (s.y8 s.i.toNat 4).s, b1 := (s.y8 s.i.toNat 5).n, c1 := (s.y8 s.i.toNat 6).n, s1 := (s.y8 s.i.toNat 7).n, n1 := (s.y8 s.i.toNat 8).len, x1 := (s.y8 s.i.toNat 8).el, l1 := (s.y8 s.i.toNat 9).len, y1 := (s.y8 s.i.toNat 9).el }).9 [.int .i64] (out21o { n0 := s.n0, x0 := s.x0, z := 0, l := (s.n0 : Int), k := 0, ti := s.ti, n := s.n, y := s.y, m := s.m, p := s.p, c := s.c, mf := s.mf, t1 := (s.y8 s.i.toNat 0).n, a1 := (s.y8 s.i.toNat 1).n, p1 := (s.y8 s.i.toNat 2).n, v1 := (s.y8 s.i.toNat 3).s, m1 := (s.y8 s.i.toNat 4).s, b1 := (s.y8 s.i.toNat 5).n, c1 := (s.y8 s.i.toNat 6).n, s1 := (s.y8 s.i.toNat 7).n, n1 := (s.y8 s.i.toNat 8).len, x1 := (s.y8 s.i.toNat 8).el, l1 := (s.y8 s.i.toNat 9).len, y1 := (s.y8 s.i.toNat 9).el }).p] 36, .mapF (Dk.int .i64) (out21o { n0 := s.n0, x0 := s.x0, z := 0, l := (s.n0 : Int), k := 0, ti := s.ti, n := s.n, y := s.y, m := s.m, p := s.p, c := s.c, mf := s.mf, t1 := (s.y8 s.i.toNat 0).n, a1 := (s.y8 s.i.toNat 1).n, p1 := (s.y8 s.i.toNat 2).n, v1 := (s.y8 s.i.toNat 3).s, m1 := (s.y8 s.i.toNat 4).s, b1 := (s.y8 s.i.toNat 5).n, c1 := (s.y8 s.i.toNat 6).n, s1 := (s.y8 s.i.toNat 7).n, n1 := (s.y8 s.i.toNat 8).len, x1 := (s.y8 s.i.toNat 8).el, l1 := (s.y8 s.i.toNat 9).len, y1 := (s.y8 s.i.toNat 9).el }).11 (MF.dat (.int .i64) (out21o { n0 := s.n0, x0 := s.x0, z := 0, l := (s.n0 : Int), k := 0, ti := s.ti, n := s.n, y := s.y, m := s.m, p := s.p, c := s.c, mf := s.mf, t1 := (s.y8 s.i.toNat 0).n, a1 := (s.y8 s.i.toNat 1).n, p1 := (s.y8 s.i.toNat 2).n, v1 := (s.y8 s.i.toNat 3).s, m1 := (s.y8 s.i.toNat 4).s, b1 := (s.y8 s.i.toNat 5).n, c1 := (s.y8 s.i.toNat 6).n, s1 := (s.y8 s.i.toNat 7).n, n1 := (s.y8 s.i.toNat 8).len, x1 := (s.y8 s.i.toNat 8).el, l1 := (s.y8 s.i.toNat 9).len, y1 := (s.y8 s.i.toNat 9).el }).mf)]) else bif ((out21o { n0 := s.n0, x0 := s.x0, z := 0, l := (s.n0 : Int), k := 0, ti := s.ti, n := s.n, y := s.y, m := s.m, p := s.p, c := s.c, mf := s.mf, t1 := (s.y8 s.i.toNat 0).n, a1 := (s.y8 s.i.toNat 1).n, p1 := (s.y8 s.i.toNat 2).n, v1 := (s.y8 s.i.toNat 3).s, m1 := (s.y8 s.i.toNat 4).s, b1 := (s.y8 s.i.toNat 5).n, c1 := (s.y8 s.i.toNat 6).n, s1 := (s.y8 s.i.toNat 7).n, n1 := (s.y8 s.i.toNat 8).len, x1 := (s.y8 s.i.toNat 8).el, l1 := (s.y8 s.i.toNat 9).len, y1 := (s.y8 s.i.toNat 9).el }).8 (((out21o { n0 := s.n0, x0 := s.x0, z := 0, l := (s.n0 : Int), k := 0, ti := s.ti, n := s.n, y := s.y, m := s.m, p := s.p, c := s.c, mf := s.mf, t1 := (s.y8 s.i.toNat 0).n, a1 := (s.y8 s.i.toNat 1).n, p1 := (s.y8 s.i.toNat 2).n, v1 := (s.y8 s.i.toNat 3).s, m1 := (s.y8 s.i.toNat 4).s, b1 := (s.y8 s.i.toNat 5).n, c1 := (s.y8 s.i.toNat 6).n, s1 := (s.y8 s.i.toNat 7).n, n1 := (s.y8 s.i.toNat 8).len, x1 := (s.y8 s.i.toNat 8).el, l1 := (s.y8 s.i.toNat 9).len, y1 := (s.y8 s.i.toNat 9).el }).mf (Ky.int ((out21o { n0 := s.n0, x0 := s.x0, z := 0, l := (s.n0 : Int), k := 0, ti := s.ti, n := s.n, y := s.y, m := s.m, p := s.p, c := s.c, mf := s.mf, t1 := (s.y8 s.i.toNat 0).n, a1 := (s.y8 s.i.toNat 1).n, p1 := (s.y8 s.i.toNat 2).n, v1 := (s.y8 s.i.toNat 3).s, m1 := (s.y8 s.i.toNat 4).s, b1 := (s.y8 s.i.toNat 5).n, c1 := (s.y8 s.i.toNat 6).n, s1 := (s.y8 s.i.toNat 7).n, n1 := (s.y8 s.i.toNat 8).len, x1 := (s.y8 s.i.toNat 8).el, l1 := (s.y8 s.i.toNat 9).len, y1 := (s.y8 s.i.toNat 9).el }).p s.i.toNat 0).n)).getD (Dt.int 0)).n.toNat 5).n == (out21o { n0 := s.n0, x0 := s.x0, z := 0, l := (s.n0 : Int), k := 0, ti := s.ti, n := s.n, y := s.y, m := s.m, p := s.p, c := s.c, mf := s.mf, t1 := (s.y8 s.i.toNat 0).n, a1 := (s.y8 s.i.toNat 1).n, p1 := (s.y8 s.i.toNat 2).n, v1 := (s.y8 s.i.toNat 3).s, m1 := (s.y8 s.i.toNat 4).s, b1 := (s.y8 s.i.toNat 5).n, c1 := (s.y8 s.i.toNat 6).n, s1 := (s.y8 s.i.toNat 7).n, n1 := (s.y8 s.i.toNat 8).len, x1 := (s.y8 s.i.toNat 8).el, l1 := (s.y8 s.i.toNat 9).len, y1 := (s.y8 s.i.toNat 9).el }).18 then bif decide (((out21o { n0 := s.n0, x0 := s.x0, z := 0, l := (s.n0 : Int), k := 0, ti := s.ti, n := s.n, y := s.y, m := s.m, p := s.p, c := s.c, mf := s.mf, t1 := (s.y8 s.i.toNat 0).n, a1 := (s.y8 s.i.toNat 1).n, p1 := (s.y8 s.i.toNat 2).n, v1 := (s.y8 s.i.toNat 3).s, m1 := (s.y8 s.i.toNat 4).s, b1 := (s.y8 s.i.toNat 5).n, c1 := (s.y8 s.i.toNat 6).n, s1 := (s.y8 s.i.toNat 7).n, n1 := (s.y8 s.i.toNat 8).len, x1 := (s.y8 s.i.toNat 8).el, l1 := (s.y8 s.i.toNat 9).len, y1 := (s.y8 s.i.toNat 9).el }).8 (((out21o { n0 := s.n0, x0 := s.x0, z := 0, l := (s.n0 : Int), k := 0, ti := s.ti, n := s.n, y := s.y, m := s.m, p := s.p, c := s.c, mf := s.mf, t1 := (s.y8 s.i.toNat 0).n, a1 := (s.y8 s.i.toNat 1).n, p1 := (s.y8 s.i.toNat 2).n, v1 := (s.y8 s.i.toNat 3).s, m1 := (s.y8 s.i.toNat 4).s, b1 := (s.y8 s.i.toNat 5).n, c1 := (s.y8 s.i.toNat 6).n, s1 := (s.y8 s.i.toNat 7).n, n1 := (s.y8 s.i.toNat 8).len, x1 := (s.y8 s.i.toNat 8).el, l1 := (s.y8 s.i.toNat 9).len, y1 := (s.y8 s.i.toNat 9).el }).mf (Ky.int ((out21o { n0 := s.n0, x0 := s.x0, z := 0, l := (s.n0 : Int), k := 0, ti := s.ti, n := s.n, y := s.y, m := s.m, p := s.p, c := s.c, mf := s.mf, t1 := (s.y8 s.i.toNat 0).n, a1 := (s.y8 s.i.toNat 1).n, p1 := (s.y8 s.i.toNat 2).n, v1 := (s.y8 s.i.toNat 3).s, m1 := (s.y8 s.i.toNat 4).s, b1 := (s.y8 s.i.toNat 5).n, c1 := (s.y8 s.i.toNat 6).n, s1 := (s.y8 s.i.toNat 7).n, n1 := (s.y8 s.i.toNat 8).len, x1 := (s.y8 s.i.toNat 8).el, l1 := (s.y8 s.i.toNat 9).len, y1 := (s.y8 s.i.toNat 9).el }).p s.i.toNat 0).n)).getD (Dt.int 0)).n.toNat 1).n ≥ (out21o { n0 := s.n0, x0 := s.x0, z := 0, l := (s.n0 : Int), k := 0, ti := s.ti, n := s.n, y := s.y, m := s.m, p := s.p, c := s.c, mf := s.mf, t1 := (s.y8 s.i.toNat 0).n, a1 := (s.y8 s.i.toNat 1).n, p1 := (s.y8 s.i.toNat 2).n, v1 := (s.y8 s.i.toNat 3).s, m1 := (s.y8 s.i.toNat 4).s, b1 := (s.y8 s.i.toNat 5).n, c1 := (s.y8 s.i.toNat 6).n, s1 := (s.y8 s.i.toNat 7).n, n1 := (s.y8 s.i.toNat 8).len, x1 := (s.y8 s.i.toNat 8).el, l1 := (s.y8 s.i.toNat 9).len, y1 := (s.y8 s.i.toNat 9).el }).14) then some (.ret, [.isz s.n0 SS s.x0, .bool false, .ptr 0 0, .map 1, .isz s.on [.int .i64] s.oq, .isz s.n8 SS s.y8, .int .i64 s.l, .int .i64 s.i], [.cells [.int .i64 (out21o { n0 := s.n0, x0 := s.x0, z := 0, l := (s.n0 : Int), k := 0, ti := s.ti, n := s.n, y := s.y, m := s.m, p := s.p, c := s.c, mf := s.mf, t1 := (s.y8 s.i.toNat 0).n, a1 := (s.y8 s.i.toNat 1).n, p1 := (s.y8 s.i.toNat 2).n, v1 := (s.y8 s.i.toNat 3).s, m1 := (s.y8 s.i.toNat 4).s, b1 := (s.y8 s.i.toNat 5).n, c1 := (s.y8 s.i.toNat 6).n, s1 := (s.y8 s.i.toNat 7).n, n1 := (s.y8 s.i.toNat 8).len, x1 := (s.y8 s.i.toNat 8).el, l1 := (s.y8 s.i.toNat 9).len, y1 := (s.y8 s.i.toNat 9).el }).6, .isz (out21o { n0 := s.n0, x0 := s.x0, z := 0, l := (s.n0 : Int), k := 0, ti := s.ti, n := s.n, y := s.y, m := s.m, p := s.p, c := s.c, mf := s.mf, t1 := (s.y8 s.i.toNat 0).n, a1 := (s.y8 s.i.toNat 1).n, p1 := (s.y8 s.i.toNat 2).n, v1 := (s.y8 s.i.toNat 3).s, m1 := (s.y8 s.i.toNat 4).s, b1 := (s.y8 s.i.toNat 5).n, c1 := (s.y8 s.i.toNat 6).n, s1 := (s.y8 s.i.toNat 7).n, n1 := (s.y8 s.i.toNat 8).len, x1 := (s.y8 s.i.toNat 8).el, l1 := (s.y8 s.i.toNat 9).len, y1 := (s.y8 s.i.toNat 9).el }).7 SS (out21o { n0 := s.n0, x0 := s.x0, z := 0, l := (s.n0 : Int), k := 0, ti := s.ti, n := s.n, y := s.y, m := s.m, p := s.p, c := s.c, mf := s.mf, t1 := (s.y8 s.i.toNat 0).n, a1 := (s.y8 s.i.toNat 1).n, p1 := (s.y8 s.i.toNat 2).n, v1 := (s.y8 s.i.toNat 3).s, m1 := (s.y8 s.i.toNat 4).s, b1 := (s.y8 s.i.toNat 5).n, c1 := (s.y8 s.i.toNat 6).n, s1 := (s.y8 s.i.toNat 7).n, n1 := (s.y8 s.i.toNat 8).len, x1 := (s.y8 s.i.toNat 8).el, l1 := (s.y8 s.i.toNat 9).len, y1 := (s.y8 s.i.toNat 9).el }).y, .isz (out21o { n0 := s.n0, x0 := s.x0, z := 0, l := (s.n0 : Int), k := 0, ti := s.ti, n := s.n, y := s.y, m := s.m, p := s.p, c := s.c, mf := s.mf, t1 := (s.y8 s.i.toNat 0).n, a1 := (s.y8 s.i.toNat 1).n, p1 := (s.y8 s.i.toNat 2).n, v1 := (s.y8 s.i.toNat 3).s, m1 := (s.y8 s.i.toNat 4).s, b1 := (s.y8 s.i.toNat 5).n, c1 := (s.y8 s.i.toNat 6).n, s1 := (s.y8 s.i.toNat 7).n, n1 := (s.y8 s.i.toNat 8).len, x1 := (s.y8 s.i.toNat 8).el, l1 := (s.y8 s.i.toNat 9).len, y1 := (s.y8 s.i.toNat 9).el }).9 [.int .i64] (out21o { n0 := s.n0, x0 := s.x0, z := 0, l := (s.n0 : Int), k := 0, ti := s.ti, n := s.n, y := s.y, m := s.m, p := s.p, c := s.c, mf := s.mf, t1 := (s.y8 s.i.toNat 0).n, a1 := (s.y8 s.i.toNat 1).n, p1 := (s.y8 s.i.toNat 2).n, v1 := (s.y8 s.i.toNat 3).s, m1 := (s.y8 s.i.toNat 4).s, b1 := (s.y8 s.i.toNat 5).n, c1 := (s.y8 s.i.toNat 6).n, s1 := (s.y8 s.i.toNat 7).n, n1 := (s.y8 s.i.toNat 8).len, x1 := (s.y8 s.i.toNat 8).el, l1 := (s.y8 s.i.toNat 9).len, y1 := (s.y8 s.i.toNat 9).el }).p] 36, .mapF (Dk.int .i64) (out21o { n0 := s.n0, x0 := s.x0, z := 0, l := (s.n0 : Int), k := 0, ti := s.ti, n := s.n, y := s.y, m := s.m, p := s.p, c := s.c, mf := s.mf, t1 := (s.y8 s.i.toNat 0).n, a1 := (s.y8 s.i.toNat 1).n, p1 := (s.y8 s.i.toNat 2).n, v1 := (s.y8 s.i.toNat 3).s, m1 := (s.y8 s.i.toNat 4).s, b1 := (s.y8 s.i.toNat 5).n, c1 := (s.y8 s.i.toNat 6).n, s1 := (s.y8 s.i.toNat 7).n, n1 := (s.y8 s.i.toNat 8).len, x1 := (s.y8 s.i.toNat 8).el, l1 := (s.y8 s.i.toNat 9).len, y1 := (s.y8 s.i.toNat 9).el }).11 (MF.dat (.int .i64) (out21o { n0 := s.n0, x0 := s.x0, z := 0, l := (s.n0 : Int), k := 0, ti := s.ti, n := s.n, y := s.y, m := s.m, p := s.p, c := s.c, mf := s.mf, t1 := (s.y8 s.i.toNat 0).n, a1 := (s.y8 s.i.toNat 1).n, p1 := (s.y8 s.i.toNat 2).n, v1 := (s.y8 s.i.toNat 3).s, m1 := (s.y8 s.i.toNat 4).s, b1 := (s.y8 s.i.toNat 5).n, c1 := (s.y8 s.i.toNat 6).n, s1 := (s.y8 s.i.toNat 7).n, n1 := (s.y8 s.i.toNat 8).len, x1 := (s.y8 s.i.toNat 8).el, l1 := (s.y8 s.i.toNat 9).len, y1 := (s.y8 s.i.toNat 9).el }).mf)]) else bif decide (0 ≤ IntKind.i64.wrap (ixI s.on s.oq ((out21o { n0 := s.n0, x0 := s.x0, z := 0, l := (s.n0 : Int), k := 0, ti := s.ti, n := s.n, y := s.y, m := s.m, p := s.p, c := s.c, mf := s.mf, t1 := (s.y8 s.i.toNat 0).n, a1 := (s.y8 s.i.toNat 1).n, p1 := (s.y8 s.i.toNat 2).n, v1 := (s.y8 s.i.toNat 3).s, m1 := (s.y8 s.i.toNat 4).s, b1 := (s.y8 s.i.toNat 5).n, c1 := (s.y8 s.i.toNat 6).n, s1 := (s.y8 s.i.toNat 7).n, n1 := (s.y8 s.i.toNat 8).len, x1 := (s.y8 s.i.toNat 8).el, l1 := (s.y8 s.i.toNat 9).len, y1 := (s.y8 s.i.toNat 9).el }).10 s.i.toNat 0).n + 1)) && (decide (IntKind.i64.wrap (ixI s.on s.oq ((out21o { n0 := s.n0, x0 := s.x0, z := 0, l := (s.n0 : Int), k := 0, ti := s.ti, n := s.n, y := s.y, m := s.m, p := s.p, c := s.c, mf := s.mf, t1 := (s.y8 s.i.toNat 0).n, a1 := (s.y8 s.i.toNat 1).n, p1 := (s.y8 s.i.toNat 2).n, v1 := (s.y8 s.i.toNat 3).s, m1 := (s.y8 s.i.toNat 4).s, b1 := (s.y8 s.i.toNat 5).n, c1 := (s.y8 s.i.toNat 6).n, s1 := (s.y8 s.i.toNat 7).n, n1 := (s.y8 s.i.toNat 8).len, x1 := (s.y8 s.i.toNat 8).el, l1 := (s.y8 s.i.toNat 9).len, y1 := (s.y8 s.i.toNat 9).el }).10 s.i.toNat 0).n + 1) ≤ (s.on : Int)) && decide (IntKind.i64.wrap (ixI s.on s.oq ((out21o { n0 := s.n0, x0 := s.x0, z := 0, l := (s.n0 : Int), k := 0, ti := s.ti, n := s.n, y := s.y, m := s.m, p := s.p, c := s.c, mf := s.mf, t1 := (s.y8 s.i.toNat 0).n, a1 := (s.y8 s.i.toNat 1).n, p1 := (s.y8 s.i.toNat 2).n, v1 := (s.y8 s.i.toNat 3).s, m1 := (s.y8 s.i.toNat 4).s, b1 := (s.y8 s.i.toNat 5).n, c1 := (s.y8 s.i.toNat 6).n, s1 := (s.y8 s.i.toNat 7).n, n1 := (s.y8 s.i.toNat 8).len, x1 := (s.y8 s.i.toNat 8).el, l1 := (s.y8 s.i.toNat 9).len, y1 := (s.y8 s.i.toNat 9).el }).10 s.i.toNat 0).n + 1) = IntKind.i64.wrap (ixI s.on s.oq ((out21o { n0 := s.n0, x0 := s.x0, z := 0, l := (s.n0 : Int), k := 0, ti := s.ti, n := s.n, y := s.y, m := s.m, p := s.p, c := s.c, mf := s.mf, t1 := (s.y8 s.i.toNat 0).n, a1 := (s.y8 s.i.toNat 1).n, p1 := (s.y8 s.i.toNat 2).n, v1 := (s.y8 s.i.toNat 3).s, m1 := (s.y8 s.i.toNat 4).s, b1 := (s.y8 s.i.toNat 5).n, c1 := (s.y8 s.i.toNat 6).n, s1 := (s.y8 s.i.toNat 7).n, n1 := (s.y8 s.i.toNat 8).len, x1 := (s.y8 s.i.toNat 8).el, l1 := (s.y8 s.i.toNat 9).len, y1 := (s.y8 s.i.toNat 9).el }).10 s.i.toNat 0).n + 1))) then bif (IntKind.i64.wrap (ixI s.on s.oq ((out21o { n0 := s.n0, x0 := s.x0, z := 0, l := (s.n0 : Int), k := 0, ti := s.ti, n := s.n, y := s.y, m := s.m, p := s.p, c := s.c, mf := s.mf, t1 := (s.y8 s.i.toNat 0).n, a1 := (s.y8 s.i.toNat 1).n, p1 := (s.y8 s.i.toNat 2).n, v1 := (s.y8 s.i.toNat 3).s, m1 := (s.y8 s.i.toNat 4).s, b1 := (s.y8 s.i.toNat 5).n, c1 := (s.y8 s.i.toNat 6).n, s1 := (s.y8 s.i.toNat 7).n, n1 := (s.y8 s.i.toNat 8).len, x1 := (s.y8 s.i.toNat 8).el, l1 := (s.y8 s.i.toNat 9).len, y1 := (s.y8 s.i.toNat 9).el }).10 s.i.toNat 0).n + 1)).toNat.ble 1000000 && true then bif ((IntKind.i64.wrap (ixI s.on s.oq ((out21o { n0 := s.n0, x0 := s.x0, z := 0, l := (s.n0 : Int), k := 0, ti := s.ti, n := s.n, y := s.y, m := s.m, p := s.p, c := s.c, mf := s.mf, t1 := (s.y8 s.i.toNat 0).n, a1 := (s.y8 s.i.toNat 1).n, p1 := (s.y8 s.i.toNat 2).n, v1 := (s.y8 s.i.toNat 3).s, m1 := (s.y8 s.i.toNat 4).s, b1 := (s.y8 s.i.toNat 5).n, c1 := (s.y8 s.i.toNat 6).n, s1 := (s.y8 s.i.toNat 7).n, n1 := (s.y8 s.i.toNat 8).len, x1 := (s.y8 s.i.toNat 8).el, l1 := (s.y8 s.i.toNat 9).len, y1 := (s.y8 s.i.toNat 9).el }).10 s.i.toNat 0).n + 1)).toNat + 1).beq ((IntKind.i64.wrap (ixI s.on s.oq ((out21o { n0 := s.n0, x0 := s.x0, z := 0, l := (s.n0 : Int), k := 0, ti := s.ti, n := s.n, y := s.y, m := s.m, p := s.p, c := s.c, mf := s.mf, t1 := (s.y8 s.i.toNat 0).n, a1 := (s.y8 s.i.toNat 1).n, p1 := (s.y8 s.i.toNat 2).n, v1 := (s.y8 s.i.toNat 3).s, m1 := (s.y8 s.i.toNat 4).s, b1 := (s.y8 s.i.toNat 5).n, c1 := (s.y8 s.i.toNat 6).n, s1 := (s.y8 s.i.toNat 7).n, n1 := (s.y8 s.i.toNat 8).len, x1 := (s.y8 s.i.toNat 8).el, l1 := (s.y8 s.i.toNat 9).len, y1 := (s.y8 s.i.toNat 9).el }).10 s.i.toNat 0).n + 1)).toNat + 1) && true then some (.normal, [.isz s.n0 SS s.x0, .bool s.z, .ptr 0 0, .map 1, .isz ((IntKind.i64.wrap (ixI s.on s.oq ((out21o { n0 := s.n0, x0 := s.x0, z := 0, l := (s.n0 : Int), k := 0, ti := s.ti, n := s.n, y := s.y, m := s.m, p := s.p, c := s.c, mf := s.mf, t1 := (s.y8 s.i.toNat 0).n, a1 := (s.y8 s.i.toNat 1).n, p1 := (s.y8 s.i.toNat 2).n, v1 := (s.y8 s.i.toNat 3).s, m1 := (s.y8 s.i.toNat 4).s, b1 := (s.y8 s.i.toNat 5).n, c1 := (s.y8 s.i.toNat 6).n, s1 := (s.y8 s.i.toNat 7).n, n1 := (s.y8 s.i.toNat 8).len, x1 := (s.y8 s.i.toNat 8).el, l1 := (s.y8 s.i.toNat 9).len, y1 := (s.y8 s.i.toNat 9).el }).10 s.i.toNat 0).n + 1)).toNat + 1) [.int .i64] (appEl s.oq (IntKind.i64.wrap (ixI s.on s.oq ((out21o { n0 := s.n0, x0 := s.x0, z := 0, l := (s.n0 : Int), k := 0, ti := s.ti, n := s.n, y := s.y, m := s.m, p := s.p, c := s.c, mf := s.mf, t1 := (s.y8 s.i.toNat 0).n, a1 := (s.y8 s.i.toNat 1).n, p1 := (s.y8 s.i.toNat 2).n, v1 := (s.y8 s.i.toNat 3).s, m1 := (s.y8 s.i.toNat 4).s, b1 := (s.y8 s.i.toNat 5).n, c1 := (s.y8 s.i.toNat 6).n, s1 := (s.y8 s.i.toNat 7).n, n1 := (s.y8 s.i.toNat 8).len, x1 := (s.y8 s.i.toNat 8).el, l1 := (s.y8 s.i.toNat 9).len, y1 := (s.y8 s.i.toNat 9).el }).p s.i.toNat 0).n + 1)).toNat (dtFs [[Dt.int s.i]])), .isz s.n8 SS s.y8, .int .i64 s.l, .int .i64 (IntKind.i64.wrap (s.i + 1))], [.cells [.int .i64 (out21o { n0 := s.n0, x0 := s.x0, z := 0, l := (s.n0 : Int), k := 0, ti := s.ti, n := s.n, y := s.y, m := s.m, p := s.p, c := s.c, mf := s.mf, t1 := (s.y8 s.i.toNat 0).n, a1 := (s.y8 s.i.toNat 1).n, p1 := (s.y8 s.i.toNat 2).n, v1 := (s.y8 s.i.toNat 3).s, m1 := (s.y8 s.i.toNat 4).s, b1 := (s.y8 s.i.toNat 5).n, c1 := (s.y8 s.i.toNat 6).n, s1 := (s.y8 s.i.toNat 7).n, n1 := (s.y8 s.i.toNat 8).len, x1 := (s.y8 s.i.toNat 8).el, l1 := (s.y8 s.i.toNat 9).len, y1 := (s.y8 s.i.toNat 9).el }).6, .isz (out21o { n0 := s.n0, x0 := s.x0, z := 0, l := (s.n0 : Int), k := 0, ti := s.ti, n := s.n, y := s.y, m := s.m, p := s.p, c := s.c, mf := s.mf, t1 := (s.y8 s.i.toNat 0).n, a1 := (s.y8 s.i.toNat 1).n, p1 := (s.y8 s.i.toNat 2).n, v1 := (s.y8 s.i.toNat 3).s, m1 := (s.y8 s.i.toNat 4).s, b1 := (s.y8 s.i.toNat 5).n, c1 := (s.y8 s.i.toNat 6).n, s1 := (s.y8 s.i.toNat 7).n, n1 := (s.y8 s.i.toNat 8).len, x1 := (s.y8 s.i.toNat 8).el, l1 := (s.y8 s.i.toNat 9).len, y1 := (s.y8 s.i.toNat 9).el }).7 SS (out21o { n0 := s.n0, x0 := s.x0, z := 0, l := (s.n0 : Int), k := 0, ti := s.ti, n := s.n, y := s.y, m := s.m, p := s.p, c := s.c, mf := s.mf, t1 := (s.y8 s.i.toNat 0).n, a1 := (s.y8 s.i.toNat 1).n, p1 := (s.y8 s.i.toNat 2).n, v1 := (s.y8 s.i.toNat 3).s, m1 := (s.y8 s.i.toNat 4).s, b1 := (s.y8 s.i.toNat 5).n, c1 := (s.y8 s.i.toNat 6).n, s1 := (s.y8 s.i.toNat 7).n, n1 := (s.y8 s.i.toNat 8).len, x1 := (s.y8 s.i.toNat 8).el, l1 := (s.y8 s.i.toNat 9).len, y1 := (s.y8 s.i.toNat 9).el }).y, .isz (out21o { n0 := s.n0, x0 := s.x0, z := 0, l := (s.n0 : Int), k := 0, ti := s.ti, n := s.n, y := s.y, m := s.m, p := s.p, c := s.c, mf := s.mf, t1 := (s.y8 s.i.toNat 0).n, a1 := (s.y8 s.i.toNat 1).n, p1 := (s.y8 s.i.toNat 2).n, v1 := (s.y8 s.i.toNat 3).s, m1 := (s.y8 s.i.toNat 4).s, b1 := (s.y8 s.i.toNat 5).n, c1 := (s.y8 s.i.toNat 6).n, s1 := (s.y8 s.i.toNat 7).n, n1 := (s.y8 s.i.toNat 8).len, x1 := (s.y8 s.i.toNat 8).el, l1 := (s.y8 s.i.toNat 9).len, y1 := (s.y8 s.i.toNat 9).el }).9 [.int .i64] (out21o { n0 := s.n0, x0 := s.x0, z := 0, l := (s.n0 : Int), k := 0, ti := s.ti, n := s.n, y := s.y, m := s.m, p := s.p, c := s.c, mf := s.mf, t1 := (s.y8 s.i.toNat 0).n, a1 := (s.y8 s.i.toNat 1).n, p1 := (s.y8 s.i.toNat 2).n, v1 := (s.y8 s.i.toNat 3).s, m1 := (s.y8 s.i.toNat 4).s, b1 := (s.y8 s.i.toNat 5).n, c1 := (s.y8 s.i.toNat 6).n, s1 := (s.y8 s.i.toNat 7).n, n1 := (s.y8 s.i.toNat 8).len, x1 := (s.y8 s.i.toNat 8).el, l1 := (s.y8 s.i.toNat 9).len, y1 := (s.y8 s.i.toNat 9).el }).p] 36, .mapF (Dk.int .i64) (bif Option.isSome ((out21o { n0 := s.n0, x0 := s.x0, z := 0, l := (s.n0 : Int), k := 0, ti := s.ti, n := s.n, y := s.y, m := s.m, p := s.p, c := s.c, mf := s.mf, t1 := (s.y8 s.i.toNat 0).n, a1 := (s.y8 s.i.toNat 1).n, p1 := (s.y8 s.i.toNat 2).n, v1 := (s.y8 s.i.toNat 3).s, m1 := (s.y8 s.i.toNat 4).s, b1 := (s.y8 s.i.toNat 5).n, c1 := (s.y8 s.i.toNat 6).n, s1 := (s.y8 s.i.toNat 7).n, n1 := (s.y8 s.i.toNat 8).len, x1 := (s.y8 s.i.toNat 8).el, l1 := (s.y8 s.i.toNat 9).len, y1 := (s.y8 s.i.toNat 9).el }).mf (Ky.int ((out21o { n0 := s.n0, x0 := s.x0, z := 0, l := (s.n0 : Int), k := 0, ti := s.ti, n := s.n, y := s.y, m := s.m, p := s.p, c := s.c, mf := s.mf, t1 := (s.y8 s.i.toNat 0).n, a1 := (s.y8 s.i.toNat 1).n, p1 := (s.y8 s.i.toNat 2).n, v1 := (s.y8 s.i.toNat 3).s, m1 := (s.y8 s.i.toNat 4).s, b1 := (s.y8 s.i.toNat 5).n, c1 := (s.y8 s.i.toNat 6).n, s1 := (s.y8 s.i.toNat 7).n, n1 := (s.y8 s.i.toNat 8).len, x1 := (s.y8 s.i.toNat 8).el, l1 := (s.y8 s.i.toNat 9).len, y1 := (s.y8 s.i.toNat 9).el }).p s.i.toNat 0).n)) then (out21o { n0 := s.n0, x0 := s.x0, z := 0, l := (s.n0 : Int), k := 0, ti := s.ti, n := s.n, y := s.y, m := s.m, p := s.p, c := s.c, mf := s.mf, t1 := (s.y8 s.i.toNat 0).n, a1 := (s.y8 s.i.toNat 1).n, p1 := (s.y8 s.i.toNat 2).n, v1 := (s.y8 s.i.toNat 3).s, m1 := (s.y8 s.i.toNat 4).s, b1 := (s.y8 s.i.toNat 5).n, c1 := (s.y8 s.i.toNat 6).n, s1 := (s.y8 s.i.toNat 7).n, n1 := (s.y8 s.i.toNat 8).len, x1 := (s.y8 s.i.toNat 8).el, l1 := (s.y8 s.i.toNat 9).len, y1 := (s.y8 s.i.toNat 9).el }).11 else (out21o { n0 := s.n0, x0 := s.x0, z := 0, l := (s.n0 : Int), k := 0, ti := s.ti, n := s.n, y := s.y, m := s.m, p := s.p, c := s.c, mf := s.mf, t1 := (s.y8 s.i.toNat 0).n, a1 := (s.y8 s.i.toNat 1).n, p1 := (s.y8 s.i.toNat 2).n, v1 := (s.y8 s.i.toNat 3).s, m1 := (s.y8 s.i.toNat 4).s, b1 := (s.y8 s.i.toNat 5).n, c1 := (s.y8 s.i.toNat 6).n, s1 := (s.y8 s.i.toNat 7).n, n1 := (s.y8 s.i.toNat 8).len, x1 := (s.y8 s.i.toNat 8).el, l1 := (s.y8 s.i.toNat 9).len, y1 := (s.y8 s.i.toNat 9).el }).11 + 1) (MF.dat (.int .i64) (putK (out21o { n0 := s.n0, x0 := s.x0, z := 0, l := (s.n0 : Int), k := 0, ti := s.ti, n := s.n, y := s.y, m := s.m, p := s.p, c := s.c, mf := s.mf, t1 := (s.y8 s.i.toNat 0).n, a1 := (s.y8 s.i.toNat 1).n, p1 := (s.y8 s.i.toNat 2).n, v1 := (s.y8 s.i.toNat 3).s, m1 := (s.y8 s.i.toNat 4).s, b1 := (s.y8 s.i.toNat 5).n, c1 := (s.y8 s.i.toNat 6).n, s1 := (s.y8 s.i.toNat 7).n, n1 := (s.y8 s.i.toNat 8).len, x1 := (s.y8 s.i.toNat 8).el, l1 := (s.y8 s.i.toNat 9).len, y1 := (s.y8 s.i.toNat 9).el }).mf (Ky.int ((out21o { n0 := s.n0, x0 := s.x0, z := 0, l := (s.n0 : Int), k := 0, ti := s.ti, n := s.n, y := s.y, m := s.m, p := s.p, c := s.c, mf := s.mf, t1 := (s.y8 s.i.toNat 0).n, a1 := (s.y8 s.i.toNat 1).n, p1 := (s.y8 s.i.toNat 2).n, v1 := (s.y8 s.i.toNat 3).s, m1 := (s.y8 s.i.toNat 4).s, b1 := (s.y8 s.i.toNat 5).n, c1 := (s.y8 s.i.toNat 6).n, s1 := (s.y8 s.i.toNat 7).n, n1 := (s.y8 s.i.toNat 8).len, x1 := (s.y8 s.i.toNat 8).el, l1 := (s.y8 s.i.toNat 9).len, y1 := (s.y8 s.i.toNat 9).el }).p s.i.toNat 0).n) (some (Dt.int s.i))))]) else none else none else none else bif decide (0 ≤ IntKind.i64.wrap (ixI s.on s.oq ((out21o { n0 := s.n0, x0 := s.x0, z := 0, l := (s.n0 : Int), k := 0, ti := s.ti, n := s.n, y := s.y, m := s.m, p := s.p, c := s.c, mf := s.mf, t1 := (s.y8 s.i.toNat 0).n, a1 := (s.y8 s.i.toNat 1).n, p1 := (s.y8 s.i.toNat 2).n, v1 := (s.y8 s.i.toNat 3).s, m1 := (s.y8 s.i.toNat 4).s, b1 := (s.y8 s.i.toNat 5).n, c1 := (s.y8 s.i.toNat 6).n, s1 := (s.y8 s.i.toNat 7).n, n1 := (s.y8 s.i.toNat 8).len, x1 := (s.y8 s.i.toNat 8).el, l1 := (s.y8 s.i.toNat 9).len, y1 := (s.y8 s.i.toNat 9).el }).10 s.i.toNat 0).n + 1)) && (decide (IntKind.i64.wrap (ixI s.on s.oq ((out21o { n0 := s.n0, x0 := s.x0, z := 0, l := (s.n0 : Int), k := 0, ti := s.ti, n := s.n, y := s.y, m := s.m, p := s.p, c := s.c, mf := s.mf, t1 := (s.y8 s.i.toNat 0).n, a1 := (s.y8 s.i.toNat 1).n, p1 := (s.y8 s.i.toNat 2).n, v1 := (s.y8 s.i.toNat 3).s, m1 := (s.y8 s.i.toNat 4).s, b1 := (s.y8 s.i.toNat 5).n, c1 := (s.y8 s.i.toNat 6).n, s1 := (s.y8 s.i.toNat 7).n, n1 := (s.y8 s.i.toNat 8).len, x1 := (s.y8 s.i.toNat 8).el, l1 := (s.y8 s.i.toNat 9).len, y1 := (s.y8 s.i.toNat 9).el }).10 s.i.toNat 0).n + 1) ≤ (s.on : Int)) && decide (IntKind.i64.wrap (ixI s.on s.oq ((out21o { n0 := s.n0, x0 := s.x0, z := 0, l := (s.n0 : Int), k := 0, ti := s.ti, n := s.n, y := s.y, m := s.m, p := s.p, c := s.c, mf := s.mf, t1 := (s.y8 s.i.toNat 0).n, a1 := (s.y8 s.i.toNat 1).n, p1 := (s.y8 s.i.toNat 2).n, v1 := (s.y8 s.i.toNat 3).s, m1 := (s.y8 s.i.toNat 4).s, b1 := (s.y8 s.i.toNat 5).n, c1 := (s.y8 s.i.toNat 6).n, s1 := (s.y8 s.i.toNat 7).n, n1 := (s.y8 s.i.toNat 8).len, x1 := (s.y8 s.i.toNat 8).el, l1 := (s.y8 s.i.toNat 9).len, y1 := (s.y8 s.i.toNat 9).el }).10 s.i.toNat 0).n + 1) = IntKind.i64.wrap (ixI s.on s.oq ((out21o { n0 := s.n0, x0 := s.x0, z := 0, l := (s.n0 : Int), k := 0, ti := s.ti, n := s.n, y := s.y, m := s.m, p := s.p, c := s.c, mf := s.mf, t1 := (s.y8 s.i.toNat 0).n, a1 := (s.y8 s.i.toNat 1).n, p1 := (s.y8 s.i.toNat 2).n, v1 := (s.y8 s.i.toNat 3).s, m1 := (s.y8 s.i.toNat 4).s, b1 := (s.y8 s.i.toNat 5).n, c1 := (s.y8 s.i.toNat 6).n, s1 := (s.y8 s.i.toNat 7).n, n1 := (s.y8 s.i.toNat 8).len, x1 := (s.y8 s.i.toNat 8).el, l1 := (s.y8 s.i.toNat 9).len, y1 := (s.y8 s.i.toNat 9).el }).10 s.i.toNat 0).n + 1))) then bif (IntKind.i64.wrap (ixI s.on s.oq ((out21o { n0 := s.n0, x0 := s.x0, z := 0, l := (s.n0 : Int), k := 0, ti := s.ti, n := s.n, y := s.y, m := s.m, p := s.p, c := s.c, mf := s.mf, t1 := (s.y8 s.i.toNat 0).n, a1 := (s.y8 s.i.toNat 1).n, p1 := (s.y8 s.i.toNat 2).n, v1 := (s.y8 s.i.toNat 3).s, m1 := (s.y8 s.i.toNat 4).s, b1 := (s.y8 s.i.toNat 5).n, c1 := (s.y8 s.i.toNat 6).n, s1 := (s.y8 s.i.toNat 7).n, n1 := (s.y8 s.i.toNat 8).len, x1 := (s.y8 s.i.toNat 8).el, l1 := (s.y8 s.i.toNat 9).len, y1 := (s.y8 s.i.toNat 9).el }).10 s.i.toNat 0).n + 1)).toNat.ble 1000000 && true then bif ((IntKind.i64.wrap (ixI s.on s.oq ((out21o { n0 := s.n0, x0 := s.x0, z := 0, l := (s.n0 : Int), k := 0, ti := s.ti, n := s.n, y := s.y, m := s.m, p := s.p, c := s.c, mf := s.mf, t1 := (s.y8 s.i.toNat 0).n, a1 := (s.y8 s.i.toNat 1).n, p1 := (s.y8 s.i.toNat 2).n, v1 := (s.y8 s.i.toNat 3).s, m1 := (s.y8 s.i.toNat 4).s, b1 := (s.y8 s.i.toNat 5).n, c1 := (s.y8 s.i.toNat 6).n, s1 := (s.y8 s.i.toNat 7).n, n1 := (s.y8 s.i.toNat 8).len, x1 := (s.y8 s.i.toNat 8).el, l1 := (s.y8 s.i.toNat 9).len, y1 := (s.y8 s.i.toNat 9).el }).10 s.i.toNat 0).n + 1)).toNat + 1).beq ((IntKind.i64.wrap (ixI s.on s.oq ((out21o { n0 := s.n0, x0 := s.x0, z := 0, l := (s.n0 : Int), k := 0, ti := s.ti, n := s.n, y := s.y, m := s.m, p := s.p, c := s.c, mf := s.mf, t1 := (s.y8 s.i.toNat 0).n, a1 := (s.y8 s.i.toNat 1).n, p1 := (s.y8 s.i.toNat 2).n, v1 := (s.y8 s.i.toNat 3).s, m1 := (s.y8 s.i.toNat 4).s, b1 := (s.y8 s.i.toNat 5).n, c1 := (s.y8 s.i.toNat 6).n, s1 := (s.y8 s.i.toNat 7).n, n1 := (s.y8 s.i.toNat 8).len, x1 := (s.y8 s.i.toNat 8).el, l1 := (s.y8 s.i.toNat 9).len, y1 := (s.y8 s.i.toNat 9).el }).10 s.i.toNat 0).n + 1)).toNat + 1) && true then some (.normal, [.isz s.n0 SS s.x0, .bool s.z, .ptr 0 0, .map 1, .isz ((IntKind.i64.wrap (ixI s.on s.oq ((out21o { n0 := s.n0, x0 := s.x0, z := 0, l := (s.n0 : Int), k := 0, ti := s.ti, n := s.n, y := s.y, m := s.m, p := s.p, c := s.c, mf := s.mf, t1 := (s.y8 s.i.toNat 0).n, a1 := (s.y8 s.i.toNat 1).n, p1 := (s.y8 s.i.toNat 2).n, v1 := (s.y8 s.i.toNat 3).s, m1 := (s.y8 s.i.toNat 4).s, b1 := (s.y8 s.i.toNat 5).n, c1 := (s.y8 s.i.toNat 6).n, s1 := (s.y8 s.i.toNat 7).n, n1 := (s.y8 s.i.toNat 8).len, x1 := (s.y8 s.i.toNat 8).el, l1 := (s.y8 s.i.toNat 9).len, y1 := (s.y8 s.i.toNat 9).el }).10 s.i.toNat 0).n + 1)).toNat + 1) [.int .i64] (appEl s.oq (IntKind.i64.wrap (ixI s.on s.oq ((out21o { n0 := s.n0, x0 := s.x0, z := 0, l := (s.n0 : Int), k := 0, ti := s.ti, n := s.n, y := s.y, m := s.m, p := s.p, c := s.c, mf := s.mf, t1 := (s.y8 s.i.toNat 0).n, a1 := (s.y8 s.i.toNat 1).n, p1 := (s.y8 s.i.toNat 2).n, v1 := (s.y8 s.i.toNat 3).s, m1 := (s.y8 s.i.toNat 4).s, b1 := (s.y8 s.i.toNat 5).n, c1 := (s.y8 s.i.toNat 6).n, s1 := (s.y8 s.i.toNat 7).n, n1 := (s.y8 s.i.toNat 8).len, x1 := (s.y8 s.i.toNat 8).el, l1 := (s.y8 s.i.toNat 9).len, y1 := (s.y8 s.i.toNat 9).el }).p s.i.toNat 0).n + 1)).toNat (dtFs [[Dt.int s.i]])), .isz s.n8 SS s.y8, .int .i64 s.l, .int .i64 (IntKind.i64.wrap (s.i + 1))], [.cells [.int .i64 (out21o { n0 := s.n0, x0 := s.x0, z := 0, l := (s.n0 : Int), k := 0, ti := s.ti, n := s.n, y := s.y, m := s.m, p := s.p, c := s.c, mf := s.mf, t1 := (s.y8 s.i.toNat 0).n, a1 := (s.y8 s.i.toNat 1).n, p1 := (s.y8 s.i.toNat 2).n, v1 := (s.y8 s.i.toNat 3).s, m1 := (s.y8 s.i.toNat 4).s, b1 := (s.y8 s.i.toNat 5).n, c1 := (s.y8 s.i.toNat 6).n, s1 := (s.y8 s.i.toNat 7).n, n1 := (s.y8 s.i.toNat 8).len, x1 := (s.y8 s.i.toNat 8).el, l1 := (s.y8 s.i.toNat 9).len, y1 := (s.y8 s.i.toNat 9).el }).6, .isz (out21o { n0 := s.n0, x0 := s.x0, z := 0, l := (s.n0 : Int), k := 0, ti := s.ti, n := s.n, y := s.y, m := s.m, p := s.p, c := s.c, mf := s.mf, t1 := (s.y8 s.i.toNat 0).n, a1 := (s.y8 s.i.toNat 1).n, p1 := (s.y8 s.i.toNat 2).n, v1 := (s.y8 s.i.toNat 3).s, m1 := (s.y8 s.i.toNat 4).s, b1 := (s.y8 s.i.toNat 5).n, c1 := (s.y8 s.i.toNat 6).n, s1 := (s.y8 s.i.toNat 7).n, n1 := (s.y8 s.i.toNat 8).len, x1 := (s.y8 s.i.toNat 8).el, l1 := (s.y8 s.i.toNat 9).len, y1 := (s.y8 s.i.toNat 9).el }).7 SS (out21o { n0 := s.n0, x0 := s.x0, z := 0, l := (s.n0 : Int), k := 0, ti := s.ti, n := s.n, y := s.y, m := s.m, p := s.p, c := s.c, mf := s.mf, t1 := (s.y8 s.i.toNat 0).n, a1 := (s.y8 s.i.toNat 1).n, p1 := (s.y8 s.i.toNat 2).n, v1 := (s.y8 s.i.toNat 3).s, m1 := (s.y8 s.i.toNat 4).s, b1 := (s.y8 s.i.toNat 5).n, c1 := (s.y8 s.i.toNat 6).n, s1 := (s.y8 s.i.toNat 7).n, n1 := (s.y8 s.i.toNat 8).len, x1 := (s.y8 s.i.toNat 8).el, l1 := (s.y8 s.i.toNat 9).len, y1 := (s.y8 s.i.toNat 9).el }).y, .isz (out21o { n0 := s.n0, x0 := s.x0, z := 0, l := (s.n0 : Int), k := 0, ti := s.ti, n := s.n, y := s.y, m := s.m, p := s.p, c := s.c, mf := s.mf, t1 := (s.y8 s.i.toNat 0).n, a1 := (s.y8 s.i.toNat 1).n, p1 := (s.y8 s.i.toNat 2).n, v1 := (s.y8 s.i.toNat 3).s, m1 := (s.y8 s.i.toNat 4).s, b1 := (s.y8 s.i.toNat 5).n, c1 := (s.y8 s.i.toNat 6).n, s1 := (s.y8 s.i.toNat 7).n, n1 := (s.y8 s.i.toNat 8).len, x1 := (s.y8 s.i.toNat 8).el, l1 := (s.y8 s.i.toNat 9).len, y1 := (s.y8 s.i.toNat 9).el }).9 [.int .i64] (out21o { n0 := s.n0, x0 := s.x0, z := 0, l := (s.n0 : Int), k := 0, ti := s.ti, n := s.n, y := s.y, m := s.m, p := s.p, c := s.c, mf := s.mf, t1 := (s.y8 s.i.toNat 0).n, a1 := (s.y8 s.i.toNat 1).n, p1 := (s.y8 s.i.toNat 2).n, v1 := (s.y8 s.i.toNat 3).s, m1 := (s.y8 s.i.toNat 4).s, b1 := (s.y8 s.i.toNat 5).n, c1 := (s.y8 s.i.toNat 6).n, s1 := (s.y8 s.i.toNat 7).n, n1 := (s.y8 s.i.toNat 8).len, x1 := (s.y8 s.i.toNat 8).el, l1 := (s.y8 s.i.toNat 9).len, y1 := (s.y8 s.i.toNat 9).el }).p] 36, .mapF (Dk.int .i64) (bif Option.isSome ((out21o { n0 := s.n0, x0 := s.x0, z := 0, l := (s.n0 : Int), k := 0, ti := s.ti, n := s.n, y := s.y, m := s.m, p := s.p, c := s.c, mf := s.mf, t1 := (s.y8 s.i.toNat 0).n, a1 := (s.y8 s.i.toNat 1).n, p1 := (s.y8 s.i.toNat 2).n, v1 := (s.y8 s.i.toNat 3).s, m1 := (s.y8 s.i.toNat 4).s, b1 := (s.y8 s.i.toNat 5).n, c1 := (s.y8 s.i.toNat 6).n, s1 := (s.y8 s.i.toNat 7).n, n1 := (s.y8 s.i.toNat 8).len, x1 := (s.y8 s.i.toNat 8).el, l1 := (s.y8 s.i.toNat 9).len, y1 := (s.y8 s.i.toNat 9).el }).mf (Ky.int ((out21o { n0 := s.n0, x0 := s.x0, z := 0, l := (s.n0 : Int), k := 0, ti := s.ti, n := s.n, y := s.y, m := s.m, p := s.p, c := s.c, mf := s.mf, t1 := (s.y8 s.i.toNat 0).n, a1 := (s.y8 s.i.toNat 1).n, p1 := (s.y8 s.i.toNat 2).n, v1 := (s.y8 s.i.toNat 3).s, m1 := (s.y8 s.i.toNat 4).s, b1 := (s.y8 s.i.toNat 5).n, c1 := (s.y8 s.i.toNat 6).n, s1 := (s.y8 s.i.toNat 7).n, n1 := (s.y8 s.i.toNat 8).len, x1 := (s.y8 s.i.toNat 8).el, l1 := (s.y8 s.i.toNat 9).len, y1 := (s.y8 s.i.toNat 9).el }).p s.i.toNat 0).n)) then (out21o { n0 := s.n0, x0 := s.x0, z := 0, l := (s.n0 : Int), k := 0, ti := s.ti, n := s.n, y := s.y, m := s.m, p := s.p, c := s.c, mf := s.mf, t1 := (s.y8 s.i.toNat 0).n, a1 := (s.y8 s.i.toNat 1).n, p1 := (s.y8 s.i.toNat 2).n, v1 := (s.y8 s.i.toNat 3).s, m1 := (s.y8 s.i.toNat 4).s, b1 := (s.y8 s.i.toNat 5).n, c1 := (s.y8 s.i.toNat 6).n, s1 := (s.y8 s.i.toNat 7).n, n1 := (s.y8 s.i.toNat 8).len, x1 := (s.y8 s.i.toNat 8).el, l1 := (s.y8 s.i.toNat 9).len, y1 := (s.y8 s.i.toNat 9).el }).11 else (out21o { n0 := s.n0, x0 := s.x0, z := 0, l := (s.n0 : Int), k := 0, ti := s.ti, n := s.n, y := s.y, m := s.m, p := s.p, c := s.c, mf := s.mf, t1 := (s.y8 s.i.toNat 0).n, a1 := (s.y8 s.i.toNat 1).n, p1 := (s.y8 s.i.toNat 2).n, v1 := (s.y8 s.i.toNat 3).s, m1 := (s.y8 s.i.toNat 4).s, b1 := (s.y8 s.i.toNat 5).n, c1 := (s.y8 s.i.toNat 6).n, s1 := (s.y8 s.i.toNat 7).n, n1 := (s.y8 s.i.toNat 8).len, x1 := (s.y8 s.i.toNat 8).el, l1 := (s.y8 s.i.toNat 9).len, y1 := (s.y8 s.i.toNat 9).el }).11 + 1) (MF.dat (.int .i64) (putK (out21o { n0 := s.n0, x0 := s.x0, z := 0, l := (s.n0 : Int), k := 0, ti := s.ti, n := s.n, y := s.y, m := s.m, p := s.p, c := s.c, mf := s.mf, t1 := (s.y8 s.i.toNat 0).n, a1 := (s.y8 s.i.toNat 1).n, p1 := (s.y8 s.i.toNat 2).n, v1 := (s.y8 s.i.toNat 3).s, m1 := (s.y8 s.i.toNat 4).s, b1 := (s.y8 s.i.toNat 5).n, c1 := (s.y8 s.i.toNat 6).n, s1 := (s.y8 s.i.toNat 7).n, n1 := (s.y8 s.i.toNat 8).len, x1 := (s.y8 s.i.toNat 8).el, l1 := (s.y8 s.i.toNat 9).len, y1 := (s.y8 s.i.toNat 9).el }).mf (Ky.int ((out21o { n0 := s.n0, x0 := s.x0, z := 0, l := (s.n0 : Int), k := 0, ti := s.ti, n := s.n, y := s.y, m := s.m, p := s.p, c := s.c, mf := s.mf, t1 := (s.y8 s.i.toNat 0).n, a1 := (s.y8 s.i.toNat 1).n, p1 := (s.y8 s.i.toNat 2).n, v1 := (s.y8 s.i.toNat 3).s, m1 := (s.y8 s.i.toNat 4).s, b1 := (s.y8 s.i.toNat 5).n, c1 := (s.y8 s.i.toNat 6).n, s1 := (s.y8 s.i.toNat 7).n, n1 := (s.y8 s.i.toNat 8).len, x1 := (s.y8 s.i.toNat 8).el, l1 := (s.y8 s.i.toNat 9).len, y1 := (s.y8 s.i.toNat 9).el }).p s.i.toNat 0).n) (some (Dt.int s.i))))]) else none else none else none else none else bif decide (0 ≤ IntKind.i64.wrap (ixI s.on s.oq ((out21o { n0 := s.n0, x0 := s.x0, z := 0, l := (s.n0 : Int), k := 0, ti := s.ti, n := s.n, y := s.y, m := s.m, p := s.p, c := s.c, mf := s.mf, t1 := (s.y8 s.i.toNat 0).n, a1 := (s.y8 s.i.toNat 1).n, p1 := (s.y8 s.i.toNat 2).n, v1 := (s.y8 s.i.toNat 3).s, m1 := (s.y8 s.i.toNat 4).s, b1 := (s.y8 s.i.toNat 5).n, c1 := (s.y8 s.i.toNat 6).n, s1 := (s.y8 s.i.toNat 7).n, n1 := (s.y8 s.i.toNat 8).len, x1 := (s.y8 s.i.toNat 8).el, l1 := (s.y8 s.i.toNat 9).len, y1 := (s.y8 s.i.toNat 9).el }).10 s.i.toNat 0).n + 1)) && (decide (IntKind.i64.wrap (ixI s.on s.oq ((out21o { n0 := s.n0, x0 := s.x0, z := 0, l := (s.n0 : Int), k := 0, ti := s.ti, n := s.n, y := s.y, m := s.m, p := s.p, c := s.c, mf := s.mf, t1 := (s.y8 s.i.toNat 0).n, a1 := (s.y8 s.i.toNat 1).n, p1 := (s.y8 s.i.toNat 2).n, v1 := (s.y8 s.i.toNat 3).s, m1 := (s.y8 s.i.toNat 4).s, b1 := (s.y8 s.i.toNat 5).n, c1 := (s.y8 s.i.toNat 6).n, s1 := (s.y8 s.i.toNat 7).n, n1 := (s.y8 s.i.toNat 8).len, x1 := (s.y8 s.i.toNat 8).el, l1 := (s.y8 s.i.toNat 9).len, y1 := (s.y8 s.i.toNat 9).el }).10 s.i.toNat 0).n + 1) ≤ (s.on : Int)) && decide (IntKind.i64.wrap (ixI s.on s.oq ((out21o { n0 := s.n0, x0 := s.x0, z := 0, l := (s.n0 : Int), k := 0, ti := s.ti, n := s.n, y := s.y, m := s.m, p := s.p, c := s.c, mf := s.mf, t1 := (s.y8 s.i.toNat 0).n, a1 := (s.y8 s.i.toNat 1).n, p1 := (s.y8 s.i.toNat 2).n, v1 := (s.y8 s.i.toNat 3).s, m1 := (s.y8 s.i.toNat 4).s, b1 := (s.y8 s.i.toNat 5).n, c1 := (s.y8 s.i.toNat 6).n, s1 := (s.y8 s.i.toNat 7).n, n1 := (s.y8 s.i.toNat 8).len, x1 := (s.y8 s.i.toNat 8).el, l1 := (s.y8 s.i.toNat 9).len, y1 := (s.y8 s.i.toNat 9).el }).10 s.i.toNat 0).n + 1) = IntKind.i64.wrap (ixI s.on s.oq ((out21o { n0 := s.n0, x0 := s.x0, z := 0, l := (s.n0 : Int), k := 0, ti := s.ti, n := s.n, y := s.y, m := s.m, p := s.p, c := s.c, mf := s.mf, t1 := (s.y8 s.i.toNat 0).n, a1 := (s.y8 s.i.toNat 1).n, p1 := (s.y8 s.i.toNat 2).n, v1 := (s.y8 s.i.toNat 3).s, m1 := (s.y8 s.i.toNat 4).s, b1 := (s.y8 s.i.toNat 5).n, c1 := (s.y8 s.i.toNat 6).n, s1 := (s.y8 s.i.toNat 7).n, n1 := (s.y8 s.i.toNat 8).len, x1 := (s.y8 s.i.toNat 8).el, l1 := (s.y8 s.i.toNat 9).len, y1 := (s.y8 s.i.toNat 9).el }).10 s.i.toNat 0).n + 1))) then bif (IntKind.i64.wrap (ixI s.on s.oq ((out21o { n0 := s.n0, x0 := s.x0, z := 0, l := (s.n0 : Int), k := 0, ti := s.ti, n := s.n, y := s.y, m := s.m, p := s.p, c := s.c, mf := s.mf, t1 := (s.y8 s.i.toNat 0).n, a1 := (s.y8 s.i.toNat 1).n, p1 := (s.y8 s.i.toNat 2).n, v1 := (s.y8 s.i.toNat 3).s, m1 := (s.y8 s.i.toNat 4).s, b1 := (s.y8 s.i.toNat 5).n, c1 := (s.y8 s.i.toNat 6).n, s1 := (s.y8 s.i.toNat 7).n, n1 := (s.y8 s.i.toNat 8).len, x1 := (s.y8 s.i.toNat 8).el, l1 := (s.y8 s.i.toNat 9).len, y1 := (s.y8 s.i.toNat 9).el }).10 s.i.toNat 0).n + 1)).toNat.ble 1000000 && true then bif ((IntKind.i64.wrap (ixI s.on s.oq ((out21o { n0 := s.n0, x0 := s.x0, z := 0, l := (s.n0 : Int), k := 0, ti := s.ti, n := s.n, y := s.y, m := s.m, p := s.p, c := s.c, mf := s.mf, t1 := (s.y8 s.i.toNat 0).n, a1 := (s.y8 s.i.toNat 1).n, p1 := (s.y8 s.i.toNat 2).n, v1 := (s.y8 s.i.toNat 3).s, m1 := (s.y8 s.i.toNat 4).s, b1 := (s.y8 s.i.toNat 5).n, c1 := (s.y8 s.i.toNat 6).n, s1 := (s.y8 s.i.toNat 7).n, n1 := (s.y8 s.i.toNat 8).len, x1 := (s.y8 s.i.toNat 8).el, l1 := (s.y8 s.i.toNat 9).len, y1 := (s.y8 s.i.toNat 9).el }).10 s.i.toNat 0).n + 1)).toNat + 1).beq ((IntKind.i64.wrap (ixI s.on s.oq ((out21o { n0 := s.n0, x0 := s.x0, z := 0, l := (s.n0 : Int), k := 0, ti := s.ti, n := s.n, y := s.y, m := s.m, p := s.p, c := s.c, mf := s.mf, t1 := (s.y8 s.i.toNat 0).n, a1 := (s.y8 s.i.toNat 1).n, p1 := (s.y8 s.i.toNat 2).n, v1 := (s.y8 s.i.toNat 3).s, m1 := (s.y8 s.i.toNat 4).s, b1 := (s.y8 s.i.toNat 5).n, c1 := (s.y8 s.i.toNat 6).n, s1 := (s.y8 s.i.toNat 7).n, n1 := (s.y8 s.i.toNat 8).len, x1 := (s.y8 s.i.toNat 8).el, l1 := (s.y8 s.i.toNat 9).len, y1 := (s.y8 s.i.toNat 9).el }).10 s.i.toNat 0).n + 1)).toNat + 1) && true then some (.normal, [.isz s.n0 SS s.x0, .bool s.z, .ptr 0 0, .map 1, .isz ((IntKind.i64.wrap (ixI s.on s.oq ((out21o { n0 := s.n0, x0 := s.x0, z := 0, l := (s.n0 : Int), k := 0, ti := s.ti, n := s.n, y := s.y, m := s.m, p := s.p, c := s.c, mf := s.mf, t1 := (s.y8 s.i.toNat 0).n, a1 := (s.y8 s.i.toNat 1).n, p1 := (s.y8 s.i.toNat 2).n, v1 := (s.y8 s.i.toNat 3).s, m1 := (s.y8 s.i.toNat 4).s, b1 := (s.y8 s.i.toNat 5).n, c1 := (s.y8 s.i.toNat 6).n, s1 := (s.y8 s.i.toNat 7).n, n1 := (s.y8 s.i.toNat 8).len, x1 := (s.y8 s.i.toNat 8).el, l1 := (s.y8 s.i.toNat 9).len, y1 := (s.y8 s.i.toNat 9).el }).10 s.i.toNat 0).n + 1)).toNat + 1) [.int .i64] (appEl s.oq (IntKind.i64.wrap (ixI s.on s.oq ((out21o { n0 := s.n0, x0 := s.x0, z := 0, l := (s.n0 : Int), k := 0, ti := s.ti, n := s.n, y := s.y, m := s.m, p := s.p, c := s.c, mf := s.mf, t1 := (s.y8 s.i.toNat 0).n, a1 := (s.y8 s.i.toNat 1).n, p1 := (s.y8 s.i.toNat 2).n, v1 := (s.y8 s.i.toNat 3).s, m1 := (s.y8 s.i.toNat 4).s, b1 := (s.y8 s.i.toNat 5).n, c1 := (s.y8 s.i.toNat 6).n, s1 := (s.y8 s.i.toNat 7).n, n1 := (s.y8 s.i.toNat 8).len, x1 := (s.y8 s.i.toNat 8).el, l1 := (s.y8 s.i.toNat 9).len, y1 := (s.y8 s.i.toNat 9).el }).p s.i.toNat 0).n + 1)).toNat (dtFs [[Dt.int s.i]])), .isz s.n8 SS s.y8, .int .i64 s.l, .int .i64 (IntKind.i64.wrap (s.i + 1))], [.cells [.int .i64 (out21o { n0 := s.n0, x0 := s.x0, z := 0, l := (s.n0 : Int), k := 0, ti := s.ti, n := s.n, y := s.y, m := s.m, p := s.p, c := s.c, mf := s.mf, t1 := (s.y8 s.i.toNat 0).n, a1 := (s.y8 s.i.toNat 1).n, p1 := (s.y8 s.i.toNat 2).n, v1 := (s.y8 s.i.toNat 3).s, m1 := (s.y8 s.i.toNat 4).s, b1 := (s.y8 s.i.toNat 5).n, c1 := (s.y8 s.i.toNat 6).n, s1 := (s.y8 s.i.toNat 7).n, n1 := (s.y8 s.i.toNat 8).len, x1 := (s.y8 s.i.toNat 8).el, l1 := (s.y8 s.i.toNat 9).len, y1 := (s.y8 s.i.toNat 9).el }).6, .isz (out21o { n0 := s.n0, x0 := s.x0, z := 0, l := (s.n0 : Int), k := 0, ti := s.ti, n := s.n, y := s.y, m := s.m, p := s.p, c := s.c, mf := s.mf, t1 := (s.y8 s.i.toNat 0).n, a1 := (s.y8 s.i.toNat 1).n, p1 := (s.y8 s.i.toNat 2).n, v1 := (s.y8 s.i.toNat 3).s, m1 := (s.y8 s.i.toNat 4).s, b1 := (s.y8 s.i.toNat 5).n, c1 := (s.y8 s.i.toNat 6).n, s1 := (s.y8 s.i.toNat 7).n, n1 := (s.y8 s.i.toNat 8).len, x1 := (s.y8 s.i.toNat 8).el, l1 := (s.y8 s.i.toNat 9).len, y1 := (s.y8 s.i.toNat 9).el }).7 SS (out21o { n0 := s.n0, x0 := s.x0, z := 0, l := (s.n0 : Int), k := 0, ti := s.ti, n := s.n, y := s.y, m := s.m, p := s.p, c := s.c, mf := s.mf, t1 := (s.y8 s.i.toNat 0).n, a1 := (s.y8 s.i.toNat 1).n, p1 := (s.y8 s.i.toNat 2).n, v1 := (s.y8 s.i.toNat 3).s, m1 := (s.y8 s.i.toNat 4).s, b1 := (s.y8 s.i.toNat 5).n, c1 := (s.y8 s.i.toNat 6).n, s1 := (s.y8 s.i.toNat 7).n, n1 := (s.y8 s.i.toNat 8).len, x1 := (s.y8 s.i.toNat 8).el, l1 := (s.y8 s.i.toNat 9).len, y1 := (s.y8 s.i.toNat 9).el }).y, .isz (out21o { n0 := s.n0, x0 := s.x0, z := 0, l := (s.n0 : Int), k := 0, ti := s.ti, n := s.n, y := s.y, m := s.m, p := s.p, c := s.c, mf := s.mf, t1 := (s.y8 s.i.toNat 0).n, a1 := (s.y8 s.i.toNat 1).n, p1 := (s.y8 s.i.toNat 2).n, v1 := (s.y8 s.i.toNat 3).s, m1 := (s.y8 s.i.toNat 4).s, b1 := (s.y8 s.i.toNat 5).n, c1 := (s.y8 s.i.toNat 6).n, s1 := (s.y8 s.i.toNat 7).n, n1 := (s.y8 s.i.toNat 8).len, x1 := (s.y8 s.i.toNat 8).el, l1 := (s.y8 s.i.toNat 9).len, y1 := (s.y8 s.i.toNat 9).el }).9 [.int .i64] (out21o { n0 := s.n0, x0 := s.x0, z := 0, l := (s.n0 : Int), k := 0, ti := s.ti, n := s.n, y := s.y, m := s.m, p := s.p, c := s.c, mf := s.mf, t1 := (s.y8 s.i.toNat 0).n, a1 := (s.y8 s.i.toNat 1).n, p1 := (s.y8 s.i.toNat 2).n, v1 := (s.y8 s.i.toNat 3).s, m1 := (s.y8 s.i.toNat 4).s, b1 := (s.y8 s.i.toNat 5).n, c1 := (s.y8 s.i.toNat 6).n, s1 := (s.y8 s.i.toNat 7).n, n1 := (s.y8 s.i.toNat 8).len, x1 := (s.y8 s.i.toNat 8).el, l1 := (s.y8 s.i.toNat 9).len, y1 := (s.y8 s.i.toNat 9).el }).p] 36, .mapF (Dk.int .i64) (bif Option.isSome ((out21o { n0 := s.n0, x0 := s.x0, z := 0, l := (s.n0 : Int), k := 0, ti := s.ti, n := s.n, y := s.y, m := s.m, p := s.p, c := s.c, mf := s.mf, t1 := (s.y8 s.i.toNat 0).n, a1 := (s.y8 s.i.toNat 1).n, p1 := (s.y8 s.i.toNat 2).n, v1 := (s.y8 s.i.toNat 3).s, m1 := (s.y8 s.i.toNat 4).s, b1 := (s.y8 s.i.toNat 5).n, c1 := (s.y8 s.i.toNat 6).n, s1 := (s.y8 s.i.toNat 7).n, n1 := (s.y8 s.i.toNat 8).len, x1 := (s.y8 s.i.toNat 8).el, l1 := (s.y8 s.i.toNat 9).len, y1 := (s.y8 s.i.toNat 9).el }).mf (Ky.int ((out21o { n0 := s.n0, x0 := s.x0, z := 0, l := (s.n0 : Int), k := 0, ti := s.ti, n := s.n, y := s.y, m := s.m, p := s.p, c := s.c, mf := s.mf, t1 := (s.y8 s.i.toNat 0).n, a1 := (s.y8 s.i.toNat 1).n, p1 := (s.y8 s.i.toNat 2).n, v1 := (s.y8 s.i.toNat 3).s, m1 := (s.y8 s.i.toNat 4).s, b1 := (s.y8 s.i.toNat 5).n, c1 := (s.y8 s.i.toNat 6).n, s1 := (s.y8 s.i.toNat 7).n, n1 := (s.y8 s.i.toNat 8).len, x1 := (s.y8 s.i.toNat 8).el, l1 := (s.y8 s.i.toNat 9).len, y1 := (s.y8 s.i.toNat 9).el }).p s.i.toNat 0).n)) then (out21o { n0 := s.n0, x0 := s.x0, z := 0, l := (s.n0 : Int), k := 0, ti := s.ti, n := s.n, y := s.y, m := s.m, p := s.p, c := s.c, mf := s.mf, t1 := (s.y8 s.i.toNat 0).n, a1 := (s.y8 s.i.toNat 1).n, p1 := (s.y8 s.i.toNat 2).n, v1 := (s.y8 s.i.toNat 3).s, m1 := (s.y8 s.i.toNat 4).s, b1 := (s.y8 s.i.toNat 5).n, c1 := (s.y8 s.i.toNat 6).n, s1 := (s.y8 s.i.toNat 7).n, n1 := (s.y8 s.i.toNat 8).len, x1 := (s.y8 s.i.toNat 8).el, l1 := (s.y8 s.i.toNat 9).len, y1 := (s.y8 s.i.toNat 9).el }).11 else (out21o { n0 := s.n0, x0 := s.x0, z := 0, l := (s.n0 : Int), k := 0, ti := s.ti, n := s.n, y := s.y, m := s.m, p := s.p, c := s.c, mf := s.mf, t1 := (s.y8 s.i.toNat 0).n, a1 := (s.y8 s.i.toNat 1).n, p1 := (s.y8 s.i.toNat 2).n, v1 := (s.y8 s.i.toNat 3).s, m1 := (s.y8 s.i.toNat 4).s, b1 := (s.y8 s.i.toNat 5).n, c1 := (s.y8 s.i.toNat 6).n, s1 := (s.y8 s.i.toNat 7).n, n1 := (s.y8 s.i.toNat 8).len, x1 := (s.y8 s.i.toNat 8).el, l1 := (s.y8 s.i.toNat 9).len, y1 := (s.y8 s.i.toNat 9).el }).11 + 1) (MF.dat (.int .i64) (putK (out21o { n0 := s.n0, x0 := s.x0, z := 0, l := (s.n0 : Int), k := 0, ti := s.ti, n := s.n, y := s.y, m := s.m, p := s.p, c := s.c, mf := s.mf, t1 := (s.y8 s.i.toNat 0).n, a1 := (s.y8 s.i.toNat 1).n, p1 := (s.y8 s.i.toNat 2).n, v1 := (s.y8 s.i.toNat 3).s, m1 := (s.y8 s.i.toNat 4).s, b1 := (s.y8 s.i.toNat 5).n, c1 := (s.y8 s.i.toNat 6).n, s1 := (s.y8 s.i.toNat 7).n, n1 := (s.y8 s.i.toNat 8).len, x1 := (s.y8 s.i.toNat 8).el, l1 := (s.y8 s.i.toNat 9).len, y1 := (s.y8 s.i.toNat 9).el }).mf (Ky.int ((out21o { n0 := s.n0, x0 := s.x0, z := 0, l := (s.n0 : Int), k := 0, ti := s.ti, n := s.n, y := s.y, m := s.m, p := s.p, c := s.c, mf := s.mf, t1 := (s.y8 s.i.toNat 0).n, a1 := (s.y8 s.i.toNat 1).n, p1 := (s.y8 s.i.toNat 2).n, v1 := (s.y8 s.i.toNat 3).s, m1 := (s.y8 s.i.toNat 4).s, b1 := (s.y8 s.i.toNat 5).n, c1 := (s.y8 s.i.toNat 6).n, s1 := (s.y8 s.i.toNat 7).n, n1 := (s.y8 s.i.toNat 8).len, x1 := (s.y8 s.i.toNat 8).el, l1 := (s.y8 s.i.toNat 9).len, y1 := (s.y8 s.i.toNat 9).el }).p s.i.toNat 0).n) (some (Dt.int s.i))))]) else none else none else none else none else none else some (.ret, [.isz s.n0 SS s.x0, .bool false, .ptr 0 0, .map 1, .isz s.on [.int .i64] s.oq, .isz s.n8 SS s.y8, .int .i64 s.l, .int .i64 s.i], [.cells [.int .i64 (out21o { n0 := s.n0, x0 := s.x0, z := 0, l := (s.n0 : Int), k := 0, ti := s.ti, n := s.n, y := s.y, m := s.m, p := s.p, c := s.c, mf := s.mf, t1 := (s.y8 s.i.toNat 0).n, a1 := (s.y8 s.i.toNat 1).n, p1 := (s.y8 s.i.toNat 2).n, v1 := (s.y8 s.i.toNat 3).s, m1 := (s.y8 s.i.toNat 4).s, b1 := (s.y8 s.i.toNat 5).n, c1 := (s.y8 s.i.toNat 6).n, s1 := (s.y8 s.i.toNat 7).n, n1 := (s.y8 s.i.toNat 8).len, x1 := (s.y8 s.i.toNat 8).el, l1 := (s.y8 s.i.toNat 9).len, y1 := (s.y8 s.i.toNat 9).el }).6, .isz (out21o { n0 := s.n0, x0 := s.x0, z := 0, l := (s.n0 : Int), k := 0, ti := s.ti, n := s.n, y := s.y, m := s.m, p := s.p, c := s.c, mf := s.mf, t1 := (s.y8 s.i.toNat 0).n, a1 := (s.y8 s.i.toNat 1).n, p1 := (s.y8 s.i.toNat 2).n, v1 := (s.y8 s.i.toNat 3).s, m1 := (s.y8 s.i.toNat 4).s, b1 := (s.y8 s.i.toNat 5).n, c1 := (s.y8 s.i.toNat 6).n, s1 := (s.y8 s.i.toNat 7).n, n1 := (s.y8 s.i.toNat 8).len, x1 := (s.y8 s.i.toNat 8).el, l1 := (s.y8 s.i.toNat 9).len, y1 := (s.y8 s.i.toNat 9).el }).7 SS (out21o { n0 := s.n0, x0 := s.x0, z := 0, l := (s.n0 : Int), k := 0, ti := s.ti, n := s.n, y := s.y, m := s.m, p := s.p, c := s.c, mf := s.mf, t1 := (s.y8 s.i.toNat 0).n, a1 := (s.y8 s.i.toNat 1).n, p1 := (s.y8 s.i.toNat 2).n, v1 := (s.y8 s.i.toNat 3).s, m1 := (s.y8 s.i.toNat 4).s, b1 := (s.y8 s.i.toNat 5).n, c1 := (s.y8 s.i.toNat 6).n, s1 := (s.y8 s.i.toNat 7).n, n1 := (s.y8 s.i.toNat 8).len, x1 := (s.y8 s.i.toNat 8).el, l1 := (s.y8 s.i.toNat 9).len, y1 := (s.y8 s.i.toNat 9).el }).y, .isz (out21o { n0 := s.n0, x0 := s.x0, z := 0, l := (s.n0 : Int), k := 0, ti := s.ti, n := s.n, y := s.y, m := s.m, p := s.p, c := s.c, mf := s.mf, t1 := (s.y8 s.i.toNat 0).n, a1 := (s.y8 s.i.toNat 1).n, p1 := (s.y8 s.i.toNat 2).n, v1 := (s.y8 s.i.toNat 3).s, m1 := (s.y8 s.i.toNat 4).s, b1 := (s.y8 s.i.toNat 5).n, c1 := (s.y8 s.i.toNat 6).n, s1 := (s.y8 s.i.toNat 7).n, n1 := (s.y8 s.i.toNat 8).len, x1 := (s.y8 s.i.toNat 8).el, l1 := (s.y8 s.i.toNat 9).len, y1 := (s.y8 s.i.toNat 9).el }).9 [.int .i64] (out21o { n0 := s.n0, x0 := s.x0, z := 0, l := (s.n0 : Int), k := 0, ti := s.ti, n := s.n, y := s.y, m := s.m, p := s.p, c := s.c, mf := s.mf, t1 := (s.y8 s.i.toNat 0).n, a1 := (s.y8 s.i.toNat 1).n, p1 := (s.y8 s.i.toNat 2).n, v1 := (s.y8 s.i.toNat 3).s, m1 := (s.y8 s.i.toNat 4).s, b1 := (s.y8 s.i.toNat 5).n, c1 := (s.y8 s.i.toNat 6).n, s1 := (s.y8 s.i.toNat 7).n, n1 := (s.y8 s.i.toNat 8).len, x1 := (s.y8 s.i.toNat 8).el, l1 := (s.y8 s.i.toNat 9).len, y1 := (s.y8 s.i.toNat 9).el }).p] 36, .mapF (Dk.int .i64) (out21o { n0 := s.n0, x0 := s.x0, z := 0, l := (s.n0 : Int), k := 0, ti := s.ti, n := s.n, y := s.y, m := s.m, p := s.p, c := s.c, mf := s.mf, t1 := (s.y8 s.i.toNat 0).n, a1 := (s.y8 s.i.toNat 1).n, p1 := (s.y8 s.i.toNat 2).n, v1 := (s.y8 s.i.toNat 3).s, m1 := (s.y8 s.i.toNat 4).s, b1 := (s.y8 s.i.toNat 5).n, c1 := (s.y8 s.i.toNat 6).n, s1 := (s.y8 s.i.toNat 7).n, n1 := (s.y8 s.i.toNat 8).len, x1 := (s.y8 s.i.toNat 8).el, l1 := (s.y8 s.i.toNat 9).len, y1 := (s.y8 s.i.toNat 9).el }).11 (MF.dat (.int .i64) (out21o { n0 := s.n0, x0 := s.x0, z := 0, l := (s.n0 : Int), k := 0, ti := s.ti, n := s.n, y := s.y, m := s.m, p := s.p, c := s.c, mf := s.mf, t1 := (s.y8 s.i.toNat 0).n, a1 := (s.y8 s.i.toNat 1).n, p1 := (s.y8 s.i.toNat 2).n, v1 := (s.y8 s.i.toNat 3).s, m1 := (s.y8 s.i.toNat 4).s, b1 := (s.y8 s.i.toNat 5).n, c1 := (s.y8 s.i.toNat 6).n, s1 := (s.y8 s.i.toNat 7).n, n1 := (s.y8 s.i.toNat 8).len, x1 := (s.y8 s.i.toNat 8).el, l1 := (s.y8 s.i.toNat 9).len, y1 := (s.y8 s.i.toNat 9).el }).mf)]) else some (.ret, [.isz s.n0 SS s.x0, .bool false, .ptr 0 0, .map 1, .isz s.on [.int .i64] s.oq, .isz s.n8 SS s.y8, .int .i64 s.l, .int .i64 s.i], [.cells [.int .i64 (out21o { n0 := s.n0, x0 := s.x0, z := 0, l := (s.n0 : Int), k := 0, ti := s.ti, n := s.n, y := s.y, m := s.m, p := s.p, c := s.c, mf := s.mf, t1 := (s.y8 s.i.toNat 0).n, a1 := (s.y8 s.i.toNat 1).n, p1 := (s.y8 s.i.toNat 2).n, v1 := (s.y8 s.i.toNat 3).s, m1 := (s.y8 s.i.toNat 4).s, b1 := (s.y8 s.i.toNat 5).n, c1 := (s.y8 s.i.toNat 6).n, s1 := (s.y8 s.i.toNat 7).n, n1 := (s.y8 s.i.toNat 8).len, x1 := (s.y8 s.i.toNat 8).el, l1 := (s.y8 s.i.toNat 9).len, y1 := (s.y8 s.i.toNat 9).el }).6, .isz (out21o { n0 := s.n0, x0 := s.x0, z := 0, l := (s.n0 : Int), k := 0, ti := s.ti, n := s.n, y := s.y, m := s.m, p := s.p, c := s.c, mf := s.mf, t1 := (s.y8 s.i.toNat 0).n, a1 := (s.y8 s.i.toNat 1).n, p1 := (s.y8 s.i.toNat 2).n, v1 := (s.y8 s.i.toNat 3).s, m1 := (s.y8 s.i.toNat 4).s, b1 := (s.y8 s.i.toNat 5).n, c1 := (s.y8 s.i.toNat 6).n, s1 := (s.y8 s.i.toNat 7).n, n1 := (s.y8 s.i.toNat 8).len, x1 := (s.y8 s.i.toNat 8).el, l1 := (s.y8 s.i.toNat 9).len, y1 := (s.y8 s.i.toNat 9).el }).7 SS (out21o { n0 := s.n0, x0 := s.x0, z := 0, l := (s.n0 : Int), k := 0, ti := s.ti, n := s.n, y := s.y, m := s.m, p := s.p, c := s.c, mf := s.mf, t1 := (s.y8 s.i.toNat 0).n, a1 := (s.y8 s.i.toNat 1).n, p1 := (s.y8 s.i.toNat 2).n, v1 := (s.y8 s.i.toNat 3).s, m1 := (s.y8 s.i.toNat 4).s, b1 := (s.y8 s.i.toNat 5).n, c1 := (s.y8 s.i.toNat 6).n, s1 := (s.y8 s.i.toNat 7).n, n1 := (s.y8 s.i.toNat 8).len, x1 := (s.y8 s.i.toNat 8).el, l1 := (s.y8 s.i.toNat 9).len, y1 := (s.y8 s.i.toNat 9).el }).y, .isz (out21o { n0 := s.n0, x0 := s.x0, z := 0, l := (s.n0 : Int), k := 0, ti := s.ti, n := s.n, y := s.y, m := s.m, p := s.p, c := s.c, mf := s.mf, t1 := (s.y8 s.i.toNat 0).n, a1 := (s.y8 s.i.toNat 1).n, p1 := (s.y8 s.i.toNat 2).n, v1 := (s.y8 s.i.toNat 3).s, m1 := (s.y8 s.i.toNat 4).s, b1 := (s.y8 s.i.toNat 5).n, c1 := (s.y8 s.i.toNat 6).n, s1 := (s.y8 s.i.toNat 7).n, n1 := (s.y8 s.i.toNat 8).len, x1 := (s.y8 s.i.toNat 8).el, l1 := (s.y8 s.i.toNat 9).len, y1 := (s.y8 s.i.toNat 9).el }).9 [.int .i64] (out21o { n0 := s.n0, x0 := s.x0, z := 0, l := (s.n0 : Int), k := 0, ti := s.ti, n := s.n, y := s.y, m := s.m, p := s.p, c := s.c, mf := s.mf, t1 := (s.y8 s.i.toNat 0).n, a1 := (s.y8 s.i.toNat 1).n, p1 := (s.y8 s.i.toNat 2).n, v1 := (s.y8 s.i.toNat 3).s, m1 := (s.y8 s.i.toNat 4).s, b1 := (s.y8 s.i.toNat 5).n, c1 := (s.y8 s.i.toNat 6).n, s1 := (s.y8 s.i.toNat 7).n, n1 := (s.y8 s.i.toNat 8).len, x1 := (s.y8 s.i.toNat 8).el, l1 := (s.y8 s.i.toNat 9).len, y1 := (s.y8 s.i.toNat 9).el }).p] 36, .mapF (Dk.int .i64) (out21o { n0 := s.n0, x0 := s.x0, z := 0, l := (s.n0 : Int), k := 0, ti := s.ti, n := s.n, y := s.y, m := s.m, p := s.p, c := s.c, mf := s.mf, t1 := (s.y8 s.i.toNat 0).n, a1 := (s.y8 s.i.toNat 1).n, p1 := (s.y8 s.i.toNat 2).n, v1 := (s.y8 s.i.toNat 3).s, m1 := (s.y8 s.i.toNat 4).s, b1 := (s.y8 s.i.toNat 5).n, c1 := (s.y8 s.i.toNat 6).n, s1 := (s.y8 s.i.toNat 7).n, n1 := (s.y8 s.i.toNat 8).len, x1 := (s.y8 s.i.toNat 8).el, l1 := (s.y8 s.i.toNat 9).len, y1 := (s.y8 s.i.toNat 9).el }).11 (MF.dat (.int .i64) (out21o { n0 := s.n0, x0 := s.x0, z := 0, l := (s.n0 : Int), k := 0, ti := s.ti, n := s.n, y := s.y, m := s.m, p := s.p, c := s.c, mf := s.mf, t1 := (s.y8 s.i.toNat 0).n, a1 := (s.y8 s.i.toNat 1).n, p1 := (s.y8 s.i.toNat 2).n, v1 := (s.y8 s.i.toNat 3).s, m1 := (s.y8 s.i.toNat 4).s, b1 := (s.y8 s.i.toNat 5).n, c1 := (s.y8 s.i.toNat 6).n, s1 := (s.y8 s.i.toNat 7).n, n1 := (s.y8 s.i.toNat 8).len, x1 := (s.y8 s.i.toNat 8).el, l1 := (s.y8 s.i.toNat 9).len, y1 := (s.y8 s.i.toNat 9).el }).mf)]) else none else none else some (.exit 0, [.isz s.n0 SS s.x0, .bool s.z, .ptr 0 0, .map 1, .isz s.on [.int .i64] s.oq, .isz s.n8 SS s.y8, .int .i64 s.l, .int .i64 s.i], [.cells [.int .i64 s.ti, .isz s.n SS s.y, .isz s.m [.int .i64] s.p] 36, .mapF (Dk.int .i64) s.c (MF.dat (.int .i64) s.mf)])
noncomputable def L7 : Ls S7 := ⟨0, dec7, vs7, hp7, rnd7⟩
theorem L7_ok : L7.Ok := fun vs H s h => by
  have h : dec7 vs H = some s := h
  unfold dec7 at h
  split at h
  · obtain rfl := Option.some.inj h
    exact ⟨rfl, rfl⟩
  · cases h
noncomputable def ok7 (s : S7) : Bool := L7.ok 0 s
noncomputable def out7 (s : S7) : S7 := (L7.end_ s).2
noncomputable def ret7 (s : S7) : Bool := (L7.end_ s).1
noncomputable def fin7 (s : S7) : Tr (Ex × List AV × List Ob) := .leaf (.exit 0, vs7 (out7 s), hp7 (out7 s))
noncomputable abbrev f7s : List AV → List Ob → Tr (Ex × List AV × List Ob) := stF dec7 ok7 fin7
theorem de7 (c : S7) : L7.dec (L7.vs c) (L7.hp c) = some c := by kernel_rfl
theorem on7 {s s1 s2 : S7} {b : Bool} (h : rnd7 s = some (.normal, vs7 s1, hp7 s1)) (h2 : L7.To s1 b s2) : L7.To s b s2 := L7.to_on h (de7 s1) h2
theorem ot7 {s s1 : S7} (h : rnd7 s = some (.exit 0, vs7 s1, hp7 s1)) : L7.To s false s1 := L7.to_out h (de7 s1)
theorem ok7_of {s s1 : S7} {b : Bool} (h : L7.To s b s1) (hb : mdB 0 b = true) : ok7 s = true := h.ok L7 (m := 0) hb
theorem out7_of {s s1 : S7} {b : Bool} (h : L7.To s b s1) : out7 s = s1 := congrArg Prod.snd (h.end_ L7)
theorem ret7_of {s s1 : S7} {b : Bool} (h : L7.To s b s1) : ret7 s = b := congrArg Prod.fst (h.end_ L7)
noncomputable abbrev lp7 (i : Nat) : LT := bif Nat.beq i 2000025 then .ghost [.frz 6] else bif Nat.beq i 2000008 then .ghost [.mapD 45 (.int .i64) (.int .i64)] else bif Nat.beq i 2000009 then .ghost [.row 6 [.int .i64]] else .sum keep7 f7s
theorem loop7 (s : S7) : evC (β := Ex × List AV × List Ob) Try.prog (spOf [t16, t17, t27f, t28, iAw]) (inlOf [21, 23, 26]) extD cO2 (lp7) (bodyOf Try.prog 7 0) ⟨mkF Try.f7.ntmps keep7 (vs7 s), hp7 s⟩ (fun e st => (cutBack keep7 2 st).map fun q => (e, q.1, q.2)) = rnd7 s := by kernel_rfl
theorem sum7 : LoopOkT Try.prog (spOf [t16, t17, t27f, t28, iAw]) (inlOf [21, 23, 26]) extD cO2 lp7 Try.f7.ntmps (bodyOf Try.prog 7 0) (.sum keep7 f7s) := by
  dsimp only [LoopOkT]
  exact ⟨by decide, by decide, sum_ls L7 0 L7_ok loop7⟩
end Go.Proofs.Ytfgniheefiefjaa

/- SpantreeOnce: the loops' ends for a tree that is built. Conditions: none beyond the context's. -/
namespace Go.Proofs.Ytfgniheefiefjaa
open Go.Evl Go.RowKit
/-- a span of one row and one of another read alike -/
def es2 (x : Nat → Nat → Dt) (k : Nat) (y : Nat → Nat → Dt) (i : Nat) : Bool := esB (x k 0).n (x k 1).n (x k 2).n (x k 3).s (x k 4).s (x k 5).n (x k 6).n (x k 7).n (x k 8).len (x k 8).el (x k 9).len (x k 9).el (y i 0).n (y i 1).n (y i 2).n (y i 3).s (y i 4).s (y i 5).n (y i 6).n (y i 7).n (y i 8).len (y i 8).el (y i 9).len (y i 9).el
theorem es2_of {x y : Nat → Nat → Dt} {k i : Nat} (h : vE x k = vE y i) (hs : smV (vE x k)) : es2 x k y i = true := by
  obtain ⟨h0, h1, h2, h3, h4, h5, h6, h7, h8, h9, h10, h11⟩ := vE_cell h
  obtain ⟨s1, s2⟩ := hs
  have s1' : (x k 8).len ≤ 1000000 := s1
  have s2' : (x k 9).len ≤ 1000000 := s2
  unfold es2 esB
  rw [← h0, ← h1, ← h2, ← h3, ← h4, ← h5, ← h6, ← h7, ← h8, ← h9, ← h10, ← h11, elB_refl, ekB_refl, Nat.ble_eq_true_of_le s1', Nat.ble_eq_true_of_le s2']
  simp
section
variable {n0 : Nat} {x0 : Nat → Nat → Dt} {ti : Int} {n : Nat} {y : Nat → Nat → Dt} {m : Nat} {p : Nat → Nat → Dt} {c : Nat} {mf : Ky → Option Dt} {w : Nat → Nat → Dt} {i : Nat}
/-- the state of the search for a span -/
def s21 (n0 : Nat) (x0 : Nat → Nat → Dt) (z k : Int) (ti : Int) (n : Nat) (y : Nat → Nat → Dt) (m : Nat) (p : Nat → Nat → Dt) (c : Nat) (mf : Ky → Option Dt) (w : Nat → Nat → Dt) (i : Nat) : S21o := ⟨n0, x0, z, (n0 : Int), k, ti, n, y, m, p, c, mf, (w i 0).n, (w i 1).n, (w i 2).n, (w i 3).s, (w i 4).s, (w i 5).n, (w i 6).n, (w i 7).n, (w i 8).len, (w i 8).el, (w i 9).len, (w i 9).el⟩
theorem to21o (hn : n0 ≤ 1000) (hall : ∀ k, k < n0 → es2 x0 k w i = true ∨ ((x0 k 9).len ≤ 1000000 ∧ cpI (x0 k 0).n (x0 k 1).n (w i 0).n (w i 1).n ≠ 0)) : ∀ f k z, k + f = n0 → (∃ j, k ≤ j ∧ j < n0 ∧ es2 x0 j w i = true) →
    ∃ j : Nat, L21o.To (s21 n0 x0 z (k : Int) ti n y m p c mf w i) true (s21 n0 x0 (j : Int) (j : Int) ti n y m p c mf w i)
  | 0, k, z, hk, ⟨j, h1, h2, _⟩ => by omega
  | f + 1, k, z, hk, ⟨j, h1, h2, h3⟩ => by
    have w1 : IntKind.i64.wrap ((k : Int) + 1) = ((k + 1 : Nat) : Int) := by rw [wrapI (by omega) (by omega)]; omega
    have k1 : decide ((k : Int) < (n0 : Int)) = true := decide_eq_true (by omega)
    have k2 : (decide (0 ≤ (k : Int)) && decide ((k : Int) < (n0 : Int))) = true := by rw [k1, decide_eq_true (by omega)]; rfl
    have hg : (es2 x0 k w i || (x0 k 9).len.ble 1000000 && cpI (x0 k 0).n (x0 k 1).n (w i 0).n (w i 1).n != 0) = true := by
      rcases hall k (by omega) with h | ⟨ha, hb⟩
      · rw [h]; rfl
      · rw [Nat.ble_eq_true_of_le ha, bne_iff_ne.2 hb]; simp
    have hg' := hg
    unfold es2 at hg'
    by_cases he : es2 x0 k w i = true
    · have he' := he
      unfold es2 at he'
      refine ⟨k, rt21o ?_⟩
      unfold s21
      simp only [rnd21o, Int.toNat_natCast]
      rw [condT k1, condT k2, condT hg', condT he']
    · obtain ⟨j', hj'⟩ := to21o hn hall f (k + 1) z (by omega) ⟨j, by
        rcases Nat.lt_or_ge k j with h | h
        · omega
        · obtain rfl : k = j := by omega
          exact absurd h3 he, h2, h3⟩
      have he' : es2 x0 k w i = false := by simpa using he
      unfold es2 at he'
      refine ⟨j', on21o ?_ hj'⟩
      unfold s21
      simp only [rnd21o, Int.toNat_natCast]
      rw [condT k1, condT k2, condT hg', condF he', w1]
end
/-- a row that tells a list of numbers -/
def RepO (l : List Int) (on : Nat) (oq : Nat → Nat → Dt) : Prop := on = l.length ∧ ∀ t (h : t < l.length), (oq t 0).n = l[t]
theorem idxOf_first : ∀ (l : List Int) (v : Int) (j : Nat) (h : j < l.length), l[j] = v → (∀ t (ht : t < j), l[t]'(by omega) ≠ v) → l.idxOf v = j
  | [], _, _, h, _, _ => by simp at h
  | a :: r, v, 0, _, e, _ => by
    simp only [List.getElem_cons_zero] at e
    subst e
    exact List.idxOf_cons_self
  | a :: r, v, j + 1, h, e, hne => by
    have h0 := hne 0 (by omega)
    simp only [List.getElem_cons_zero] at h0
    simp only [List.getElem_cons_succ] at e
    have ih := idxOf_first r v j (by simpa using h) e fun t ht => by
      have := hne (t + 1) (by omega)
      simpa using this
    rw [List.idxOf_cons, ih, show (a == v) = false from beq_eq_false_iff_ne.2 h0]
    rfl
theorem scan_first {α : Type} {g : Nat → Option α} {a : α} {j : Nat} : ∀ {f k : Nat}, scan g f k = some (a, j) → ∀ t, k ≤ t → t < j → g t = none
  | 0, k, h, _, _, _ => by cases h
  | f + 1, k, h, t, h1, h2 => by
    simp only [scan] at h
    cases e : g k with
    | some b =>
      rw [e] at h
      cases h
      omega
    | none =>
      rw [e] at h
      by_cases hk : t = k
      · subst hk; exact e
      · exact scan_first h t (by omega) h2
theorem ix_of {l : List Int} {on : Nat} {oq : Nat → Nat → Dt} (hr : RepO l on oq) {v : Int} (hv : v ∈ l) : ixI on oq v = (l.idxOf v : Int) ∧ l.idxOf v < l.length := by
  obtain ⟨h1, h2⟩ := hr
  obtain ⟨j, hj, e⟩ := List.mem_iff_getElem.1 hv
  refine ⟨?_, List.idxOf_lt_length_of_mem hv⟩
  unfold ixI
  cases es : scan (ixG oq v) on 0 with
  | none =>
    exfalso
    have := scan_none es j (Nat.zero_le _) (by omega)
    unfold ixG at this
    split at this
    · cases this
    · rename_i hh
      exact hh (by rw [h2 j hj, e])
  | some q =>
    obtain ⟨_, k⟩ := q
    obtain ⟨a1, _, a2⟩ := scan_some es
    have hk : k < l.length := by omega
    have ak : l[k] = v := by
      unfold ixG at a1
      split at a1
      · rename_i hh
        rw [← h2 k hk]; exact hh.symm
      · cases a1
    rw [idxOf_first l v k hk ak fun t ht e => by
      have := scan_first es t (Nat.zero_le _) ht
      unfold ixG at this
      split at this
      · cases this
      · rename_i hh
        exact hh (by rw [h2 t (by omega), e])]
theorem rep_step {l : List Int} {on : Nat} {oq : Nat → Nat → Dt} (hr : RepO l on oq) {k : Nat} (hk : k < l.length) (i : Int) : RepO (l.take (k + 1) ++ [i]) (k + 1 + 1) (appEl oq (k + 1) (dtFs [[Dt.int i]])) := by
  have hl : (l.take (k + 1)).length = k + 1 := by rw [List.length_take]; omega
  refine ⟨by rw [List.length_append, hl]; rfl, fun t ht => ?_⟩
  rw [List.length_append, hl, List.length_cons, List.length_nil] at ht
  rw [app_at]
  by_cases h : t < k + 1
  · rw [if_pos h, List.getElem_append_left (by omega), List.getElem_take]
    exact hr.2 t (by omega)
  · rw [if_neg h, List.getElem_append_right (by omega)]
    have : t = k + 1 := by omega
    subst this
    simp only [hl, Nat.sub_self, List.getElem_cons_zero]
    rfl
theorem oE_len (n : Nat) (y : Nat → Nat → Dt) : ∀ i, (oE n y i).length ≤ i + 1
  | 0 => Nat.le_refl _
  | i + 1 => by
    have := oE_len n y i
    simp only [oE, opS, List.length_append, List.length_take, List.length_cons, List.length_nil]
    omega
/-- the last children so far -/
def LstP (n : Nat) (y : Nat → Nat → Dt) (i : Nat) (mf : Ky → Option Dt) : Prop := ∀ v : Int, mf (.int v) = none ∨ ∃ b : Nat, b < i ∧ mf (.int v) = some (.int (b : Int)) ∧ pE n y b = v
theorem to7 {n : Nat} {x y w q : Nat → Nat → Dt} (h : TrW n y w q) {ti : Int} (hx : ∀ i, i < n → (∃ j, j < n ∧ es2 x j w i = true) ∧ ∀ k, k < n → es2 x k w i = true ∨ ((x k 9).len ≤ 1000000 ∧ cpI (x k 0).n (x k 1).n (w i 0).n (w i 1).n ≠ 0)) : ∀ f i on oq c mf, i + f = n → RepO (oE n y i) on oq → LstP n y i mf →
    ∃ s, L7.To ⟨n, x, false, on, oq, n, w, (n : Int), (i : Int), ti, n, w, n, q, c, mf⟩ false s
  | 0, i, on, oq, c, mf, hi, _, _ => by
    refine ⟨⟨n, x, false, on, oq, n, w, (n : Int), (i : Int), ti, n, w, n, q, c, mf⟩, ot7 ?_⟩
    simp only [rnd7]
    rw [condF (decide_eq_false (by omega))]
  | f + 1, i, on, oq, c, mf, hi, hr, hl => by
    have hn := h.n12
    have hin : i < n := by omega
    obtain ⟨⟨j0, hj0, hj1⟩, hall⟩ := hx i hin
    obtain ⟨j, hj⟩ := to21o (n0 := n) (x0 := x) (w := w) (i := i) (ti := ti) (n := n) (y := w) (m := n) (p := q) (c := c) (mf := mf) (by omega) hall n 0 0 (by omega) ⟨j0, Nat.zero_le _, hj0, hj1⟩
    rw [show ((0 : Nat) : Int) = 0 from rfl] at hj
    have ho := out21o_of hj
    unfold s21 at ho hj
    have k1 : decide ((i : Int) < (n : Int)) = true := decide_eq_true (by omega)
    have k2 : (decide (0 ≤ (i : Int)) && decide ((i : Int) < (n : Int))) = true := by rw [k1, decide_eq_true (by omega)]; rfl
    have hp := h.pa i hin
    have hmem := oE_mem hn (y := y) hin
    obtain ⟨e1, e2⟩ := ix_of hr hmem
    have hlen := oE_len n y i
    have hon : on ≤ 20 := by have := hr.1; omega
    have hon2 := hr.1
    have w1 : IntKind.i64.wrap ((i : Int) + 1) = ((i + 1 : Nat) : Int) := by rw [wrapI (by omega) (by omega)]; omega
    have hstep : RepO (oE n y (i + 1)) ((oE n y i).idxOf (pE n y i) + 1 + 1) (appEl oq ((oE n y i).idxOf (pE n y i) + 1) (dtFs [[Dt.int (i : Int)]])) := rep_step hr e2 (i : Int)
    have hl' : LstP n y (i + 1) (putK mf (.int (q i 0).n) (some (.int (i : Int)))) := fun v => by
      by_cases e : v = (q i 0).n
      · subst e
        exact .inr ⟨i, by omega, putK_at _ _ _, hp.symm⟩
      · rw [putK_ne _ _ (show Ky.int v ≠ Ky.int (q i 0).n from fun z => e (Ky.int.inj z))]
        rcases hl v with g | ⟨b, g1, g2, g3⟩
        · exact .inl g
        · exact .inr ⟨b, by omega, g2, g3⟩
    -- the round's end, with the path's new row
    have fin : ∀ c', ∃ s, L7.To ⟨n, x, false, (oE n y i).idxOf (pE n y i) + 1 + 1, appEl oq ((oE n y i).idxOf (pE n y i) + 1) (dtFs [[Dt.int (i : Int)]]), n, w, (n : Int), ((i + 1 : Nat) : Int), ti, n, w, n, q, c', putK mf (.int (q i 0).n) (some (.int (i : Int)))⟩ false s := fun c' =>
      to7 h hx f (i + 1) _ _ c' _ (by omega) hstep hl'
    have ix : ixI on oq (q i 0).n = ((oE n y i).idxOf (pE n y i) : Int) := by rw [hp]; exact e1
    have wx : IntKind.i64.wrap (ixI on oq (q i 0).n + 1) = (((oE n y i).idxOf (pE n y i) + 1 : Nat) : Int) := by rw [ix, wrapI (by omega) (by omega)]; omega
    have g1 : (decide (0 ≤ IntKind.i64.wrap (ixI on oq (q i 0).n + 1)) && (decide (IntKind.i64.wrap (ixI on oq (q i 0).n + 1) ≤ (on : Int)) && decide True)) = true := by
      rw [decide_eq_true (by rw [wx]; omega), decide_eq_true (by rw [wx]; omega), decide_eq_true trivial]; rfl
    have g2 : ((IntKind.i64.wrap (ixI on oq (q i 0).n + 1)).toNat.ble 1000000 && true) = true := by
      rw [wx, Int.toNat_natCast, Nat.ble_eq_true_of_le (by omega)]; rfl
    have g3 : (((IntKind.i64.wrap (ixI on oq (q i 0).n + 1)).toNat + 1).beq ((IntKind.i64.wrap (ixI on oq (q i 0).n + 1)).toNat + 1) && true) = true := by rw [Nat.beq_refl]; rfl
    rcases hl (q i 0).n with hm | ⟨b, b1, b2, b3⟩
    · obtain ⟨s, hs⟩ := fin (c + 1)
      refine ⟨s, on7 ?_ hs⟩
      simp only [rnd7, Int.toNat_natCast]
      rw [condT k1, condT k2, condT (ok21o_of hj), condT (ret21o_of hj)]
      simp only [ho]
      rw [condT (decide_eq_true (by omega)), condT k2, condT (Nat.ble_eq_true_of_le (by omega)), condF (decide_eq_false (by rw [ix]; omega)), condF (by rw [hm]; rfl), condT g1, condT g2, condT g3, wx, Int.toNat_natCast, condF (by rw [hm]; rfl), w1]
    · obtain ⟨s, hs⟩ := fin c
      have hb : b < n := by omega
      have hbf := pE_sib' hn h.good (i := b) (j := i) b1 hin (by rw [b3, hp])
      have hbn : ((mf (Ky.int (q i 0).n)).getD (Dt.int 0)).n.toNat = b := by rw [b2]; rfl
      have hb0 : (decide (0 ≤ Dt.n ((mf (Ky.int (q i 0).n)).getD (Dt.int 0))) && decide (Dt.n ((mf (Ky.int (q i 0).n)).getD (Dt.int 0)) < (n : Int))) = true := by
        rw [b2]
        show (decide (0 ≤ (b : Int)) && decide ((b : Int) < (n : Int))) = true
        rw [decide_eq_true (by omega), decide_eq_true (by omega)]; rfl
      have hwb : w b = nmT (y (kE n y b)) := h.sp b hb
      have hwi : w i = nmT (y (kE n y i)) := h.sp i hin
      have f5 : (w b 5).n = (y (kE n y b) 5).n ∧ (w i 5).n = (y (kE n y i) 5).n ∧ (w b 1).n = (y (kE n y b) 1).n ∧ (w i 1).n = (y (kE n y i) 1).n := by rw [hwb, hwi]; exact ⟨rfl, rfl, rfl, rfl⟩
      unfold bfN at hbf
      refine ⟨s, on7 ?_ hs⟩
      simp only [rnd7, Int.toNat_natCast]
      rw [condT k1, condT k2, condT (ok21o_of hj), condT (ret21o_of hj)]
      simp only [ho]
      rw [condT (decide_eq_true (by omega)), condT k2, condT (Nat.ble_eq_true_of_le (by omega)), condF (decide_eq_false (by rw [ix]; omega)), condT (by rw [b2]; rfl), condT hb0, condF (decide_eq_false (by rw [hbn]; omega))]
      by_cases h5 : (w b 5).n = (w i 5).n
      · rw [condT (by rw [hbn]; exact beq_iff_eq.2 h5), condF (decide_eq_false (by rw [hbn]; omega)), condT g1, condT g2, condT g3, wx, Int.toNat_natCast, condT (by rw [b2]; rfl), w1]
      · rw [condF (by rw [hbn]; exact beq_eq_false_iff_ne.2 h5), condT g1, condT g2, condT g3, wx, Int.toNat_natCast, condT (by rw [b2]; rfl), w1]
end Go.Proofs.Ytfgniheefiefjaa

/- SpantreeOnce's walk. Conditions: none beyond the context's. -/
namespace Go.Proofs.Ytfgniheefiefjaa
open Go.Evl Go.RowKit
theorem lx7 : (mkCx Try.prog (spOf [t16, t17, t27f, t28, iAw]) (inlOf [21, 23, 26]) extD).Ok InvD := cx_of [21, 23, 26] (by kernel_rfl) (by
  intro p hp
  simp only [List.mem_cons, List.not_mem_nil, or_false] at hp
  rcases hp with rfl | rfl | rfl | rfl | rfl
  · exact t16_ok
  · exact t17_ok
  · exact t27f_ok
  · exact t28_ok
  · exact iAw_ok)
set_option maxRecDepth 10000 in
theorem lps21 : LpsOk (mkCx Try.prog (spOf [t16, t17, t27f, t28, iAw]) (inlOf [21, 23, 26]) extD) (callN (mkCx Try.prog (spOf [t16, t17, t27f, t28, iAw]) (inlOf [21, 23, 26]) extD) attD uD 20) [(21, lp21o)] := by
  refine lps_one (cK := cO0) (fun {β} => callK_eq (β := β) Try.prog (spOf [t16, t17, t27f, t28, iAw]) (inlOf [21, 23, 26]) extD attD uD 20) Try.func21 (c := codeOf Try.prog 21) (by kernel_rfl) fun p hp => ?_
  have hl : loops (codeOf Try.prog 21) = [(0, bodyOf Try.prog 21 0)] := by kernel_rfl
  rw [hl, List.mem_singleton] at hp
  subst hp
  exact sum21o
def s7i (n : Nat) (x : Nat → Nat → Dt) (m : Nat) (w q : Nat → Nat → Dt) (ti : Int) : S7 := ⟨n, x, false, 1, dtFs [[Dt.int (-1)]], m, w, (m : Int), 0, ti, m, w, m, q, 0, fun _ => none⟩
theorem lt7 (n : Nat) (x : Nat → Nat → Dt) : (evFnT Try.prog (spOf [t16, t17, t27f, t28, iAw]) (inlOf [21, 23, 26]) extD cO2 lp7 Try.f7 [.isz n SS x] [] (castT .any)).run =
    (bif n.ble 9223372036854775807 && lnB n x then bif glB n x then RB true else bif n.ble 12 && (bdE n x != 0 || okB n x) then bif bdE n x != 0 then bif ((bdN n x : Nat) : Int) == 0 then RB true else RB false else bif ((bdN n x : Nat) : Int) != (n : Int) then RB false else bif ((bdN n x : Nat) : Int) != (n : Int) then RB false else bif ok7 (s7i n x (bdN n x) (bdS n x) (bdP n x) (bdI n x)) then RB true else none else none else none : Option Res) := by kernel_rfl
def l7 : Ent := ⟨7, fun
  | [.isz n [.int .i64, .int .i64, .int .i64, .str, .str, .int .i64, .int .i64, .int .i64, .row [.str, .str], .row [.int .i64, .int .i64]] x] => .chk (okL n x) (.leaf (.ret (.bool true)))
  | _ => .non⟩
theorem law7 {n : Nat} {x : Nat → Nat → Dt} (hb : glB n x = false) (hs : ∀ k, k < n → smV (vE x k)) (h : bdE n x = 0) : bdN n x = n ∧ ∃ s, L7.To (s7i n x n (bdS n x) (bdP n x) (bdI n x)) false s := by
  have hn := (gl_sm hb).1
  obtain ⟨e1, e2⟩ := trW_of hn h
  have hd := (good_of h).2.1
  refine ⟨e1, ?_⟩
  have hrow : ∀ i, i < n → ∃ j, j < n ∧ vE x j = vE (bdS n x) i := fun i hi => by
    obtain ⟨j, hj, e⟩ := toL_mem.1 ((soF_ok n x).2.mem_iff.1 (toL_mem.2 ⟨kE n (soF n x) i, kE_lt hn hi, rfl⟩))
    refine ⟨j, hj, ?_⟩
    rw [← e]
    unfold vE
    rw [e2.sp i hi]
    rfl
  have hto := to7 (ti := bdI n x) e2 (x := x) (fun i hi => by
    obtain ⟨j, hj, e⟩ := hrow i hi
    have hj1 : es2 x j (bdS n x) i = true := es2_of e (hs j hj)
    refine ⟨⟨j, hj, hj1⟩, fun k hk => ?_⟩
    by_cases hc : cpI (x k 0).n (x k 1).n (bdS n x i 0).n (bdS n x i 1).n = 0
    · left
      obtain ⟨c1, c2⟩ := cp_zero.1 hc
      have hv := vE_cell e
      have hjk : k = j := by
        have hdi := dsL_iff.1 hd
        rcases Nat.lt_trichotomy k j with h1 | h1 | h1
        · exact absurd ⟨by rw [c1, hv.1], by rw [c2, hv.2.1]⟩ (hdi k j h1 hj)
        · exact h1
        · exact absurd ⟨by rw [c1, hv.1], by rw [c2, hv.2.1]⟩ (hdi j k h1 hk)
      rw [hjk]; exact hj1
    · right
      have := (gs_len ((gl_sm hb).2 k hk)).2
      exact ⟨by omega, hc⟩) n 0 1 (dtFs [[Dt.int (-1)]]) 0 (fun _ => none) (by omega) ⟨rfl, fun t ht => by
      have : t = 0 := by
        have : t < 1 := ht
        omega
      subst this
      rfl⟩ (fun v => .inl rfl)
  exact hto
set_option maxRecDepth 10000 in
theorem l7_ok : SpecHolds Try.prog InvD 7 fun a => (l7.2 a).run := by
  refine spec_of_evC Try.prog (spOf [t16, t17, t27f, t28, iAw]) (inlOf [21, 23, 26]) extD cO2 (fun {β} => callLK_eq (β := β) Try.prog _ _ _ (callLK_eq (β := β) Try.prog _ _ _ (callK_eq (β := β) Try.prog (spOf [t16, t17, t27f, t28, iAw]) (inlOf [21, 23, 26]) extD attD uD 20) [(21, lp21o)]) [(23, fun _ => .unroll 0)]) lx7 stableD mixedD
    (callLN_sound lx7 stableD mixedD (callLN_sound lx7 stableD mixedD (callN_sound attD_ok lx7 stableD mixedD 20) lps21) lps_unr) Try.func7 (c := codeOf Try.prog 7) (by kernel_rfl) lp7 (fun p hp => by
    have hl : loops (codeOf Try.prog 7) = [(0, bodyOf Try.prog 7 0)] := by kernel_rfl
    rw [hl, List.mem_singleton] at hp
    subst hp
    exact sum7) .any fun args r hh => ?_
  unfold l7 at hh
  simp only at hh
  split at hh
  · rename_i n x
    obtain ⟨hg, hh⟩ := chk_run hh
    refine ⟨by kernel_rfl, ?_⟩
    refine (lt7 n x).trans (Eq.trans ?_ hh)
    have hg' := hg
    unfold okL at hg'
    simp only [Bool.and_eq_true] at hg'
    rw [condT (by rw [hg'.1, hg'.2.1]; rfl)]
    cases hb : glB n x with
    | true => rfl
    | false =>
      rw [cond_false, condT (okL_bd hb)]
      cases e : bdE n x != 0 with
      | true =>
        have h0 : bdN n x = 0 := by
          unfold bdN
          rw [show (bdE n x == 0) = false from beq_eq_false_iff_ne.2 (bne_iff_ne.1 e)]
          rfl
        rw [cond_true, h0]
        rfl
      | false =>
        obtain ⟨e1, s, hs⟩ := law7 hb (okL_ck hg hb).2 (show bdE n x = 0 by simpa using e)
        rw [e1, cond_false, condF (by rw [bne_self_eq_false]), condF (by rw [bne_self_eq_false]), condT (ok7_of hs rfl)]
        rfl
  · simp [Tr.run] at hh
end Go.Proofs.Ytfgniheefiefjaa

/- SpantreeOnce returns true for every input, and its arguments read as they did. No condition. -/
namespace Go.Proofs.Ytfgniheefiefjaa
open Go.ChangeShapes Go.WideShapes Go.ChangeAt Go.RowKit Go.Joins Go.Evl

section
variable {H : Type} {enc : TypeId × Value → H} {w : World} {base b0 : Nat} {spare : Nat → Bool} {held : Bool} {rc : Reach} {v : Value} {d : DataW H} {p : List MemPlace}
set_option maxRecDepth 100000 in
theorem spans_form (hv : Value.okWide Try.prog w rc b0 32 v) (h : DataW.Trod enc Try.prog w base spare held 32 v d p) : ∃ (n : Nat) (x : Nat → Nat → Dt), Rv (Nm.one 0 0) (fun b => b < w.heap.size) w None_ (.isz n SS x) v ∧ okL n x = true := by
  obtain ⟨y, hr, hok⟩ := arg_row (ρ := Nm.one 0 0) (d := 8) (s := SS) (show Try.prog.underlying 32 = some (.slice 25) by kernel_rfl) (by kernel_rfl) (by kernel_rfl) hv h
  refine ⟨y.len, y.el, hr, ?_⟩
  have h1 : y.len ≤ maxLen ∧ ∀ i, i < y.len → ∀ j s, SS[j]? = some s → dtOk 2 s (y.el i j) := hok 3
  unfold okL lnB
  rw [Nat.ble_eq_true_of_le (show y.len ≤ 9223372036854775807 from h1.1), Bool.true_and, Bool.and_eq_true]
  refine ⟨List.all_eq_true.2 fun k hk => ?_, List.all_eq_true.2 fun k hk => ?_⟩
  · have h8 : dtOk 2 (.row SL) (y.el k 8) := h1.2 k (List.mem_range.1 hk) 8 _ rfl
    exact Nat.ble_eq_true_of_le h8.1
  · rw [Bool.and_eq_true]
    have h0 : dtOk 2 (.int .i64) (y.el k 0) := h1.2 k (List.mem_range.1 hk) 0 _ rfl
    have h9 : dtOk 2 (.row SK) (y.el k 9) := h1.2 k (List.mem_range.1 hk) 9 _ rfl
    exact ⟨wf_inI h0, List.all_eq_true.2 fun i hi => wf_inI (h9.2 i (List.mem_range.1 hi) 0 _ rfl)⟩
end
set_option maxRecDepth 100000 in
theorem spantreeOnce_lifted (os : Os) (started : os.Started) (H : Type) (enc : TypeId × Value → H) :
    ReturnsInHanded {} Try.checked os 7 .any (Rows.spantreeOnceSpec.pre6 enc Try.prog Try.f7 Rows.spantreeOnceRow.domain false) (Rows.spantreeOnceSpec.post enc Try.prog Try.f7 false true false false) := by
  refine returnsInHanded_of_change (C := Try.checked) own started (by kernel_rfl) Try.func7
    (ChangeSpec.witness6 (enc := enc) (C := Try.checked) false ⟨#[], #[.slice none 0 0], []⟩ 7 (by kernel_rfl) (by kernel_rfl) (by kernel_rfl) (by kernel_rfl)) ?_
  intro W base args ds gs before hval0 hW _ _
  have hval : ∀ (j : Nat) t v, Try.f7.params[j]? = some t → args[j]? = some v → Value.okWide Try.prog W .any base t v := hval0
  have hW' := hW
  obtain ⟨p, q, hA0, hV, rfl, hfz, hnd⟩ := hW
  have hA : DataW.TrodAll enc Try.prog W 0 (fun _ => true) true Try.f7.params.toList args.toList ds p := hA0
  rw [Try.params7] at hA hval
  obtain ⟨u0, d0, rfl, rfl, h0⟩ := trodAll_one hA
  obtain ⟨rfl, rfl⟩ := trodVars_none hV
  have hlt0 : ∀ x ∈ p, x.block < W.heap.size := fun x hx => by simpa using hW'.lt x (by simp [hx])
  obtain ⟨n, x, rv0, g0⟩ := spans_form (hval 0 32 u0 rfl rfl) h0
  clear hA0 hval0
  have hrun : (l7.2 [.isz n SS x]).run = some (.ret (.bool true)) := by
    show (Tr.chk (okL n x) (Tr.leaf (Res.ret (AV.bool true)))).run = _
    rw [g0]; rfl
  refine (l7_ok _ (.ret (.bool true)) hrun (Nm.one 0 0) (fun b => b < W.heap.size) W [u0] (fun _ h => h) trivial (.cons rv0 .nil)).mono fun e W' ⟨hbel, u, he, hu⟩ => ?_
  subst he
  rw [hu.of_bool]
  refine ⟨_, rfl, _, _, _, [], p, [], hW', ?_, ?_, rfl, hbel.frame _, fun h => by cases h⟩
  · exact trodAll_mk1 (shut_bool Try.underlying4 true)
  · exact trodAll_mk1 (below_trod (by kernel_rfl) (of_decide_eq_true (by kernel_rfl)) h0 hbel hlt0)
theorem spantreeOnce_holds : Rows.SpantreeOnceSaid :=
  OpenClaim.holds_of_wide 7 Try.f7 rfl rfl rfl rfl rfl rfl rfl ⟨rfl, rfl, rfl, rfl, rfl⟩ rfl rfl rfl rfl rfl (by kernel_rfl) Try.func7 (by kernel_rfl)
    (of_decide_eq_true (by kernel_rfl)) (by unfold Func.isWrapper; first | (rw [if_pos (by decide +kernel)]; kernel_rfl) | (rw [if_neg (by decide +kernel)]; exact ⟨rfl, rfl⟩))
    (fun os started H enc _ => spantreeOnce_lifted os started H enc)
#print axioms spantreeOnce_holds
end Go.Proofs.Ytfgniheefiefjaa
