/- The plan of an operation out of its operands, and that the operation acts by it. Conditions: the context's contracts hold. -/
import Derived.Test.YtekkphoingjidaaDoorEvC
namespace Go.Evl
open Go.RowKit

def zeroA (P : Program) (t : TypeId) : Option (List AV) := (P.info? t).bind fun i => i.zero.map fun z => z.cells.toList.map ofConst
def placesA (P : Program) : List Field → Option (List (Nat × Nat))
  | [] => some []
  | f :: fs => match size? P f.type, placesA P fs with
    | some k, some r => some ((f.offset, k) :: r)
    | _, _ => none
def fillA (place : Nat → Option (Nat × Nat)) (cells : List AV) : List (Nat × AV) → Option (List AV)
  | [] => some cells
  | (i, v) :: rest =>
    match place i with
    | none => none
    | some (off, k) => if (cellsOf v).length = k && Nat.ble (off + k) cells.length && plainA v then fillA place (seg cells off (cellsOf v)) rest else none
def buildA (P : Program) (t : TypeId) (parts : List (Nat × AV)) : Option AV :=
  match zeroA P t, P.underlying t with
  | some zero, some (.struct fs) => match placesA P fs.toList with
    | some ps => (fillA (fun i => ps[i]?) zero parts).map .agg
    | none => none
  | _, _ => none
def initV (len k : Nat) (zero : Array Value) : List Value := ((Array.range (len * k)).map (zero[· % zero.size]!)).toList
def buildSliceA (P : Program) (t : TypeId) (len : Nat) (parts : List (Nat × AV)) : Option AV :=
  match P.underlying t with
  | some (.slice e) => match size? P e, (P.info? e).bind (·.zero) with
    | some k, some z =>
      if Nat.ble (len * k) 16777216 && !(Nat.beq (len * k) 0) then
        match fillA (fun i => some (i * k, k)) ((initV len k z.cells).map ofConst) parts with
        | some cells => if bnds 0 cells then some (.isl len k fun i => (cells.drop (i * k)).take k) else none
        | none => none
      else none
    | _, _ => none
  | _ => none
def pickA (t : Bool) (a b : AV) : AV :=
  match a, b with
  | .bool p, .bool q => .bool (bif t then p else q)
  | .int k p, .int k' q => if k = k' then .int k (bif t then p else q) else bif t then a else b
  | _, _ => bif t then a else b
def fieldAddrA (P : Program) (s : TypeId) (f : Nat) (x : AV) : Option AV :=
  match P.underlying s with
  | some (.struct fs) => match fs[f]? with
    | some g => match size? P g.type, x with
      | some (_ + 1), .ptr id off => some (.ptr id (off + g.offset))
      | some (_ + 1), .ipt cells => some (.ipt (cells.drop g.offset))
      | _, _ => none
    | none => none
  | _ => none
def fieldA (P : Program) (s : TypeId) (f : Nat) (x : AV) : Option AV :=
  match P.underlying s, x with
  | some (.struct fs), .agg cs => match fs[f]? with
    | some g => partA P g.type cs g.offset
    | none => none
  | _, _ => none
def indexAddrA (P : Program) (t : TypeId) (x i : AV) : Option (Bool × AV) :=
  match P.underlying t, x, i with
  | some (.slice e), .isl len k el, .int _ j => match size? P e with
    | some k' => if k = k' then some (decide (0 ≤ j) && decide (j < (len : Int)), .ipt (el j.toNat)) else none
    | none => none
  | _, _, _ => none
def indexA (P : Program) (t : TypeId) (x i : AV) : Option (Bool × AV) :=
  match P.underlying t, x, i with
  | some .string, .str s, .int _ j => some (decide (0 ≤ j) && decide (j < (s.size : Int)), .int .u8 ((s[j.toNat]?).getD 0).toNat)
  | _, _, _ => none
def loadI (P : Program) (t : TypeId) (cells : List AV) : Option AV :=
  match isAgg? P t, size? P t with
  | some true, some k => if Nat.ble k cells.length then some (.agg (cells.take k)) else none
  | some false, some 1 => cells.head?
  | _, _ => none
def lenA (P : Program) (t : TypeId) (x : AV) : Option AV :=
  match P.underlying t, x with
  | some .string, .str s => some (.int .i64 s.size)
  | some (.slice _), .isl len _ _ => some (.int .i64 len)
  | _, _ => none
def unA (op : UnOp) (x : AV) : Option AV :=
  match op, x with
  | .neg, .int k n => some (.int k (k.wrap (0 - n)))
  | .not, .bool b => some (.bool !b)
  | _, _ => none
def convA (P : Program) (src dst : TypeId) (x : AV) : Option AV :=
  match P.underlying src, P.underlying dst, x with
  | some _, some (.int k), .int _ n => some (.int k (k.wrap n))
  | some _, some .string, .str s => some (.str s)
  | _, _, _ => none
def ifaceA (P : Program) (t : TypeId) (x : AV) : Option AV :=
  match P.underlying t with
  | some (.interface _) => none
  | some _ => some (.iface t x)
  | none => none
def minA : List AV → Option AV
  | [.int k x, .int k' y] => if k = k' then some (.int k (bif decide (y < x) then y else x)) else none
  | _ => none
def maxA : List AV → Option AV
  | [.int k x, .int k' y] => if k = k' then some (.int k (bif decide (y > x) then y else x)) else none
  | _ => none
def callA (Γ : Cx) (f : AV) (args : List AV) : Option (Bool × Plan) :=
  match f with
  | .fn (.func g) cs =>
    match Γ.spec g with
    | some s => if bnds 0 (args ++ cs) then (s (args ++ cs)).map fun r => (true, .spc g (args ++ cs) r) else none
    | none => match Γ.ext g with
      | some s => (s (args ++ cs)).map fun q => (q.1, .val q.2)
      | none => if Γ.inl g then some (true, .call g (args ++ cs)) else none
  | _ => none
def ok1 (v : Option AV) : Option (Bool × Plan) := v.map fun v => (true, .val v)
def ok2 (v : Option (Bool × AV)) : Option (Bool × Plan) := v.map fun v => (v.1, .val v.2)

def plan (Γ : Cx) (x : Operand → AV) (op : Op) : Option (Bool × Plan) :=
  match op with
  | .move y => some (true, .val (x y))
  | .assign y => some (true, .val (x y))
  | .pick c a b => match x c with
    | .bool t => some (true, .val (pickA t (x a) (x b)))
    | _ => none
  | .alloc t => (zeroA Γ.P t).map fun cs => (true, .new cs t)
  | .box t y => if plainA (x y) then some (true, .new (cellsOf (x y)) t) else none
  | .build t ps => ok1 (buildA Γ.P t (ps.toList.map fun p => (p.1, x p.2)))
  | .buildSlice t len ps => ok1 (buildSliceA Γ.P t len (ps.toList.map fun p => (p.1, x p.2)))
  | .load t y => match x y with
    | .ptr id off => match isAgg? Γ.P t, size? Γ.P t with
      | some true, some k => some (true, .load id off k true)
      | some false, some 1 => some (true, .load id off 1 false)
      | _, _ => none
    | .ipt cells => ok1 (loadI Γ.P t cells)
    | _ => none
  | .store t y z => match x y, size? Γ.P t with
    | .ptr id off, some k => if (cellsOf (x z)).length = k && plainA (x z) then some (true, .store id off (cellsOf (x z))) else none
    | _, _ => none
  | .binOp op t y z _ => ok2 (binA Γ.P op t (x y) (x z))
  | .unOp op _ y => ok1 (unA op (x y))
  | .convert s d y => ok1 (convA Γ.P s d (x y))
  | .makeInterface t y => ok1 (ifaceA Γ.P t (x y))
  | .makeFunc f first cap => if first.isEmpty then some (true, .val (.fn f (cap.toList.map x))) else none
  | .fieldAddr s y f => ok1 (fieldAddrA Γ.P s f (x y))
  | .field s y f => ok1 (fieldA Γ.P s f (x y))
  | .indexAddr t y i => ok2 (indexAddrA Γ.P t (x y) (x i))
  | .index t y i => ok2 (indexA Γ.P t (x y) (x i))
  | .extract y i => match x y with
    | .tup cs => ok1 cs[i]?
    | _ => none
  | .call c => match c.callee with
    | .value f => callA Γ (x f) (c.args.toList.map x)
    | .builtin .len => match c.args.toList, c.argTypes[0]? with
      | [y], some t => ok1 (lenA Γ.P t (x y))
      | _, _ => none
    | .builtin .min => ok1 (minA (c.args.toList.map x))
    | .builtin .max => ok1 (maxA (c.args.toList.map x))
    | _ => none
  | .panic y => match x y with
    | .iface _ _ => some (true, .pan)
    | _ => none
  | _ => none

/-- What a context promises. -/
structure Cx.Ok (Γ : Cx) (Inv : World → Prop) : Prop where
  body : ∀ f, (Γ.spec f).isSome = true ∨ Γ.inl f = true → ∃ fn, Γ.P.funcs[f]? = some fn ∧ (fn.name == "runtime.NumGoroutine") = false ∧ fn.body.isNone = false
  ext : ∀ f s, Γ.ext f = some s → ∀ args v, s args = some (true, v) → ∀ ρ A w n vs, Rvs ρ A w n args vs → ∃ u, (callFunc f vs.toArray).run Γ.P w = .ok (.value u) w ∧ Rv ρ A w n v u
  spec : ∀ f s, Γ.spec f = some s → ∀ args r, s args = some r → ∀ ρ A w vs, (∀ b, A b → b < w.heap.size) → Inv w → Rvs ρ A w None_ args vs →
    Calls Γ.P f vs.toArray w fun e w' => Below w.heap.size w w' ∧ match r with
      | .ret v => ∃ u, e = .returned u ∧ Rv ρ (Grow A w w') w' None_ v u
      | .pan => ∃ t u, e = .panicked [{ v := .iface t u, recovered := false }]
end Go.Evl
