/- States, regions in the order of the text, code and its run by the evaluator. No condition. -/
import Derived.Test.YtekkphoingjidaaDoorEvG
import Derived.Deep.LoopGhost
namespace Go.Evl
open Go.RowKit

inductive Ex where
  | normal
  | exit (id : Nat)
  | ret
  | pan
  deriving Inhabited

structure St where
  tm : List AV
  hp : List Ob
  deriving Inhabited

def putA (tm : List AV) (dst : Option Tmp) (v : AV) : List AV :=
  match dst with
  | some d => tm.set d v
  | none => tm

/-- does a guarded operation run? -/
def wantA (ops : Array Oper) (tm : List AV) (o : Oper) : Option Bool :=
  match o.guard with
  | none => some true
  | some (j, want) =>
    match (ops[j]?).bind (·.dst) with
    | none => some false
    | some d => match getT tm d with
      | .bool b => some (b == want)
      | .raw (.tuple _) => some false
      | _ => none

def doPlan (fresh : Nat) (H : List Ob) : Plan → Option (AV × List Ob)
  | .val v => some (v, H)
  | .load id off m ag => match H[id]? with
    | some (.cells cs _) => if Nat.ble (off + m) cs.length then (if ag then some (.agg ((cs.drop off).take m), H) else (cs[off]?).map fun v => (v, H)) else none
    | _ => none
  | .new cs t => if Nat.beq fresh H.length then some (.ptr fresh 0, H ++ [.cells cs t]) else match H[fresh]? with
    | some .free => some (.ptr fresh 0, H.set fresh (.cells cs t))
    | _ => none
  | .store id off cs => match H[id]? with
    | some (.cells bs t) => if Nat.ble (off + cs.length) bs.length then some (.raw undef, H.set id (.cells (seg bs off cs) t)) else none
    | _ => none
  | .spc _ _ (.ret v) => some (v, H)
  | _ => none

abbrev CallF := FuncId → List AV → List Ob → Option (Res × List Ob)

/-- one operation: true and the state behind it, or false: its panic -/
def stepA (Γ : Cx) (cf : CallF) (ops : Array Oper) (i : Nat) (st : St) : Option (Bool × St) :=
  match ops[i]? with
  | none => none
  | some o =>
    match wantA ops st.tm o with
    | none => none
    | some g =>
      bif g then
        match plan Γ (opd st.tm) o.op with
        | none => none
        | some (c, p) =>
          bif c then
            match p with
            | .pan => some (false, st)
            | .spc _ _ .pan => some (false, st)
            | .call f args => match cf f args st.hp with
              | none => none
              | some (.ret v, H) => some (true, ⟨putA st.tm o.dst v, H⟩)
              | some (.pan, H) => some (false, ⟨st.tm, H⟩)
            | p => match doPlan st.hp.length st.hp p with
              | none => none
              | some (v, H) => some (true, ⟨putA st.tm o.dst v, H⟩)
          else none
      else some (true, ⟨putA st.tm o.dst (.raw undef), st.hp⟩)

def runIdx (Γ : Cx) (cf : CallF) (ops : Array Oper) : List Nat → St → Option (Ex × St)
  | [], st => some (.normal, st)
  | i :: rest, st =>
    match stepA Γ cf ops i st with
    | some (true, st') => runIdx Γ cf ops rest st'
    | some (false, st') => some (.pan, st')
    | none => none

inductive LK where
  | sum (keep : List Nat) (f : List AV → List Ob → Option (Ex × List AV × List Ob))
  | unroll (k : Nat)

def iterN (g : St → Option (Ex × St)) : Nat → St → Option (Ex × St)
  | 0, _ => none
  | k + 1, st =>
    match g st with
    | some (.normal, st') => iterN g k st'
    | r => r

def setAll : List AV → List Nat → List AV → List AV
  | tm, i :: is, v :: vs => setAll (tm.set i v) is vs
  | tm, _, _ => tm
def mkF (nt : Nat) (keep : List Nat) (vs : List AV) : List AV := setAll (List.replicate nt .junk) keep vs

def inBlk (id : Nat) : Option (Ex × St) → Option (Ex × St)
  | some (.exit i, st) => if i = id then some (.normal, st) else some (.exit i, st)
  | r => r

/-- a region's run where its order is drawn: given by a parameter -/
abbrev DrawF := Array Oper → St → Option (Ex × St)

def runC (Γ : Cx) (cf : CallF) (df : DrawF) (lp : Nat → LK) : Code → St → Option (Ex × St)
  | .skip, st => some (.normal, st)
  | .region _ ops draw, st => if draw then df ops st else runIdx Γ cf ops (List.range ops.size) st
  | .seq a b, st =>
    match runC Γ cf df lp a st with
    | some (.normal, st') => runC Γ cf df lp b st'
    | r => r
  | .cond c a b, st =>
    match opd st.tm c with
    | .bool t => bif t then runC Γ cf df lp a st else runC Γ cf df lp b st
    | _ => none
  | .block id (.loop body), st =>
    match lp id with
    | .unroll k => inBlk id (iterN (runC Γ cf df lp body) k st)
    | .sum keep f =>
      match f (keep.map (getT st.tm)) st.hp with
      | some (e, vs, H) => inBlk id (some (e, ⟨mkF st.tm.length keep vs, H⟩))
      | none => none
  | .block id c, st => inBlk id (runC Γ cf df lp c st)
  | .exit id, st => some (.exit id, st)
  | .ret, st => some (.ret, st)
  | _, _ => none

def resultA (P : Program) (st : St) : ResultVar → Option AV
  | .tmp t => some (getT st.tm t)
  | .cell a t => match getT st.tm a with
    | .ptr id off => match isAgg? P t, size? P t with
      | some true, some k => (doPlan 0 st.hp (.load id off k true)).map (·.1)
      | some false, some 1 => (doPlan 0 st.hp (.load id off 1 false)).map (·.1)
      | _, _ => none
    | _ => none
def resultsA (P : Program) (st : St) : List ResultVar → Option (List AV)
  | [] => some []
  | r :: rs => match resultA P st r, resultsA P st rs with
    | some v, some vs => some (v :: vs)
    | _, _ => none
def packA : List AV → AV
  | [v] => v
  | vs => .tup vs
def frame0 (fn : Func) (args : List AV) : List AV := args ++ List.replicate (fn.ntmps - args.length) (.raw undef)
/-- what a body's end gives -/
def leaveA (P : Program) (fn : Func) : Option (Ex × St) → Option (Res × List Ob)
  | some (.ret, st) => (resultsA P st fn.results.toList).map fun vs => (.ret (packA vs), st.hp)
  | some (.normal, st) => (resultsA P st fn.results.toList).map fun vs => (.ret (packA vs), st.hp)
  | some (.pan, st) => some (.pan, st.hp)
  | _ => none
def runFn (Γ : Cx) (cf : CallF) (df : DrawF) (lp : Nat → LK) (fn : Func) (args : List AV) (H : List Ob) : Option (Res × List Ob) :=
  match fn.body with
  | some c => leaveA Γ.P fn (runC Γ cf df lp c ⟨frame0 fn args, H⟩)
  | none => none
end Go.Evl
