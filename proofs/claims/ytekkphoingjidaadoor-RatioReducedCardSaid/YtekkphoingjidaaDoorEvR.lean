/- The evaluator in continuation style, for the kernel's own running. No condition. -/
import Derived.Test.YtekkphoingjidaaDoorEvQ
namespace Go.Evl
open Go.RowKit

inductive Tr (α : Type) where
  | non
  | leaf (a : α)
  | node (b : Bool) (x y : Tr α)
def Tr.run {α : Type} : Tr α → Option α
  | .non => none
  | .leaf a => some a
  | .node b x y => bif b then x.run else y.run
def Tr.fold {α β : Type} : Tr α → (α → Option β) → Option β
  | .non, _ => none
  | .leaf a, k => k a
  | .node b x y, k => bif b then x.fold k else y.fold k
theorem Tr.fold_eq {α β : Type} (t : Tr α) (k : α → Option β) : t.fold k = t.run.bind k := by
  induction t with
  | non => rfl
  | leaf a => rfl
  | node b x y hx hy => cases b <;> simp [Tr.fold, Tr.run, hx, hy]

abbrev Sp := FuncId → Option (List AV → Tr Res)
/-- a context by trees -/
def mkCx (P : Program) (sp : Sp) (inl : FuncId → Bool) (ext : FuncId → Option (List AV → Option (Bool × AV))) : Cx := ⟨P, fun f => (sp f).map fun s a => (s a).run, inl, ext⟩

def splitV {β : Type} (v : AV) (k : AV → Option β) : Option β :=
  match v with
  | .bool b => bif b then k (.bool true) else k (.bool false)
  | v => k v
theorem splitV_eq {β : Type} (v : AV) (k : AV → Option β) : splitV v k = k v := by
  cases v <;> try rfl
  rename_i b
  cases b <;> rfl

def wantK {β : Type} (ops : Array Oper) (tm : List AV) (o : Oper) (k : Bool → Option β) : Option β :=
  match o.guard with
  | none => k true
  | some (j, want) =>
    match (ops[j]?).bind (·.dst) with
    | none => k false
    | some d => match getT tm d with
      | .bool b => bif b then k (true == want) else k (false == want)
      | .raw (.tuple _) => k false
      | _ => none
theorem wantK_eq {β : Type} (ops : Array Oper) (tm : List AV) (o : Oper) (k : Bool → Option β) : wantK ops tm o k = (wantA ops tm o).bind k := by
  unfold wantK wantA
  cases o.guard with
  | none => rfl
  | some p =>
    obtain ⟨j, want⟩ := p
    simp only
    cases (ops[j]?).bind (·.dst) with
    | none => rfl
    | some d =>
      simp only
      cases getT tm d with
      | bool b => cases b <;> rfl
      | raw v => cases v <;> rfl
      | _ => rfl

/-- the call of a function with a contract -/
def spcOf (sp : Sp) (x : Operand → AV) (op : Op) : Option (FuncId × (List AV → Tr Res) × List AV) :=
  match op with
  | .call c => match c.callee with
    | .value f => match x f with
      | .fn (.func g) cs => match sp g with
        | some s => some (g, s, c.args.toList.map x ++ cs)
        | none => none
      | _ => none
    | _ => none
  | _ => none
theorem spcOf_plan {P : Program} {sp : Sp} {inl : FuncId → Bool} {ext : FuncId → Option (List AV → Option (Bool × AV))} {x : Operand → AV} {op : Op} {g : FuncId} {s : List AV → Tr Res} {args : List AV}
    (h : spcOf sp x op = some (g, s, args)) : plan (mkCx P sp inl ext) x op = if bnds 0 args then ((s args).run).map fun r => (true, .spc g args r) else none := by
  unfold spcOf at h
  split at h
  · rename_i c
    split at h
    · rename_i f hc
      split at h
      · rename_i g' cs hx
        split at h
        · rename_i s' hs
          simp only [Option.some.injEq, Prod.mk.injEq] at h
          obtain ⟨rfl, rfl, rfl⟩ := h
          simp only [plan, hc, callA, hx, mkCx, hs, Option.map_some]
        · simp at h
      · simp at h
    · simp at h
  · simp at h

/-- calls in place, in continuation style -/
abbrev CallK (β : Type) := FuncId → List AV → List Ob → (Res → List Ob → Option β) → Option β
def CallEq {β : Type} (cK : CallK β) (cf : CallF) : Prop := ∀ f args H k, cK f args H k = (cf f args H).bind fun p => k p.1 p.2

section
variable {β : Type} (P : Program) (sp : Sp) (inl : FuncId → Bool) (ext : FuncId → Option (List AV → Option (Bool × AV))) (cK : CallK β) {cf : CallF}

def evStep (ops : Array Oper) (i : Nat) (st : St) (k : Bool → St → Option β) : Option β :=
  match ops[i]? with
  | none => none
  | some o => wantK ops st.tm o fun g =>
    bif g then
      match spcOf sp (opd st.tm) o.op with
      | some (_, s, args) => bif bnds 0 args then (s args).fold fun r => match r with
          | .ret v => splitV v fun v => k true ⟨putA st.tm o.dst v, st.hp⟩
          | .pan => k false st
        else none
      | none => match plan (mkCx P sp inl ext) (opd st.tm) o.op with
        | none => none
        | some (c, p) =>
          bif c then
            match p with
            | .pan => k false st
            | .spc _ _ .pan => k false st
            | .call f args => cK f args st.hp fun r H => match r with
              | .ret v => splitV v fun v => k true ⟨putA st.tm o.dst v, H⟩
              | .pan => k false ⟨st.tm, H⟩
            | p => match doPlan st.hp.length st.hp p with
              | none => none
              | some (v, H) => splitV v fun v => k true ⟨putA st.tm o.dst v, H⟩
          else none
    else k true ⟨putA st.tm o.dst (.raw undef), st.hp⟩

theorem evStep_eq (hcf : CallEq cK cf) (ops : Array Oper) (i : Nat) (st : St) (k : Bool → St → Option β) :
    evStep P sp inl ext cK ops i st k = (stepA (mkCx P sp inl ext) cf ops i st).bind fun p => k p.1 p.2 := by
  unfold evStep stepA
  cases ops[i]? with
  | none => rfl
  | some o =>
    simp only [wantK_eq]
    cases wantA ops st.tm o with
    | none => rfl
    | some g =>
      simp only [Option.bind_some]
      cases g with
      | false => rfl
      | true =>
        simp only [cond_true]
        cases hs : spcOf sp (opd st.tm) o.op with
        | some q =>
          obtain ⟨g, s, args⟩ := q
          simp only [spcOf_plan hs]
          cases bnds 0 args with
          | false => rfl
          | true =>
            simp only [cond_true, if_true, Tr.fold_eq]
            cases (s args).run with
            | none => rfl
            | some r => cases r <;> simp [splitV_eq, doPlan]
        | none =>
          simp only
          cases plan (mkCx P sp inl ext) (opd st.tm) o.op with
          | none => rfl
          | some cp =>
            obtain ⟨c, p⟩ := cp
            simp only
            cases c with
            | false => rfl
            | true =>
              simp only [cond_true, splitV_eq]
              cases p with
              | call f args =>
                simp only [hcf f args]
                cases cf f args st.hp with
                | none => rfl
                | some rh => obtain ⟨r, H⟩ := rh; cases r <;> rfl
              | pan => rfl
              | spc f args r =>
                cases r with
                | pan => rfl
                | ret v => simp [doPlan]
              | _ => simp only; split <;> simp_all

def evIdx (ops : Array Oper) : List Nat → St → (Ex → St → Option β) → Option β
  | [], st, k => k .normal st
  | i :: rest, st, k => evStep P sp inl ext cK ops i st fun b st' => bif b then evIdx ops rest st' k else k .pan st'
theorem evIdx_eq (hcf : CallEq cK cf) (ops : Array Oper) : ∀ (l : List Nat) (st : St) (k : Ex → St → Option β), evIdx P sp inl ext cK ops l st k = (runIdx (mkCx P sp inl ext) cf ops l st).bind fun p => k p.1 p.2 := by
  intro l
  induction l with
  | nil => intro st k; rfl
  | cons i l ih =>
    intro st k
    simp only [evIdx, runIdx, evStep_eq P sp inl ext cK hcf]
    cases stepA (mkCx P sp inl ext) cf ops i st with
    | none => rfl
    | some p => obtain ⟨b, st'⟩ := p; cases b <;> simp [ih]

def evStepD (ops : Array Oper) (m : Nat) (dead : Bool) (i : Nat) (st : St) (k : Acc → St → Option β) : Option β :=
  match ops[i]? with
  | none => none
  | some o =>
    bif dead then k .dd ⟨putA st.tm o.dst .junk, st.hp⟩
    else wantK ops st.tm o fun g =>
      bif g then
        match spcOf sp (opd st.tm) o.op with
        | some (_, s, args) => bif bnds 0 args then (s args).fold fun r => match r with
            | .ret v => splitV v fun v => k .none ⟨putA st.tm o.dst v, st.hp⟩
            | .pan => k .pn ⟨putA st.tm o.dst .junk, st.hp⟩
          else none
        | none => match plan (mkCx P sp inl ext) (opd st.tm) o.op with
          | none => none
          | some (c, p) =>
            bif c then
              bif isPan p then k .pn ⟨putA st.tm o.dst .junk, st.hp⟩
              else match doPlan (m + i) st.hp p with
                | none => none
                | some (v, H) => splitV v fun v => k (accP (m + i) p) ⟨putA st.tm o.dst v, H⟩
            else none
      else k .none ⟨putA st.tm o.dst (.raw undef), st.hp⟩
theorem evStepD_eq (ops : Array Oper) (m : Nat) (dead : Bool) (i : Nat) (st : St) (k : Acc → St → Option β) :
    evStepD P sp inl ext ops m dead i st k = (stepD (mkCx P sp inl ext) ops m (fun _ => dead) i st).bind fun p => k p.1 p.2 := by
  unfold evStepD stepD kindD
  cases ho : ops[i]? with
  | none => rfl
  | some o =>
    have hd : dstD ops i = o.dst := by simp [dstD, ho]
    cases dead with
    | true => simp [hd]
    | false =>
      simp only [wantK_eq, cond_false, hd]
      cases wantA ops st.tm o with
      | none => rfl
      | some g =>
        simp only [Option.bind_some]
        cases g with
        | false => rfl
        | true =>
          simp only [cond_true]
          cases hs : spcOf sp (opd st.tm) o.op with
          | some q =>
            obtain ⟨g, s, args⟩ := q
            simp only [spcOf_plan hs]
            cases bnds 0 args with
            | false => rfl
            | true =>
              simp only [cond_true, if_true, Tr.fold_eq]
              cases (s args).run with
              | none => rfl
              | some r => cases r <;> simp [splitV_eq, doPlan, accP, isPan]
          | none =>
            simp only
            cases plan (mkCx P sp inl ext) (opd st.tm) o.op with
            | none => rfl
            | some cp =>
              obtain ⟨c, p⟩ := cp
              simp only
              cases c with
              | false => rfl
              | true =>
                simp only [cond_true, splitV_eq]
                cases isPan p with
                | true => rfl
                | false =>
                  simp only [cond_false]
                  cases doPlan (m + i) st.hp p with
                  | none => rfl
                  | some vh => rfl

def evD (ops : Array Oper) (m : Nat) : List Nat → List Nat → St → (List (Nat × Acc) → St → Option β) → Option β
  | [], _, st, k => k [] st
  | i :: rest, bl, st, k => evStepD P sp inl ext ops m (deadNow ops bl i) i st fun a s1 => evD ops m rest (bif isBl a then i :: bl else bl) s1 fun L s2 => k ((i, a) :: L) s2
theorem evD_eq (ops : Array Oper) (m : Nat) : ∀ (l bl : List Nat) (st : St) (k : List (Nat × Acc) → St → Option β),
    evD P sp inl ext ops m l bl st k = (runD (mkCx P sp inl ext) ops m l bl st).bind fun p => k p.1 p.2 := by
  intro l
  induction l with
  | nil => intro bl st k; rfl
  | cons i l ih =>
    intro bl st k
    simp only [evD, runD, evStepD_eq]
    cases stepD (mkCx P sp inl ext) ops m (fun _ => deadNow ops bl i) i st with
    | none => rfl
    | some p =>
      obtain ⟨a, s1⟩ := p
      simp only [Option.bind_some, ih]
      cases runD (mkCx P sp inl ext) ops m l (bif isBl a then i :: bl else bl) s1 with
      | none => rfl
      | some q => rfl

def evDraw (ops : Array Oper) (st : St) (k : Ex → St → Option β) : Option β :=
  bif chkS ops then
    evD P sp inl ext ops st.hp.length (List.range ops.size) [] ⟨st.tm, st.hp ++ List.replicate ops.size .free⟩ fun L s =>
      match endD ops st.hp.length L s with
      | some (e, s') => k e s'
      | none => none
  else none
theorem evDraw_eq (ops : Array Oper) (st : St) (k : Ex → St → Option β) : evDraw P sp inl ext ops st k = (drawF (mkCx P sp inl ext) ops st).bind fun p => k p.1 p.2 := by
  unfold evDraw drawF
  cases chkS ops with
  | false => rfl
  | true =>
    simp only [cond_true, if_true, evD_eq]
    cases runD (mkCx P sp inl ext) ops st.hp.length (List.range ops.size) [] ⟨st.tm, st.hp ++ List.replicate ops.size .free⟩ with
    | none => rfl
    | some q =>
      obtain ⟨L, s⟩ := q
      simp only [Option.bind_some]
      cases endD ops st.hp.length L s with
      | none => rfl
      | some q => rfl

def evN (g : St → (Ex → St → Option β) → Option β) : Nat → St → (Ex → St → Option β) → Option β
  | 0, _, _ => none
  | n + 1, st, k => g st fun e st' => match e with
    | .normal => evN g n st' k
    | e => k e st'
theorem evN_eq {g : St → (Ex → St → Option β) → Option β} {g' : St → Option (Ex × St)} (hg : ∀ st k, g st k = (g' st).bind fun p => k p.1 p.2) : ∀ (n : Nat) (st : St) (k : Ex → St → Option β),
    evN g n st k = (iterN g' n st).bind fun p => k p.1 p.2 := by
  intro n
  induction n with
  | zero => intro st k; rfl
  | succ n ih =>
    intro st k
    simp only [evN, iterN, hg]
    cases g' st with
    | none => rfl
    | some p => obtain ⟨e, st'⟩ := p; cases e <;> simp [ih]

def blkK (id : Nat) (k : Ex → St → Option β) (e : Ex) (st : St) : Option β :=
  match e with
  | .exit i => if i = id then k .normal st else k (.exit i) st
  | e => k e st
theorem blkK_eq (id : Nat) (k : Ex → St → Option β) (x : Option (Ex × St)) : (x.bind fun p => blkK id k p.1 p.2) = (inBlk id x).bind fun p => k p.1 p.2 := by
  cases x with
  | none => rfl
  | some p =>
    obtain ⟨e, st⟩ := p
    cases e <;> simp only [Option.bind_some, blkK, inBlk]
    split <;> rfl

/-- loops' summaries by trees -/
inductive LT where
  | sum (keep : List Nat) (f : List AV → List Ob → Tr (Ex × List AV × List Ob))
  | unroll (k : Nat)
def LT.lk : LT → LK
  | .sum keep f => .sum keep fun vs H => (f vs H).run
  | .unroll k => .unroll k

def evC (lp : Nat → LT) : Code → St → (Ex → St → Option β) → Option β
  | .skip, st, k => k .normal st
  | .region _ ops draw, st, k => bif draw then evDraw P sp inl ext ops st k else evIdx P sp inl ext cK ops (List.range ops.size) st k
  | .seq a b, st, k => evC lp a st fun e st' => match e with
    | .normal => evC lp b st' k
    | e => k e st'
  | .cond c a b, st, k => match opd st.tm c with
    | .bool t => bif t then evC lp a st k else evC lp b st k
    | _ => none
  | .block id (.loop body), st, k => match lp id with
    | .unroll n => evN (fun st k => evC lp body st k) n st (blkK id k)
    | .sum keep f => (f (keep.map (getT st.tm)) st.hp).fold fun p => blkK id k p.1 ⟨mkF st.tm.length keep p.2.1, p.2.2⟩
  | .block id c, st, k => evC lp c st (blkK id k)
  | .exit id, st, k => k (.exit id) st
  | .ret, st, k => k .ret st
  | _, _, _ => none

theorem evC_eq (hcf : CallEq cK cf) (lp : Nat → LT) : ∀ (N : Nat) (c : Code), csz c ≤ N → ∀ (st : St) (k : Ex → St → Option β),
    evC P sp inl ext cK lp c st k = (runC (mkCx P sp inl ext) cf (drawF (mkCx P sp inl ext)) (fun i => (lp i).lk) c st).bind fun p => k p.1 p.2 := by
  intro N
  induction N with
  | zero => intro c h; cases c <;> simp [csz] at h
  | succ N ih =>
    intro c h st k
    cases c with
    | skip => rfl
    | region id ops draw =>
      cases draw <;> simp [evC, runC, evDraw_eq, evIdx_eq P sp inl ext cK hcf]
    | seq a b =>
      simp only [csz] at h
      simp only [evC, runC, ih a (by omega)]
      cases runC (mkCx P sp inl ext) cf (drawF (mkCx P sp inl ext)) (fun i => (lp i).lk) a st with
      | none => rfl
      | some p => obtain ⟨e, st'⟩ := p; cases e <;> simp [ih b (by omega)]
    | cond c a b =>
      simp only [csz] at h
      simp only [evC, runC]
      cases opd st.tm c with
      | bool t => cases t <;> simp [ih a (by omega), ih b (by omega)]
      | _ => rfl
    | block id c =>
      simp only [csz] at h
      cases c with
      | loop body =>
        simp only [csz] at h
        simp only [evC, runC]
        cases hl : lp id with
        | unroll n =>
          show _ = (inBlk id (iterN (runC (mkCx P sp inl ext) cf (drawF (mkCx P sp inl ext)) (fun i => (lp i).lk) body) n st)).bind fun p => k p.1 p.2
          simp only
          rw [evN_eq (g' := runC (mkCx P sp inl ext) cf (drawF (mkCx P sp inl ext)) (fun i => (lp i).lk) body) (fun st k => ih body (by omega) st k), blkK_eq]
        | sum keep f =>
          simp only [LT.lk, Tr.fold_eq]
          generalize f (keep.map (getT st.tm)) st.hp = q
          cases q.run with
          | none => rfl
          | some p =>
            obtain ⟨e, vs, H⟩ := p
            exact blkK_eq id k (some (e, ⟨mkF st.tm.length keep vs, H⟩))
      | skip => exact blkK_eq id k (some (.normal, st))
      | ret => exact blkK_eq id k (some (.ret, st))
      | exit i => exact blkK_eq id k (some (.exit i, st))
      | region i ops d => show evC P sp inl ext cK lp (.region i ops d) st (blkK id k) = _; rw [ih _ (by simp only [csz] at h ⊢; omega), blkK_eq]; rfl
      | seq a b => show evC P sp inl ext cK lp (.seq a b) st (blkK id k) = _; rw [ih _ (by simp only [csz] at h ⊢; omega), blkK_eq]; rfl
      | cond c a b => show evC P sp inl ext cK lp (.cond c a b) st (blkK id k) = _; rw [ih _ (by simp only [csz] at h ⊢; omega), blkK_eq]; rfl
      | block i c => show evC P sp inl ext cK lp (.block i c) st (blkK id k) = _; rw [ih _ (by simp only [csz] at h ⊢; omega), blkK_eq]; rfl
      | _ => rfl
    | exit id => rfl
    | ret => rfl
    | _ => rfl

def endK (fn : Func) (k : Res → List Ob → Option β) (e : Ex) (st : St) : Option β :=
  match leaveA P fn (some (e, st)) with
  | some (r, H) => k r H
  | none => none
def evFn (lp : Nat → LT) (fn : Func) (args : List AV) (H : List Ob) (k : Res → List Ob → Option β) : Option β :=
  match fn.body with
  | some c => evC P sp inl ext cK lp c ⟨frame0 fn args, H⟩ (endK P fn k)
  | none => none
theorem evFn_eq (hcf : CallEq cK cf) (lp : Nat → LT) (fn : Func) (args : List AV) (H : List Ob) (k : Res → List Ob → Option β) :
    evFn P sp inl ext cK lp fn args H k = (runFn (mkCx P sp inl ext) cf (drawF (mkCx P sp inl ext)) (fun i => (lp i).lk) fn args H).bind fun p => k p.1 p.2 := by
  unfold evFn runFn
  cases fn.body with
  | none => rfl
  | some c =>
    simp only [evC_eq P sp inl ext cK hcf lp _ c (Nat.le_refl _)]
    cases runC (mkCx P sp inl ext) cf (drawF (mkCx P sp inl ext)) (fun i => (lp i).lk) c ⟨frame0 fn args, H⟩ with
    | none => rfl
    | some p =>
      obtain ⟨e, st⟩ := p
      show endK P fn k e st = (leaveA P fn (some (e, st))).bind fun p => k p.1 p.2
      unfold endK
      cases leaveA P fn (some (e, st)) with
      | none => rfl
      | some q => rfl
end
end Go.Evl
