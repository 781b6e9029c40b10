/- Calls in place, to a depth; rounds of ranges over functions; a context out of lists. Conditions: the lists' contracts hold. -/
import Derived.Test.YtfgniheefiefjaaXCore2
import Derived.DefersIn
import Derived.RecoverIn
import Derived.WideLaws
import Derived.RangeFuncRecord
import Derived.RangeFuncIn
/- A region whose order is drawn: independent operations commute. No condition. -/
namespace Go.Evl
open Go.RowKit

inductive Acc where
  | none
  | rd (id : Nat)
  | wr (id : Nat)
  | nw (id : Nat)
  | pn
  | dd
  deriving Inhabited
def accP (fresh : Nat) : Plan → Acc
  | .load id _ _ _ => .rd id
  | .store id _ _ => .wr id
  | .new _ _ => .nw fresh
  | .newMap => .nw fresh
  | .mput id _ _ => .wr id
  | .mget id _ _ _ => .rd id
  | .mlen id => .rd id
  | .upd _ _ id _ => .wr id
  | .ver id _ _ _ => .rd id
  | .loadO id _ _ _ _ _ _ _ => .rd id
  | .storeO id _ _ _ _ _ _ => .wr id
  | .app id _ _ _ _ _ _ => .wr id
  | .appN _ _ _ _ => .nw fresh
  | .appF _ _ _ _ _ _ => .nw fresh
  | .newO _ _ _ _ => .nw fresh
  | .newC _ _ _ _ => .nw fresh
  | .vws _ _ id _ => .rd id
  | _ => .none
def memDep : Acc → Acc → Bool
  | .none, _ => false
  | _, .none => false
  | .pn, _ => false
  | _, .pn => false
  | .dd, _ => false
  | _, .dd => false
  | .rd _, .rd _ => false
  | .rd a, .wr b => Nat.beq a b
  | .rd a, .nw b => Nat.beq a b
  | .wr a, .rd b => Nat.beq a b
  | .wr a, .wr b => Nat.beq a b
  | .wr a, .nw b => Nat.beq a b
  | .nw a, .rd b => Nat.beq a b
  | .nw a, .wr b => Nat.beq a b
  | .nw a, .nw b => Nat.beq a b

def isPan : Plan → Bool
  | .pan => true
  | .spc _ _ .pan => true
  | _ => false
/-- what one operation of a drawn region is about: a fixed value, or a plan; dd: the operations that can't come up, as they wait for one that panics -/
inductive Kd where
  | fix (a : Acc) (u : AV)
  | act (p : Plan)
def kindD (Γ : Cx) (ops : Array Oper) (dd : Nat → Bool) (i : Nat) (tm : List AV) : Option Kd :=
  match ops[i]? with
  | none => none
  | some o =>
    bif dd i then some (.fix .dd .junk)
    else match wantA ops tm o with
      | none => none
      | some g =>
        bif g then
          match plan Γ (opd tm) o.op with
          | none => none
          | some (c, p) => bif c then (bif isPan p then some (.fix .pn .junk) else some (.act p)) else none
        else some (.fix .none (.raw undef))
def isDd : Acc → Bool
  | .dd => true
  | _ => false
def isPn : Acc → Bool
  | .pn => true
  | _ => false
def isWr : Acc → Bool
  | .wr _ => true
  | _ => false
def isBl (a : Acc) : Bool := isPn a || isDd a
def dstD (ops : Array Oper) (i : Nat) : Option Tmp := (ops[i]?).bind (·.dst)
/-- one operation of a drawn region: what it touches, and the state behind it -/
def stepD (Γ : Cx) (ops : Array Oper) (m : Nat) (dd : Nat → Bool) (i : Nat) (st : St) : Option (Acc × St) :=
  match kindD Γ ops dd i st.tm with
  | none => none
  | some (.fix a u) => some (a, ⟨putA st.tm (dstD ops i) u, st.hp⟩)
  | some (.act p) =>
    match doPlan (m + i) st.hp p with
    | none => none
    | some (v, H) => some (accP (m + i) p, ⟨putA st.tm (dstD ops i) v, H⟩)

/-- the temporaries that an operation looks at -/
def looks (ops : Array Oper) (o : Oper) : List Tmp := o.looksAt ops
def tempDep (ops : Array Oper) (x y : Oper) : Bool :=
  (match x.dst with
   | some d => (looks ops y).contains d || y.dst == some d
   | none => false) ||
  (match y.dst with
   | some d => (looks ops x).contains d
   | none => false)

section
variable {Γ : Cx} {ops : Array Oper} {m : Nat}

theorem map_congr' {α β : Type} {f g : α → β} : ∀ {l : List α}, (∀ x ∈ l, f x = g x) → l.map f = l.map g := by
  intro l h; exact List.map_congr_left h
theorem plan_congr {x y : Operand → AV} {op : Op} (h : ∀ z ∈ op.operands, x z = y z) : plan Γ x op = plan Γ y op := by
  cases op <;> simp only [Op.operands] at h <;> simp only [plan]
  case build t ps =>
    have : (ps.toList.map fun p => (p.1, x p.2)) = (ps.toList.map fun p => (p.1, y p.2)) := List.map_congr_left fun p hp => by rw [h p.2 (by simp; exact ⟨p.1, by simpa using hp⟩)]
    rw [this]
  case buildSlice t n ps =>
    have : (ps.toList.map fun p => (p.1, x p.2)) = (ps.toList.map fun p => (p.1, y p.2)) := List.map_congr_left fun p hp => by rw [h p.2 (by simp; exact ⟨p.1, by simpa using hp⟩)]
    rw [this]
  case makeFunc f first cap =>
    have : cap.toList.map x = cap.toList.map y := List.map_congr_left fun p hp => h p (by simp at hp ⊢; exact .inr hp)
    rw [this]
  case slice t z lo hi mx =>
    have h0 : x z = y z := h z (by simp)
    have h1 : lo.map x = lo.map y := by
      cases lo with
      | none => rfl
      | some q => simp only [Option.map_some]; rw [h q (by simp)]
    have h2 : hi.map x = hi.map y := by
      cases hi with
      | none => rfl
      | some q => simp only [Option.map_some]; rw [h q (by simp)]
    rw [h0, h1, h2]
    cases mx with
    | none => rfl
    | some q => simp only []; rw [h q (by simp)]
  case call c =>
    obtain ⟨callee, args, ats⟩ := c
    simp only [Call.operands] at h ⊢
    have ha : args.toList.map x = args.toList.map y := List.map_congr_left fun p hp => h p (by simp at hp ⊢; exact .inr hp)
    cases callee with
    | value f =>
      have hf := h f (by simp)
      show callA Γ (x f) (args.toList.map x) = callA Γ (y f) (args.toList.map y)
      rw [hf, ha]
    | invoke r nm => rfl
    | builtin b =>
      cases b <;> simp only [ha]
      case append =>
        split
        · rename_i z z' t t' hz ht
          have h1 : z ∈ args.toList := by rw [hz]; simp
          have h2 : z' ∈ args.toList := by rw [hz]; simp
          rw [h z (by simpa using h1), h z' (by simpa using h2)]
        · rfl
      case len =>
        split
        · rename_i z t hz ht
          have : z ∈ args.toList := by rw [hz]; simp
          rw [h z (by simpa using this)]
        · rfl
  case makeMap t r =>
    cases r with
    | none => rfl
    | some q =>
      have := h q (by simp)
      simp only [this]
  all_goals (first | rfl | (simp only [List.mem_toArray, List.mem_cons, List.not_mem_nil, or_false, forall_eq_or_imp, forall_eq] at h; simp only [h]; done) | (simp at h; simp [h]; done) | skip)

theorem getT_put {tm : List AV} {dst : Option Tmp} {v : AV} {t : Tmp} (h : ∀ d, dst = some d → d ≠ t) : getT (putA tm dst v) t = getT tm t := by
  cases dst with
  | none => rfl
  | some d => simp only [getT, putA]; rw [List.getElem?_set_ne (h d rfl)]
theorem opd_put {tm : List AV} {dst : Option Tmp} {v : AV} {z : Operand} (h : ∀ d, dst = some d → z ≠ .tmp d) : opd (putA tm dst v) z = opd tm z := by
  cases z with
  | tmp t => exact getT_put fun d hd e => h d hd (by rw [e])
  | _ => rfl
theorem putA_comm {tm : List AV} {x y : Option Tmp} {u v : AV} (h : ∀ d, x = some d → y ≠ some d) : putA (putA tm x u) y v = putA (putA tm y v) x u := by
  cases x with
  | none => rfl
  | some d => cases y with
    | none => rfl
    | some e => simp only [putA]; exact List.set_comm _ _ (fun e' => h d rfl (by rw [e']))
theorem looks_op {o : Oper} {t : Tmp} (h : Operand.tmp t ∈ o.op.operands) : t ∈ looks ops o :=
  List.mem_append_left _ (List.mem_filterMap.2 ⟨.tmp t, by simpa using h, rfl⟩)
theorem plan_put {tm : List AV} {o : Oper} {dst : Option Tmp} {v : AV} (h : ∀ d, dst = some d → d ∉ looks ops o) : plan Γ (opd (putA tm dst v)) o.op = plan Γ (opd tm) o.op :=
  plan_congr fun z hz => opd_put fun d hd e => h d hd (looks_op (by rw [← e]; exact hz))
theorem wantA_put {tm : List AV} {o : Oper} {dst : Option Tmp} {v : AV} (h : ∀ d, dst = some d → d ∉ looks ops o) : wantA ops (putA tm dst v) o = wantA ops tm o := by
  unfold wantA
  cases hg : o.guard with
  | none => rfl
  | some jw =>
    obtain ⟨j, want⟩ := jw
    simp only
    cases hd : (ops[j]?).bind (·.dst) with
    | none => rfl
    | some d =>
      simp only
      rw [getT_put fun e he e' => h e he (by subst e'; simp [looks, Oper.looksAt, hg, hd])]

theorem kindD_put {dd : Nat → Bool} {i : Nat} {tm : List AV} {dst : Option Tmp} {v : AV} (h : ∀ o, ops[i]? = some o → ∀ d, dst = some d → d ∉ looks ops o) : kindD Γ ops dd i (putA tm dst v) = kindD Γ ops dd i tm := by
  unfold kindD
  cases ho : ops[i]? with
  | none => rfl
  | some o => simp only [wantA_put (h o ho), plan_put (h o ho)]

theorem newOb_at {f : Nat} {H H1 : List Ob} {o : Ob} {v u : AV} (h : newOb f H o v = some (u, H1)) (hf : f < H.length) : u = v ∧ H[f]? = some .free ∧ H1 = H.set f o := by
  have hb : Nat.beq f H.length = false := by rw [Bool.eq_false_iff]; simp only [ne_eq, Nat.beq_eq]; omega
  simp only [newOb, hb, Bool.false_eq_true, if_false] at h
  split at h
  · rename_i hfr
    simp only [Option.some.injEq, Prod.mk.injEq] at h
    obtain ⟨rfl, rfl⟩ := h
    exact ⟨rfl, hfr, rfl⟩
  · simp at h
theorem newOb_of {f : Nat} {H : List Ob} {o : Ob} {v : AV} (h : H[f]? = some .free) : newOb f H o v = some (v, H.set f o) := by
  have hlt := (List.getElem?_eq_some_iff.1 h).1
  have hb : Nat.beq f H.length = false := by rw [Bool.eq_false_iff]; simp only [ne_eq, Nat.beq_eq]; omega
  simp only [newOb, hb, Bool.false_eq_true, if_false, h]
theorem planO_acc {f : Nat} {H H1 : List Ob} {p : Plan} {c : Bool} {u : AV} (h : planO f H p = some (c, u, H1)) (hf : f < H.length) :
    (∃ id, accP f p = .rd id ∧ H1 = H ∧ ∀ H' : List Ob, H'[id]? = H[id]? → planO f H' p = some (c, u, H')) ∨
      ∃ id o', (accP f p = .wr id ∨ accP f p = .nw id) ∧ H1 = H.set id o' ∧ ∀ H' : List Ob, H'[id]? = H[id]? → planO f H' p = some (c, u, H'.set id o') := by
  have hat : ∀ {H' : List Ob} {id : Nat}, H'[id]? = H[id]? → Evl.ownAt H' id = Evl.ownAt H id := fun e => by unfold Evl.ownAt; rw [e]
  cases p with
  | ver id key ver x =>
    simp only [planO] at h
    left
    refine ⟨id, rfl, ?_, fun H' he => ?_⟩
    · split at h
      · split at h
        · simp only [Option.some.injEq, Prod.mk.injEq] at h; exact h.2.2.symm
        · simp at h
      · split at h
        · split at h
          · simp only [Option.some.injEq, Prod.mk.injEq] at h; exact h.2.2.symm
          · simp at h
        · simp only [Option.some.injEq, Prod.mk.injEq] at h; exact h.2.2.symm
        · split at h
          · simp only [Option.some.injEq, Prod.mk.injEq] at h; exact h.2.2.symm
          · simp at h
        · simp at h
    · simp only [planO, hat he]
      split at h
      · rename_i ho
        split at h
        · rename_i hk
          simp only [Option.some.injEq, Prod.mk.injEq] at h
          obtain ⟨rfl, rfl, _⟩ := h
          simp only [hk, if_true]
        · simp at h
      · rename_i hn
        split at h
        · rename_i ho
          split at h
          · rename_i hk
            simp only [Option.some.injEq, Prod.mk.injEq] at h
            obtain ⟨rfl, rfl, _⟩ := h
            simp only [he.trans ho, hk, if_true]
          · simp at h
        · rename_i ho
          simp only [Option.some.injEq, Prod.mk.injEq] at h
          obtain ⟨rfl, rfl, _⟩ := h
          simp only [he.trans ho]
        · rename_i ho
          split at h
          · rename_i hk
            simp only [Option.some.injEq, Prod.mk.injEq] at h
            obtain ⟨rfl, rfl, _⟩ := h
            simp only [he.trans ho, hk, if_true]
          · simp at h
        · simp at h
  | loadO id key ver idx k off m ag =>
    simp only [planO] at h
    left
    split at h
    · rename_i sh len el ho
      split at h
      · rename_i hk
        cases ag with
        | true =>
          simp only [if_true, Option.some.injEq, Prod.mk.injEq] at h
          obtain ⟨rfl, rfl, rfl⟩ := h
          exact ⟨id, rfl, rfl, fun H' he => by simp only [planO, hat he, ho, hk, if_true]⟩
        | false =>
          simp only [Bool.false_eq_true, if_false] at h
          obtain ⟨x, hx, h2⟩ := Option.map_eq_some_iff.1 h
          simp only [Prod.mk.injEq] at h2
          obtain ⟨rfl, rfl, rfl⟩ := h2
          exact ⟨id, rfl, rfl, fun H' he => by simp only [planO, hat he, ho, hk, if_true, Bool.false_eq_true, if_false, hx, Option.map_some]⟩
      · simp at h
    · rename_i hn
      split at h
      · rename_i ho
        split at h
        · rename_i hk
          cases ag with
          | true =>
            simp only [if_true, Option.some.injEq, Prod.mk.injEq] at h
            obtain ⟨rfl, rfl, rfl⟩ := h
            exact ⟨id, rfl, rfl, fun H' he => by simp only [planO, hat he, hn, he.trans ho, hk, if_true]⟩
          | false =>
            simp only [Bool.false_eq_true, if_false] at h
            obtain ⟨x, hx, h2⟩ := Option.map_eq_some_iff.1 h
            simp only [Prod.mk.injEq] at h2
            obtain ⟨rfl, rfl, rfl⟩ := h2
            exact ⟨id, rfl, rfl, fun H' he => by simp only [planO, hat he, hn, he.trans ho, hk, if_true, Bool.false_eq_true, if_false, hx, Option.map_some]⟩
        · simp at h
      · rename_i ho
        split at h
        · rename_i hk
          cases ag with
          | true =>
            simp only [if_true, Option.some.injEq, Prod.mk.injEq] at h
            obtain ⟨rfl, rfl, rfl⟩ := h
            exact ⟨id, rfl, rfl, fun H' he => by simp only [planO, hat he, hn, he.trans ho, hk, if_true]⟩
          | false =>
            simp only [Bool.false_eq_true, if_false] at h
            obtain ⟨x, hx, h2⟩ := Option.map_eq_some_iff.1 h
            simp only [Prod.mk.injEq] at h2
            obtain ⟨rfl, rfl, rfl⟩ := h2
            exact ⟨id, rfl, rfl, fun H' he => by simp only [planO, hat he, hn, he.trans ho, hk, if_true, Bool.false_eq_true, if_false, hx, Option.map_some]⟩
        · simp at h
      · rename_i ho
        split at h
        · rename_i hk
          simp only [Option.some.injEq, Prod.mk.injEq] at h
          obtain ⟨rfl, rfl, rfl⟩ := h
          exact ⟨id, rfl, rfl, fun H' he => by simp only [planO, hat he, hn, he.trans ho, hk, if_true]⟩
        · simp at h
      · simp at h
  | storeO id key ver idx k off cs =>
    simp only [planO] at h
    right
    split at h
    · rename_i t sh len el ho
      split at h
      · rename_i hk
        obtain ⟨ds, hds, h2⟩ := Option.map_eq_some_iff.1 h
        simp only [Prod.mk.injEq] at h2
        obtain ⟨rfl, rfl, rfl⟩ := h2
        exact ⟨id, _, .inl rfl, rfl, fun H' he => by simp only [planO, he, ho, hk, if_true, hds, Option.map_some]⟩
      · simp at h
    · rename_i t k' len bs ho
      split at h
      · rename_i hk
        simp only [Option.some.injEq, Prod.mk.injEq] at h
        obtain ⟨rfl, rfl, rfl⟩ := h
        exact ⟨id, _, .inl rfl, rfl, fun H' he => by simp only [planO, he, ho, hk, if_true]⟩
      · simp at h
    · rename_i ho
      split at h
      · rename_i hk
        split at h
        · simp only [Option.some.injEq, Prod.mk.injEq] at h
          obtain ⟨rfl, rfl, rfl⟩ := h
          exact ⟨id, _, .inl rfl, rfl, fun H' he => by simp only [planO, he, ho, hk, if_true]⟩
        · simp at h
      · simp at h
    · simp at h
  | app id key ver t sh m el =>
    simp only [planO] at h
    right
    split at h
    · rename_i ho
      split at h
      · rename_i hk
        simp only [Option.some.injEq, Prod.mk.injEq] at h
        obtain ⟨rfl, rfl, rfl⟩ := h
        exact ⟨id, _, .inl rfl, rfl, fun H' he => by simp only [planO, he, ho, hk, if_true]⟩
      · simp at h
    · rename_i ho
      split at h
      · rename_i hk
        simp only [Option.some.injEq, Prod.mk.injEq] at h
        obtain ⟨rfl, rfl, rfl⟩ := h
        exact ⟨id, _, .inl rfl, rfl, fun H' he => by simp only [planO, he, ho, hk, if_true]⟩
      · simp at h
    · simp at h
  | appF t sh len el0 m el =>
    simp only [planO] at h
    right
    obtain ⟨q, hq, h2⟩ := Option.map_eq_some_iff.1 h
    simp only [Prod.mk.injEq] at h2
    obtain ⟨rfl, rfl⟩ := h2
    obtain ⟨rfl, hfr, rfl⟩ := newOb_at hq hf
    refine ⟨f, _, .inr rfl, rfl, fun H' he => ?_⟩
    simp only [planO, newOb_of (he.trans hfr), Option.map_some]
  | appN t sh m el =>
    simp only [planO] at h
    right
    obtain ⟨q, hq, h2⟩ := Option.map_eq_some_iff.1 h
    simp only [Prod.mk.injEq] at h2
    obtain ⟨rfl, rfl⟩ := h2
    obtain ⟨rfl, hfr, rfl⟩ := newOb_at hq hf
    refine ⟨f, _, .inr rfl, rfl, fun H' he => ?_⟩
    simp only [planO, newOb_of (he.trans hfr), Option.map_some]
  | newO t sh len el =>
    simp only [planO] at h
    right
    obtain ⟨q, hq, h2⟩ := Option.map_eq_some_iff.1 h
    simp only [Prod.mk.injEq] at h2
    obtain ⟨rfl, rfl⟩ := h2
    obtain ⟨rfl, hfr, rfl⟩ := newOb_at hq hf
    refine ⟨f, _, .inr rfl, rfl, fun H' he => ?_⟩
    simp only [planO, newOb_of (he.trans hfr), Option.map_some]
  | newC t k len cs =>
    simp only [planO] at h
    right
    obtain ⟨q, hq, h2⟩ := Option.map_eq_some_iff.1 h
    simp only [Prod.mk.injEq] at h2
    obtain ⟨rfl, rfl⟩ := h2
    obtain ⟨rfl, hfr, rfl⟩ := newOb_at hq hf
    refine ⟨f, _, .inr rfl, rfl, fun H' he => ?_⟩
    simp only [planO, newOb_of (he.trans hfr), Option.map_some]
  | _ => simp [planO] at h
theorem planO_doPlan {f : Nat} {H : List Ob} {p : Plan} {q : AV × List Ob} (h : planO f H p = some (true, q)) : doPlan f H p = some q := by rw [doPlan_O h]; rfl
theorem doPlan_kindO {f : Nat} {H H1 : List Ob} {p : Plan} {u : AV} (hp : condO (planO f H p) = some (u, H1)) (hf : f < H.length) :
    (H1 = H ∧ (accP f p = .none ∨ ∃ id, accP f p = .rd id ∧ ∀ (H' : List Ob), H'[id]? = H[id]? → doPlan f H' p = some (u, H')) ∧ (accP f p = .none → ∀ H' : List Ob, doPlan f H' p = some (u, H'))) ∨
      (∃ id o' , (accP f p = .wr id ∨ accP f p = .nw id) ∧ H1 = H.set id o' ∧ ∀ H' : List Ob, H'[id]? = H[id]? → H'.length = H.length → doPlan f H' p = some (u, H'.set id o')) := by
  rcases planO_acc (condO_some hp) hf with ⟨id, h1, h2, h3⟩ | ⟨id, o', h1, h2, h3⟩
  · exact .inl ⟨h2, .inr ⟨id, h1, fun H' he => planO_doPlan (h3 H' he)⟩, fun e => by rw [h1] at e; cases e⟩
  · exact .inr ⟨id, o', h1, h2, fun H' he _ => planO_doPlan (h3 H' he)⟩
theorem view1_at {H H' : List Ob} {i : Nat} (he : H'[i]? = H[i]?) (v : AV) : view1 H' i v = view1 H i v := by
  unfold view1
  cases v <;> simp only [Evl.ownAt, he]
theorem viewL1_at {H H' : List Ob} {i : Nat} (he : H'[i]? = H[i]?) : ∀ cs : List AV, viewL1 H' i cs = viewL1 H i cs
  | [] => rfl
  | c :: cs => by simp only [viewL1, view1_at he, viewL1_at he cs]
theorem viewA_at {H H' : List Ob} {i : Nat} (he : H'[i]? = H[i]?) (v : AV) : viewA H' i v = viewA H i v := by
  unfold viewA
  cases v <;> simp only [viewL1_at he, view1_at he]
theorem viewL_at {H H' : List Ob} {i : Nat} (he : H'[i]? = H[i]?) : ∀ cs : List AV, viewL H' i cs = viewL H i cs
  | [] => rfl
  | c :: cs => by simp only [viewL, viewA_at he, viewL_at he cs]
theorem mgetF_at {H H1 : List Ob} {dk : Dk} {mf : MF} {k z u : AV} {ok : Bool} (H' : List Ob) (h : (mgetF H dk mf k z ok).run = some (u, H1)) : (mgetF H' dk mf k z ok).run = some (u, H') := by
  unfold mgetF at h ⊢
  cases hk : kyOf dk k with
  | none => rw [hk] at h; cases h
  | some key =>
    rw [hk] at h
    simp only at h ⊢
    cases mf with
    | dat s f =>
      simp only [Tr.run] at h ⊢
      cases hf : (f key).isSome <;> rw [hf] at h <;> simp only [cond_true, cond_false, Option.some.injEq, Prod.mk.injEq] at h ⊢ <;> exact ⟨h.1, trivial⟩
    | own rid f =>
      cases z <;> simp only [Tr.run, reduceCtorEq, Option.some.injEq, Prod.mk.injEq] at h ⊢
      exact ⟨h.1, trivial⟩
theorem mputF_at {H H1 : List Ob} {id : Nat} {dk : Dk} {cnt : Nat} {mf : MF} {k v u : AV} (h : (mputF H id dk cnt mf k v).run = some (u, H1)) :
    ∃ o', H1 = H.set id o' ∧ ∀ H' : List Ob, (mputF H' id dk cnt mf k v).run = some (u, H'.set id o') := by
  unfold mputF at h ⊢
  cases hk : kyOf dk k with
  | none => rw [hk] at h; cases h
  | some key =>
    rw [hk] at h
    simp only at h ⊢
    cases mf with
    | dat s f =>
      simp only at h ⊢
      cases hd : dtOf s v with
      | none => rw [hd] at h; cases h
      | some d =>
        rw [hd] at h
        simp only [Tr.run, Option.some.injEq, Prod.mk.injEq] at h ⊢
        exact ⟨_, h.2.symm, fun H' => ⟨h.1, rfl⟩⟩
    | own rid f =>
      cases v <;> simp only [Tr.run, reduceCtorEq] at h ⊢
      rename_i rid' key' ver
      cases hb : Nat.beq rid rid' with
      | false => rw [hb] at h; cases h
      | true =>
        rw [hb] at h
        simp only [cond_true, Tr.run] at h ⊢
        cases hc : kyEq key' key with
        | false => rw [hc] at h; cases h
        | true =>
          rw [hc] at h
          simp only [cond_true, Option.some.injEq, Prod.mk.injEq] at h ⊢
          exact ⟨_, h.2.symm, fun H' => ⟨h.1, rfl⟩⟩
/-- what a plan does to a heap -/
theorem doPlan_kind {f : Nat} {H H1 : List Ob} {p : Plan} {u : AV} (hp : doPlan f H p = some (u, H1)) (hf : f < H.length) :
    (H1 = H ∧ (accP f p = .none ∨ ∃ id, accP f p = .rd id ∧ ∀ (H' : List Ob), H'[id]? = H[id]? → doPlan f H' p = some (u, H')) ∧ (accP f p = .none → ∀ H' : List Ob, doPlan f H' p = some (u, H'))) ∨
      (∃ id o' , (accP f p = .wr id ∨ accP f p = .nw id) ∧ H1 = H.set id o' ∧ ∀ H' : List Ob, H'[id]? = H[id]? → H'.length = H.length → doPlan f H' p = some (u, H'.set id o')) := by
  cases p with
  | val x => simp only [doPlan, Option.some.injEq, Prod.mk.injEq] at hp; obtain ⟨rfl, rfl⟩ := hp; exact .inl ⟨rfl, .inl rfl, fun _ _ => rfl⟩
  | spc ff args q => cases q with
    | ret x => simp only [doPlan, Option.some.injEq, Prod.mk.injEq] at hp; obtain ⟨rfl, rfl⟩ := hp; exact .inl ⟨rfl, .inl rfl, fun _ _ => rfl⟩
    | pan => simp [doPlan, planO, condO] at hp
  | load id off k ag =>
    have hr : ∀ (H' : List Ob), H'[id]? = H[id]? → doPlan f H' (.load id off k ag) = some (u, H') := by
      intro H' he
      simp only [doPlan] at hp ⊢
      rw [he]
      split at hp
      · rename_i cs t ho
        split at hp
        · rename_i hle
          rw [if_pos hle]
          cases ag with
          | true => simp only [if_true, Option.some.injEq, Prod.mk.injEq] at hp ⊢; exact ⟨hp.1, trivial⟩
          | false =>
            simp only [Bool.false_eq_true, if_false] at hp ⊢
            obtain ⟨c, hc, h2⟩ := Option.map_eq_some_iff.1 hp
            simp only [Prod.mk.injEq] at h2
            rw [hc, ← h2.1]; rfl
        · simp at hp
      · simp at hp
    have h1 : H1 = H := by
      simp only [doPlan] at hp
      split at hp
      · split at hp
        · cases ag with
          | true => simp only [if_true, Option.some.injEq, Prod.mk.injEq] at hp; exact hp.2.symm
          | false =>
            simp only [Bool.false_eq_true, if_false] at hp
            obtain ⟨c, hc, h2⟩ := Option.map_eq_some_iff.1 hp
            simp only [Prod.mk.injEq] at h2
            exact h2.2.symm
        · simp at hp
      · simp at hp
    exact .inl ⟨h1, .inr ⟨id, rfl, hr⟩, fun h => by simp [accP] at h⟩
  | mget id k z ok =>
    simp only [doPlan] at hp
    split at hp
    · rename_i es ho
      obtain ⟨q, hq, h2⟩ := Option.map_eq_some_iff.1 hp
      simp only [Prod.mk.injEq] at h2
      obtain ⟨rfl, rfl⟩ := h2
      refine .inl ⟨rfl, .inr ⟨id, rfl, fun H' he => ?_⟩, fun h => by simp [accP] at h⟩
      simp only [doPlan, he, ho, hq, Option.map_some]
    · rename_i dk cnt mf ho
      obtain ⟨rfl, key, hkey, hg⟩ := mgetF_some hp
      refine .inl ⟨rfl, .inr ⟨id, rfl, fun H' he => ?_⟩, fun h => by simp [accP] at h⟩
      simp only [doPlan, he, ho]
      exact mgetF_at H' hp
    · simp at hp
  | mlen id =>
    simp only [doPlan] at hp
    split at hp
    · rename_i es ho
      simp only [Option.some.injEq, Prod.mk.injEq] at hp
      obtain ⟨rfl, rfl⟩ := hp
      exact .inl ⟨rfl, .inr ⟨id, rfl, fun H' he => by simp only [doPlan, he, ho]⟩, fun h => by simp [accP] at h⟩
    · rename_i dk cnt mf ho
      simp only [Option.some.injEq, Prod.mk.injEq] at hp
      obtain ⟨rfl, rfl⟩ := hp
      exact .inl ⟨rfl, .inr ⟨id, rfl, fun H' he => by simp only [doPlan, he, ho]⟩, fun h => by simp [accP] at h⟩
    · simp at hp
  | new cs t =>
    simp only [doPlan] at hp
    obtain ⟨rfl, hfr, rfl⟩ := newOb_at hp hf
    refine .inr ⟨f, .cells cs t, .inr rfl, rfl, fun H' he hl => ?_⟩
    simp only [doPlan]
    exact newOb_of (he.trans hfr)
  | newMap =>
    simp only [doPlan] at hp
    obtain ⟨rfl, hfr, rfl⟩ := newOb_at hp hf
    refine .inr ⟨f, .map [], .inr rfl, rfl, fun H' he hl => ?_⟩
    simp only [doPlan]
    exact newOb_of (he.trans hfr)
  | store id off cs =>
    simp only [doPlan] at hp
    split at hp
    · rename_i bs t ho
      split at hp
      · rename_i hle
        simp only [Option.some.injEq, Prod.mk.injEq] at hp
        obtain ⟨rfl, rfl⟩ := hp
        refine .inr ⟨id, .cells (seg bs off cs) t, .inl rfl, rfl, fun H' he hl => ?_⟩
        simp only [doPlan]
        rw [he, ho]
        simp only [hle, if_true]
      · simp at hp
    · simp at hp
  | mput id k v =>
    simp only [doPlan] at hp
    split at hp
    · rename_i es ho
      obtain ⟨es', hes, h2⟩ := Option.map_eq_some_iff.1 hp
      simp only [Prod.mk.injEq] at h2
      obtain ⟨rfl, rfl⟩ := h2
      refine .inr ⟨id, .map es', .inl rfl, rfl, fun H' he hl => ?_⟩
      simp only [doPlan, he, ho, hes, Option.map_some]
    · rename_i dk cnt mf ho
      obtain ⟨o', rfl, hall⟩ := mputF_at hp
      exact .inr ⟨id, o', .inl rfl, rfl, fun H' he hl => by simp only [doPlan, he, ho]; exact hall H'⟩
    · simp at hp
  | upd ff args id s =>
    simp only [doPlan] at hp
    split at hp
    · rename_i cs t ho
      split at hp
      · rename_i hb
        obtain ⟨q, hq, h2⟩ := Option.bind_eq_some_iff.1 hp
        obtain ⟨cs', rfl, hl, hsv, hsc, rfl⟩ := updEnd_some h2
        refine .inr ⟨id, .cells cs' t, .inl rfl, rfl, fun H' he _ => ?_⟩
        simp only [doPlan, he, ho, hb, if_true, hq, Option.bind_some]
        simp [updEnd, hl, hsv, hsc]
      · simp at hp
    · simp at hp
  | vws ff args id s =>
    simp only [doPlan] at hp
    obtain ⟨as, hv, hs, hsc, rfl⟩ := vwRun_some hp
    refine .inl ⟨rfl, .inr ⟨id, rfl, fun H' he => ?_⟩, fun h => by simp [accP] at h⟩
    simp only [doPlan, viewL_at he, hv, vwRun, cond_true, hs, Option.bind_some, vwEnd, hsc, if_true]
  | call ff args => simp [doPlan, planO, condO] at hp
  | round id args => simp [doPlan, planO, condO] at hp
  | pan => simp [doPlan, planO, condO] at hp
  | ver id key ver x => exact doPlan_kindO (by simpa only [doPlan] using hp) hf
  | loadO id key ver idx k off m ag => exact doPlan_kindO (by simpa only [doPlan] using hp) hf
  | storeO id key ver idx k off cs => exact doPlan_kindO (by simpa only [doPlan] using hp) hf
  | app id key ver t sh m el => exact doPlan_kindO (by simpa only [doPlan] using hp) hf
  | appN t sh m el => exact doPlan_kindO (by simpa only [doPlan] using hp) hf
  | appF t sh len el0 m el => exact doPlan_kindO (by simpa only [doPlan] using hp) hf
  | newO t sh len el => exact doPlan_kindO (by simpa only [doPlan] using hp) hf
  | newC t k len cs => exact doPlan_kindO (by simpa only [doPlan] using hp) hf
/-- what a plan does to a heap: by its touch -/
theorem doPlan_comm {f g : Nat} {H H1 H2 : List Ob} {p q : Plan} {u v : AV} (hp : doPlan f H p = some (u, H1)) (hq : doPlan g H1 q = some (v, H2)) (hm : memDep (accP f p) (accP g q) = false)
    (hf : f < H.length) (hg : g < H.length) :
    ∃ H1', doPlan g H q = some (v, H1') ∧ doPlan f H1' p = some (u, H2) ∧ H1'.length = H.length ∧ H1.length = H.length := by
  have hne : ∀ {a b : Nat}, Nat.beq a b = false → a ≠ b := fun h e => by subst e; simp at h
  rcases doPlan_kind hp hf with ⟨rfl, hp1, hp2⟩ | ⟨id, o', ha, rfl, hp1⟩
  · -- p only reads
    rcases doPlan_kind hq hg with ⟨rfl, hq1, hq2⟩ | ⟨id', o', ha', rfl, hq1⟩
    · exact ⟨H2, hq, hp, rfl, rfl⟩
    · refine ⟨_, hq, ?_, by simp, rfl⟩
      rcases hp1 with h0 | ⟨idp, hrd, hr⟩
      · exact hp2 h0 _
      · refine hr _ ?_
        have : idp ≠ id' := by
          rcases ha' with ha' | ha' <;> (rw [hrd, ha'] at hm; exact hne hm)
        rw [List.getElem?_set_ne (fun e => this e.symm)]
  · -- p writes
    rcases doPlan_kind hq (by simpa using hg) with ⟨rfl, hq1, hq2⟩ | ⟨id', o2, ha', rfl, hq1⟩
    · refine ⟨H, ?_, hp1 H rfl rfl, rfl, by simp⟩
      rcases hq1 with h0 | ⟨idq, hrd, hr⟩
      · exact hq2 h0 _
      · refine hr _ ?_
        have : id ≠ idq := by
          rcases ha with ha | ha <;> (rw [hrd, ha] at hm; exact hne hm)
        rw [List.getElem?_set_ne this]
    · have hn : id ≠ id' := by
        rcases ha with ha | ha <;> rcases ha' with ha' | ha' <;> (rw [ha', ha] at hm; exact hne hm)
      refine ⟨H.set id' o2, hq1 H (by rw [List.getElem?_set_ne hn]) (by simp), ?_, by simp, by simp⟩
      rw [List.set_comm _ _ hn]
      exact hp1 _ (by rw [List.getElem?_set_ne (fun e => hn e.symm)]) (by simp)
end
end Go.Evl

/- A region whose order is drawn, in whatever order: the theorem. Conditions: the context's contracts hold; dependent operations are ordered by the region's edges. -/
namespace Go.Evl
open Go.RowKit

/-- the edges lead from i to x in at most k steps -/
def pathB (ops : Array Oper) : Nat → Nat → Nat → Bool
  | 0, _, _ => false
  | k + 1, i, x => match ops[i]? with
    | none => false
    | some o => o.after.toList.any fun e => Region.binds .any e && (Nat.beq e.on x || (Nat.blt x e.on && pathB ops k e.on x))

/-- a run of some operations, with what each touches -/
inductive RunA (Γ : Cx) (ops : Array Oper) (m : Nat) (dd : Nat → Bool) : List (Nat × Acc) → St → St → Prop
  | nil {s : St} : RunA Γ ops m dd [] s s
  | cons {i : Nat} {a : Acc} {L : List (Nat × Acc)} {s s1 s2 : St} (h : stepD Γ ops m dd i s = some (a, s1)) (t : RunA Γ ops m dd L s1 s2) : RunA Γ ops m dd ((i, a) :: L) s s2

def depB (ops : Array Oper) (x i : Nat × Acc) : Bool :=
  (match ops[x.1]?, ops[i.1]? with
   | some o, some q => tempDep ops o q
   | _, _ => true) || memDep x.2 i.2

section
variable {Γ : Cx} {ops : Array Oper} {m : Nat} {dd : Nat → Bool}

theorem stepD_len {i : Nat} {s s1 : St} {a : Acc} (h : stepD Γ ops m dd i s = some (a, s1)) (hl : m + i < s.hp.length) : s1.hp.length = s.hp.length := by
  unfold stepD at h
  cases hk : kindD Γ ops dd i s.tm with
  | none => simp [hk] at h
  | some kd =>
    simp only [hk] at h
    cases kd with
    | fix a' u => simp only [Option.some.injEq, Prod.mk.injEq] at h; obtain ⟨_, rfl⟩ := h; rfl
    | act p =>
      simp only at h
      cases hd : doPlan (m + i) s.hp p with
      | none => simp [hd] at h
      | some vH =>
        obtain ⟨v, H⟩ := vH
        simp only [hd, Option.some.injEq, Prod.mk.injEq] at h
        obtain ⟨_, rfl⟩ := h
        obtain ⟨_, _, _, _, h5⟩ := doPlan_comm (f := m + i) (g := m + i) (q := .val .junk) (v := .junk) hd rfl (by cases hx : accP (m + i) p <;> rfl) hl hl
        exact h5

theorem step_comm {i j : Nat} {s s1 s2 : St} {a b : Acc} (hi : stepD Γ ops m dd i s = some (a, s1)) (hj : stepD Γ ops m dd j s1 = some (b, s2)) (hd : depB ops (i, a) (j, b) = false)
    (hli : m + i < s.hp.length) (hlj : m + j < s.hp.length) : ∃ s1', stepD Γ ops m dd j s = some (b, s1') ∧ stepD Γ ops m dd i s1' = some (a, s2) := by
  have hoi : ∃ oi, ops[i]? = some oi := by
    cases ho : ops[i]? with
    | none => simp [stepD, kindD, ho] at hi
    | some o => exact ⟨o, rfl⟩
  have hoj : ∃ oj, ops[j]? = some oj := by
    cases ho : ops[j]? with
    | none => simp [stepD, kindD, ho] at hj
    | some o => exact ⟨o, rfl⟩
  obtain ⟨oi, hoi⟩ := hoi
  obtain ⟨oj, hoj⟩ := hoj
  simp only [depB, hoi, hoj, Bool.or_eq_false_iff] at hd
  obtain ⟨ht, hm⟩ := hd
  simp only [tempDep, Bool.or_eq_false_iff] at ht
  obtain ⟨ht1, ht2⟩ := ht
  have hdi : dstD ops i = oi.dst := by simp [dstD, hoi]
  have hdj : dstD ops j = oj.dst := by simp [dstD, hoj]
  have hij : ∀ o, ops[j]? = some o → ∀ d, dstD ops i = some d → d ∉ looks ops o := fun o ho d hd => by
    rw [hoj] at ho; cases ho
    rw [hdi] at hd
    rw [hd] at ht1
    simp only [Bool.or_eq_false_iff] at ht1
    simpa using ht1.1
  have hdd : ∀ d, dstD ops i = some d → dstD ops j ≠ some d := fun d hd => by
    rw [hdi] at hd
    rw [hd] at ht1
    simp only [Bool.or_eq_false_iff] at ht1
    rw [hdj]
    simpa using ht1.2
  have hji : ∀ o, ops[i]? = some o → ∀ d, dstD ops j = some d → d ∉ looks ops o := fun o ho d hd => by
    rw [hoi] at ho; cases ho
    rw [hdj] at hd
    rw [hd] at ht2
    simpa using ht2
  unfold stepD at hi hj
  cases hki : kindD Γ ops dd i s.tm with
  | none => simp [hki] at hi
  | some ki =>
    simp only [hki] at hi
    cases ki with
    | fix a' u =>
      simp only [Option.some.injEq, Prod.mk.injEq] at hi
      obtain ⟨rfl, rfl⟩ := hi
      simp only [kindD_put hij] at hj
      cases hkj : kindD Γ ops dd j s.tm with
      | none => simp [hkj] at hj
      | some kj =>
        simp only [hkj] at hj
        cases kj with
        | fix b' v =>
          simp only [Option.some.injEq, Prod.mk.injEq] at hj
          obtain ⟨rfl, rfl⟩ := hj
          exact ⟨⟨putA s.tm (dstD ops j) v, s.hp⟩, by simp [stepD, hkj], by simp [stepD, kindD_put hji, hki, putA_comm hdd]⟩
        | act q =>
          simp only at hj
          cases hdq : doPlan (m + j) s.hp q with
          | none => simp [hdq] at hj
          | some vH =>
            obtain ⟨v, H⟩ := vH
            simp only [hdq, Option.some.injEq, Prod.mk.injEq] at hj
            obtain ⟨rfl, rfl⟩ := hj
            exact ⟨⟨putA s.tm (dstD ops j) v, H⟩, by simp [stepD, hkj, hdq], by simp [stepD, kindD_put hji, hki, putA_comm hdd]⟩
    | act p =>
      simp only at hi
      cases hdp : doPlan (m + i) s.hp p with
      | none => simp [hdp] at hi
      | some uH =>
        obtain ⟨u, H1⟩ := uH
        simp only [hdp, Option.some.injEq, Prod.mk.injEq] at hi
        obtain ⟨rfl, rfl⟩ := hi
        simp only [kindD_put hij] at hj
        cases hkj : kindD Γ ops dd j s.tm with
        | none => simp [hkj] at hj
        | some kj =>
          simp only [hkj] at hj
          cases kj with
          | fix b' v =>
            simp only [Option.some.injEq, Prod.mk.injEq] at hj
            obtain ⟨rfl, rfl⟩ := hj
            exact ⟨⟨putA s.tm (dstD ops j) v, s.hp⟩, by simp [stepD, hkj], by simp [stepD, kindD_put hji, hki, hdp, putA_comm hdd]⟩
          | act q =>
            simp only at hj
            cases hdq : doPlan (m + j) H1 q with
            | none => simp [hdq] at hj
            | some vH =>
              obtain ⟨v, H2⟩ := vH
              simp only [hdq, Option.some.injEq, Prod.mk.injEq] at hj
              obtain ⟨rfl, rfl⟩ := hj
              obtain ⟨H1', h1, h2, _, _⟩ := doPlan_comm hdp hdq hm hli hlj
              exact ⟨⟨putA s.tm (dstD ops j) v, H1'⟩, by simp [stepD, hkj, h1], by simp [stepD, kindD_put hji, hki, h2, putA_comm hdd]⟩

theorem RunA.front {p : Nat × Acc} {R : List (Nat × Acc)} : ∀ {L : List (Nat × Acc)} {s s' : St}, RunA Γ ops m dd (L ++ p :: R) s s' → (∀ x ∈ L, depB ops x p = false) → (∀ x ∈ L, m + x.1 < s.hp.length) → m + p.1 < s.hp.length →
    RunA Γ ops m dd (p :: (L ++ R)) s s' := by
  intro L
  induction L with
  | nil => intro s s' h _ _ _; exact h
  | cons x L ih =>
    intro s s' h hd hl hp
    cases h with
    | @cons i a _ _ s1 _ hx ht =>
      have hlen := stepD_len hx (hl (i, a) (by simp))
      have h2 := ih ht (fun y hy => hd y (by simp [hy])) (fun y hy => by rw [hlen]; exact hl y (by simp [hy])) (by rw [hlen]; exact hp)
      cases h2 with
      | @cons j b _ _ s2 _ hj ht2 =>
        obtain ⟨s1', k1, k2⟩ := step_comm hx hj (hd (i, a) (by simp)) (hl (i, a) (by simp)) hp
        exact .cons k1 (.cons k2 ht2)
end
end Go.Evl

/- A region whose order is drawn, in whatever order: the theorem's end. Conditions: the context's contracts hold; the program mixes orders. -/
namespace Go.Evl
open Go.RowKit

def deadNow (ops : Array Oper) (bl : List Nat) (i : Nat) : Bool := match ops[i]? with
  | some o => o.after.toList.any fun e => Region.binds .any e && bl.any (Nat.beq e.on)
  | none => false
def runD (Γ : Cx) (ops : Array Oper) (m : Nat) : List Nat → List Nat → St → Option (List (Nat × Acc) × St)
  | [], _, st => some ([], st)
  | i :: rest, bl, st => match stepD Γ ops m (fun _ => deadNow ops bl i) i st with
    | none => none
    | some (a, s1) => match runD Γ ops m rest (bif isBl a then i :: bl else bl) s1 with
      | none => none
      | some (L, s2) => some ((i, a) :: L, s2)
def ddOf (L : List (Nat × Acc)) (i : Nat) : Bool := L.any fun p => Nat.beq p.1 i && isDd p.2
/-- the dead ones wait for one that panics or is dead -/
def chkB (ops : Array Oper) (F : List (Nat × Acc)) : Bool :=
  F.all fun p => !isDd p.2 || (match ops[p.1]? with
    | some o => o.after.toList.any fun e => Region.binds .any e && F.any fun q => Nat.beq q.1 e.on && isBl q.2
    | none => false)
/-- the slots that no operation lays -/
def keepD (ops : Array Oper) (nt : Nat) : List Nat := (List.range nt).filter fun t => !(ops.toList.any fun o => o.dst == some t)
def chkEdges (ops : Array Oper) : Bool :=
  (List.range ops.size).all fun i => match ops[i]? with
    | none => false
    | some o => o.after.toList.all fun e => !Region.binds .any e || Nat.blt e.on i
def tempB (ops : Array Oper) (x i : Nat) : Bool :=
  match ops[x]?, ops[i]? with
  | some o, some q => tempDep ops o q
  | _, _ => true
def chkT (ops : Array Oper) : List Nat → Bool
  | [] => true
  | x :: L => (L.all fun y => !tempB ops x y || pathB ops 4 y x) && chkT ops L
def chkM (ops : Array Oper) : List (Nat × Acc) → Bool
  | [] => true
  | x :: L => (L.all fun y => !memDep x.2 y.2 || pathB ops 4 y.1 x.1) && chkM ops L
def chkS (ops : Array Oper) : Bool := chkEdges ops && chkT ops (List.range ops.size)
def trim : List Ob → List Ob
  | [] => []
  | o :: os => match trim os, o with
    | [], .free => []
    | r, o => o :: r
def trimF (m : Nat) (H : List Ob) : List Ob := H.take m ++ trim (H.drop m)
/-- a drawn region's end: of the run in the order of the text -/
def endD (ops : Array Oper) (m : Nat) (L : List (Nat × Acc)) (s : St) : Option (Ex × St) :=
  if chkM ops L && chkB ops L then
    if L.any (fun p => isPn p.2) then
      if L.any (fun p => isWr p.2) then none
      else match cutBack (keepD ops s.tm.length) m s with
        | some (vs, H) => some (.pan, ⟨mkF s.tm.length (keepD ops s.tm.length) vs, H⟩)
        | none => none
    else some (.normal, ⟨s.tm, trimF m s.hp⟩)
  else none
def drawF (Γ : Cx) : DrawF := fun ops st =>
  if chkS ops then
    match runD Γ ops st.hp.length (List.range ops.size) [] ⟨st.tm, st.hp ++ List.replicate ops.size .free⟩ with
    | none => none
    | some (L, s) => endD ops st.hp.length L s
  else none

section
variable {D : Dx} {Γ : Cx} {Inv : World → Prop} {ops : Array Oper} {m : Nat} {w0 : World} {ρ : Nm} {A : Nat → Prop} {w : World} {r : Option Nat} {n : Nat}

theorem stepD_dd {dd : Nat → Bool} {i : Nat} {s s1 : St} {a : Acc} (h : stepD Γ ops m dd i s = some (a, s1)) : isDd a = dd i := by
  unfold stepD kindD at h
  cases ho : ops[i]? with
  | none => simp [ho] at h
  | some o =>
    simp only [ho] at h
    cases hd : dd i with
    | true => simp only [hd, cond_true, Option.some.injEq, Prod.mk.injEq] at h; obtain ⟨rfl, _⟩ := h; rfl
    | false =>
      simp only [hd, cond_false] at h
      cases hw : wantA ops s.tm o with
      | none => simp [hw] at h
      | some g =>
        simp only [hw] at h
        cases g with
        | false => simp only [cond_false, Option.some.injEq, Prod.mk.injEq] at h; obtain ⟨rfl, _⟩ := h; rfl
        | true =>
          simp only [cond_true] at h
          cases hp : plan Γ (opd s.tm) o.op with
          | none => simp [hp] at h
          | some cp =>
            obtain ⟨c, p⟩ := cp
            simp only [hp] at h
            cases c with
            | false => simp at h
            | true =>
              simp only [cond_true] at h
              cases hpn : isPan p with
              | true => simp only [hpn, cond_true, Option.some.injEq, Prod.mk.injEq] at h; obtain ⟨rfl, _⟩ := h; rfl
              | false =>
                simp only [hpn, cond_false] at h
                cases hdp : doPlan (m + i) s.hp p with
                | none => simp [hdp] at h
                | some vH =>
                  simp only [hdp, Option.some.injEq, Prod.mk.injEq] at h
                  obtain ⟨rfl, _⟩ := h
                  cases p <;> rfl
theorem stepD_congr {dd dd' : Nat → Bool} {i : Nat} (h : dd i = dd' i) (s : St) : stepD Γ ops m dd i s = stepD Γ ops m dd' i s := by
  unfold stepD kindD
  rw [h]
theorem runD_runA : ∀ (l bl : List Nat) {s s2 : St} {L : List (Nat × Acc)}, runD Γ ops m l bl s = some (L, s2) → L.map (·.1) = l ∧ ∀ dd : Nat → Bool, (∀ p ∈ L, dd p.1 = isDd p.2) → RunA Γ ops m dd L s s2 := by
  intro l
  induction l with
  | nil => intro bl s s2 L h; simp only [runD, Option.some.injEq, Prod.mk.injEq] at h; obtain ⟨rfl, rfl⟩ := h; exact ⟨rfl, fun _ _ => .nil⟩
  | cons i l ih =>
    intro bl s s2 L h
    simp only [runD] at h
    split at h
    · simp at h
    · rename_i a s1 h1
      split at h
      · simp at h
      · rename_i L' s2' h2
        simp only [Option.some.injEq, Prod.mk.injEq] at h
        obtain ⟨rfl, rfl⟩ := h
        obtain ⟨k1, k2⟩ := ih _ h2
        refine ⟨by simp [k1], fun dd hdd => .cons ?_ (k2 dd fun p hp => hdd p (by simp [hp]))⟩
        rw [stepD_congr (dd' := fun _ => deadNow ops bl i) (by rw [hdd (i, a) (by simp), stepD_dd h1])]
        exact h1
theorem ddOf_mem {L : List (Nat × Acc)} (hpw : L.Pairwise (fun x y => x.1 < y.1)) {p : Nat × Acc} (hp : p ∈ L) : ddOf L p.1 = isDd p.2 := by
  unfold ddOf
  cases hd : isDd p.2 with
  | true => exact List.any_eq_true.2 ⟨p, hp, by simp [hd]⟩
  | false =>
    rw [List.any_eq_false]
    intro q hq
    simp only [Bool.and_eq_true, Nat.beq_eq, not_and]
    intro he
    have : q = p := by
      induction L with
      | nil => cases hp
      | cons x L ih =>
        have hc := List.pairwise_cons.1 hpw
        rcases List.mem_cons.1 hp with hp | hp <;> rcases List.mem_cons.1 hq with hq | hq
        · rw [hp, hq]
        · have := hc.1 q hq; rw [← hp] at this; omega
        · have := hc.1 p hp; rw [← hq] at this; omega
        · exact ih hc.2 hp hq
    rw [this, hd]; simp

theorem trim_get : ∀ (H : List Ob) (i : Nat) (o : Ob), (trim H)[i]? = some o → H[i]? = some o := by
  intro H
  induction H with
  | nil => intro i o h; simp [trim] at h
  | cons x H ih =>
    intro i o h
    simp only [trim] at h
    split at h
    · simp at h
    · cases i with
      | zero => simpa using h
      | succ i => simpa using ih i o (by simpa using h)
theorem trim_live : ∀ (H : List Ob) (i : Nat) (o : Ob), H[i]? = some o → o.live = true → (trim H)[i]? = some o := by
  intro H
  induction H with
  | nil => intro i o h; simp at h
  | cons x H ih =>
    intro i o h hl
    have hs : ∀ i, H[i]? = some o → (Go.Evl.trim H)[i]? = some o := fun i h => ih i o h hl
    simp only [trim]
    revert hs
    generalize Go.Evl.trim H = T
    intro hs
    split
    · cases i with
      | zero => simp at h; subst h; cases hl
      | succ i => have := hs i (by simpa using h); simp at this
    · cases i with
      | zero => simpa using h
      | succ i => simpa using hs i (by simpa using h)
theorem trimF_get (m : Nat) (H : List Ob) (i : Nat) (o : Ob) (h : (trimF m H)[i]? = some o) : H[i]? = some o := by
  unfold trimF at h
  rcases Nat.lt_or_ge i (H.take m).length with h' | h'
  · rw [List.getElem?_append_left h', List.getElem?_take] at h
    split at h
    · exact h
    · simp at h
  · rw [List.getElem?_append_right h'] at h
    have := trim_get _ _ _ h
    rw [List.getElem?_drop] at this
    have hlt := (List.getElem?_eq_some_iff.1 this).1
    have hl : (H.take m).length = m := by simp; omega
    rw [hl] at this
    rw [hl] at h'
    rw [show m + (i - m) = i by omega] at this
    exact this
theorem trimF_live (m : Nat) (H : List Ob) (i : Nat) (o : Ob) (h : H[i]? = some o) (hl : o.live = true) : (trimF m H)[i]? = some o := by
  have hlt := (List.getElem?_eq_some_iff.1 h).1
  unfold trimF
  rcases Nat.lt_or_ge i m with h' | h'
  · rw [List.getElem?_append_left (by simp; omega), List.getElem?_take, if_pos h', h]
  · have hl' : (H.take m).length = m := by simp; omega
    rw [List.getElem?_append_right (by omega), hl']
    refine trim_live _ _ _ ?_ hl
    rw [List.getElem?_drop, show m + (i - m) = i by omega, h]
theorem trimF_len {m : Nat} {H : List Ob} (h : m ≤ H.length) : m ≤ (trimF m H).length := by unfold trimF; simp; omega
theorem trimF_keep (m : Nat) (H : List Ob) : KeepD H (trimF m H) := fun id h => trimF_live m H id _ h rfl
theorem live_trim {m : Nat} {H : List Ob} {i : Nat} : Live (trimF m H) i ↔ Live H i :=
  ⟨fun ⟨o, h, hl⟩ => ⟨o, trimF_get m H i o h, hl⟩, fun ⟨o, h, hl⟩ => ⟨o, trimF_live m H i o h hl, hl⟩⟩
theorem live_pad {H : List Ob} {k i : Nat} : Live (H ++ List.replicate k .free) i ↔ Live H i := by
  constructor
  · rintro ⟨o, h, hl⟩
    rcases Nat.lt_or_ge i H.length with h' | h'
    · rw [List.getElem?_append_left h'] at h; exact ⟨o, h, hl⟩
    · rw [List.getElem?_append_right h', List.getElem?_replicate] at h
      split at h
      · simp only [Option.some.injEq] at h; subst h; cases hl
      · simp at h
  · rintro ⟨o, h, hl⟩
    have h' := (List.getElem?_eq_some_iff.1 h).1
    exact ⟨o, by rw [List.getElem?_append_left h']; exact h, hl⟩

theorem Mem.pad {H : List Ob} (h : Mem w0 ρ A w H) (k : Nat) : Mem w0 ρ A w (H ++ List.replicate k .free) := by
  have hget : ∀ i o, (H ++ List.replicate k .free)[i]? = some o → H[i]? = some o ∨ o = Ob.free := fun i o ho => by
    rcases Nat.lt_or_ge i H.length with h' | h'
    · rw [List.getElem?_append_left h'] at ho; exact .inl ho
    · rw [List.getElem?_append_right h', List.getElem?_replicate] at ho
      split at ho
      · exact .inr (Option.some.inj ho).symm
      · simp at ho
  refine ⟨⟨fun id o ho => ?_, fun i j o p b hi hj hb hc => ?_⟩, h.bel, h.lt, h.bs⟩
  · rcases hget id o ho with ho' | rfl
    · exact (h.hp.obj id _ ho').map fun x hx => hx.mono (fun _ hi => live_pad.2 hi) (Nle.refl _ _) (fun _ h => h) (fun _ _ => rfl)
    · trivial
  · rcases hget i o hi with hi' | rfl
    · rcases hget j p hj with hj' | rfl
      · exact h.hp.inj i j o p b hi' hj' hb hc
      · exact hc.elim
    · exact hb.elim
theorem Mem.trim {H : List Ob} (h : Mem w0 ρ A w H) (m : Nat) : Mem w0 ρ A w (trimF m H) :=
  ⟨⟨fun id o ho => (h.hp.obj id o (trimF_get m H id o ho)).map fun _x hx => hx.mono (fun _ hi => live_trim.2 hi) (Nle.refl _ _) (fun _ h => h) (fun _ _ => rfl),
    fun i j o p b hi hj => h.hp.inj i j o p b (trimF_get m H i o hi) (trimF_get m H j p hj)⟩, h.bel, h.lt, h.bs⟩
theorem stepD_keepD {dd : Nat → Bool} {i : Nat} {st st' : St} {acc : Acc} (h : stepD Γ ops m dd i st = some (acc, st')) : KeepD st.hp st'.hp := by
  unfold stepD at h
  cases hk : kindD Γ ops dd i st.tm with
  | none => simp [hk] at h
  | some kd =>
    simp only [hk] at h
    cases kd with
    | fix a' u => simp only [Option.some.injEq, Prod.mk.injEq] at h; obtain ⟨_, rfl⟩ := h; exact .refl _
    | act p =>
      simp only at h
      cases hd : doPlan (m + i) st.hp p with
      | none => simp [hd] at h
      | some vH =>
        obtain ⟨v, H⟩ := vH
        simp only [hd, Option.some.injEq, Prod.mk.injEq] at h
        obtain ⟨_, rfl⟩ := h
        exact doPlan_keep hd

theorem stepD_sound {D : Dx} {dd : Nat → Bool} (hΓ : Γ.Ok Inv) (hI : Stable Inv) (h0 : Inv w0) {i : Nat} {st st' : St} {acc : Acc} {a : Act} (hr : Rel D w0 ρ A st a w) (hdd : dd i = false)
    (h : stepD Γ ops m dd i st = some (acc, st')) {K : Act → World → Prop} {Q : Exit → Act → World → Prop}
    (hK : isPn acc = false → ∀ a' w' ρ' A', Ext (Live st.hp) ρ A w (Live st'.hp) ρ' A' w' → Rel D w0 ρ' A' st' a' w' → K a' w')
    (hP : isPn acc = true → ∀ t v w' ρ' A', Ext (Live st.hp) ρ A w (Live st.hp) ρ' A' w' → Rel D w0 ρ' A' st a w' → Q (.panic [{ v := .iface t v, recovered := false }]) a w') :
    wpOpIn (Fr r) n Γ.P ops Q i K a w := by
  unfold stepD kindD at h
  unfold wpOpIn
  cases ho : ops[i]? with
  | none => simp [ho] at h
  | some o =>
    have hdst : dstD ops i = o.dst := by simp [dstD, ho]
    simp only [ho, hdd, cond_false] at h ⊢
    cases hw : wantA ops st.tm o with
    | none => simp [hw] at h
    | some g =>
      simp only [hw] at h
      rw [wantA_ok hr.tm hw]
      cases g with
      | false =>
        simp only [cond_false, Option.some.injEq, Prod.mk.injEq] at h
        obtain ⟨rfl, rfl⟩ := h
        simp only [Bool.false_eq_true, if_false]
        refine ⟨about_fr o a, hK rfl _ _ ρ A (Ext.refl _ _ _ _) ⟨by rw [hdst]; exact put_rel hr.tm o.dst .raw, ?_, hr.mem⟩⟩
        rw [put_defers]; exact hr.df
      | true =>
        simp only [cond_true] at h
        simp only [if_true]
        cases hp : plan Γ (opd st.tm) o.op with
        | none => simp [hp] at h
        | some cp =>
          obtain ⟨c, p⟩ := cp
          simp only [hp] at h
          cases c with
          | false => simp at h
          | true =>
            simp only [cond_true] at h
            have hacts := plan_acts hΓ hr.tm hr.mem.lt hp rfl
            have hnd := plan_noDefer hp
            cases hpn : isPan p with
            | true =>
              simp only [hpn, cond_true, Option.some.injEq, Prod.mk.injEq] at h
              obtain ⟨rfl, rfl⟩ := h
              cases p with
              | pan =>
                obtain ⟨t, v, hrun⟩ := hacts
                refine ⟨about_fr o a, ?_⟩
                rw [Oper.semAt_eq _ _ _ hnd, hrun]
                exact hP rfl t v w ρ A (Ext.refl _ _ _ _) hr
              | spc f args q =>
                cases q with
                | ret v => simp [isPan] at hpn
                | pan =>
                  obtain ⟨s, hs, hq⟩ := plan_spc hp
                  obtain ⟨vs, hv, hrun⟩ := hacts
                  refine ⟨about_fr o a, ?_⟩
                  rw [Oper.semAt_eq _ _ _ hnd, hrun]
                  refine ⟨fun h => by simp [Fence.wide] at h, ?_⟩
                  rw [callsIn_fr]
                  refine (hΓ.spec f s hs args _ hq ρ A w vs hr.mem.lt (hI _ _ h0 hr.mem.bel) hv).mono ?_
                  rintro e w' ⟨hb, t, u, rfl⟩
                  obtain ⟨m1, m2⟩ := hr.mem.grow hb
                  exact hP rfl t u w' _ _ m2 ⟨m2.rvs hr.tm, hr.df, m1⟩
              | _ => simp [isPan] at hpn
            | false =>
              simp only [hpn, cond_false] at h
              cases hd : doPlan (m + i) st.hp p with
              | none => simp [hd] at h
              | some vH =>
                obtain ⟨v, H⟩ := vH
                simp only [hd, Option.some.injEq, Prod.mk.injEq] at h
                obtain ⟨rfl, rfl⟩ := h
                refine doPlan_sound hΓ hI h0 hr.mem hnd hacts hd (fun f args q e => plan_spc (by rw [hp, e])) (fun f args id s e => plan_upd (by rw [hp, e])) (fun f args id s e => plan_vw (by rw [hp, e])) fun u w' ⟨ρ', A', m1, m2, hv⟩ => hK (by cases p <;> rfl) _ _ ρ' A' m2 ⟨by rw [hdst]; exact put_rel (m2.rvs hr.tm) o.dst hv, ?_, m1⟩
                rw [put_defers]; exact hr.df.keep (doPlan_keep hd) m2.nam

def Listed (l : Array Bool) (i : Nat) : Prop := l.getD i false = true
theorem pathB_listed {l : Array Bool} (hc : ∀ j o, Listed l j → ops[j]? = some o → ∀ e ∈ o.after.toList, Region.binds .any e = true → Listed l e.on) : ∀ (k i x : Nat) (o : Oper), ops[i]? = some o →
    (∀ e ∈ o.after.toList, Region.binds .any e = true → Listed l e.on) → pathB ops k i x = true → Listed l x := by
  intro k
  induction k with
  | zero => intro i x o _ _ h; simp [pathB] at h
  | succ k ih =>
    intro i x o ho hp h
    simp only [pathB, ho, List.any_eq_true, Bool.and_eq_true, Bool.or_eq_true, Nat.beq_eq] at h
    obtain ⟨e, he, hb, hx⟩ := h
    have hl := hp e he hb
    rcases hx with hx | ⟨_, hx⟩
    · rw [← hx]; exact hl
    · cases hoe : ops[e.on]? with
      | none => cases k <;> simp [pathB, hoe] at hx
      | some o' => exact ih e.on x o' hoe (fun e' he' hb' => hc e.on o' hl hoe e' he' hb') hx
end
end Go.Evl

/- A region whose order is drawn, in whatever order: the end. Conditions: the context's contracts hold; the program mixes orders. -/
namespace Go.Evl
open Go.RowKit

section
variable {D : Dx} {Γ : Cx} {Inv : World → Prop} {ops : Array Oper} {m : Nat} {w0 : World} {r : Option Nat} {n : Nat}

theorem getD_set_same {l : Array Bool} {i : Nat} {d : Bool} (h : i < l.size) : (l.setIfInBounds i true).getD i d = true := by
  simp [Array.getD, h]
theorem getD_set_other {l : Array Bool} {i j : Nat} {d : Bool} (h : j ≠ i) : (l.setIfInBounds i true).getD j d = l.getD j d := by
  simp only [Array.getD, Array.size_setIfInBounds]
  split
  · rename_i hj
    show (l.setIfInBounds i true)[j]'(by simpa using hj) = l[j]
    rw [Array.getElem_setIfInBounds hj]
    simp [Ne.symm h]
  · rfl

theorem keepO {m i : Nat} {H H1 : List Ob} {p : Plan} {v : AV} (hd : condO (planO (m + i) H p) = some (v, H1)) (hl : m + i < H.length) (hw : isWr (accP (m + i) p) = false) : H1.take m = H.take m := by
  rcases planO_acc (condO_some hd) hl with ⟨id, h1, h2, _⟩ | ⟨id, o', h1, h2, _⟩
  · rw [h2]
  · rcases h1 with h1 | h1
    · rw [h1] at hw; cases hw
    · have : id = m + i := by cases p <;> simp [accP] at h1 <;> exact h1.symm
      rw [h2, this, List.take_set_of_le (by omega)]
theorem stepD_keep {dd : Nat → Bool} {i : Nat} {s s1 : St} {acc : Acc} (h : stepD Γ ops m dd i s = some (acc, s1)) (hw : isWr acc = false) (hl : m + i < s.hp.length) :
    s1.hp.length = s.hp.length ∧ s1.hp.take m = s.hp.take m ∧ s1.tm.length = s.tm.length ∧ ∀ nt, ∀ t ∈ keepD ops nt, getT s1.tm t = getT s.tm t := by
  have hput : ∀ (v : AV) (nt : Nat), ∀ t ∈ keepD ops nt, getT (putA s.tm (dstD ops i) v) t = getT s.tm t := by
    intro v nt t ht
    refine getT_put fun d hd e => ?_
    simp only [keepD, List.mem_filter, Bool.not_eq_true', List.any_eq_false] at ht
    cases ho : ops[i]? with
    | none => simp [dstD, ho] at hd
    | some o =>
      simp only [dstD, ho, Option.bind_some] at hd
      exact ht.2 o (by simpa using Array.mem_of_getElem? ho) (by rw [hd, e]; simp)
  unfold stepD at h
  cases hk : kindD Γ ops dd i s.tm with
  | none => simp [hk] at h
  | some kd =>
    simp only [hk] at h
    cases kd with
    | fix a' u => simp only [Option.some.injEq, Prod.mk.injEq] at h; obtain ⟨_, rfl⟩ := h; exact ⟨rfl, rfl, putA_length _ _ _, hput u⟩
    | act p =>
      simp only at h
      cases hd : doPlan (m + i) s.hp p with
      | none => simp [hd] at h
      | some vH =>
        obtain ⟨v, H⟩ := vH
        have hlen := (doPlan_comm (f := m + i) (g := m + i) (q := .val .junk) (v := .junk) hd rfl (by cases hx : accP (m + i) p <;> rfl) hl hl)
        obtain ⟨_, _, _, _, h5⟩ := hlen
        simp only [hd, Option.some.injEq, Prod.mk.injEq] at h
        obtain ⟨rfl, rfl⟩ := h
        refine ⟨h5, ?_, putA_length _ _ _, hput v⟩
        show H.take m = s.hp.take m
        cases p with
        | val x => simp only [doPlan, Option.some.injEq, Prod.mk.injEq] at hd; obtain ⟨_, rfl⟩ := hd; rfl
        | spc f args q => cases q with
          | ret x => simp only [doPlan, Option.some.injEq, Prod.mk.injEq] at hd; obtain ⟨_, rfl⟩ := hd; rfl
          | pan => simp [doPlan, planO, condO] at hd
        | load id off k ag =>
          simp only [doPlan] at hd
          split at hd
          · split at hd
            · cases ag with
              | true => simp only [if_true, Option.some.injEq, Prod.mk.injEq] at hd; rw [hd.2]
              | false =>
                simp only [Bool.false_eq_true, if_false] at hd
                obtain ⟨c, hc, h2⟩ := Option.map_eq_some_iff.1 hd
                simp only [Prod.mk.injEq] at h2
                rw [h2.2]
            · simp at hd
          · simp at hd
        | new cs t =>
          simp only [doPlan] at hd
          obtain ⟨_, _, rfl⟩ := newOb_at hd hl
          rw [List.take_set_of_le (by omega)]
        | newMap =>
          simp only [doPlan] at hd
          obtain ⟨_, _, rfl⟩ := newOb_at hd hl
          rw [List.take_set_of_le (by omega)]
        | mget id k z ok =>
          simp only [doPlan] at hd
          split at hd
          · obtain ⟨c, hc, h2⟩ := Option.map_eq_some_iff.1 hd
            simp only [Prod.mk.injEq] at h2
            rw [h2.2]
          · obtain ⟨rfl, _⟩ := mgetF_some hd; rfl
          · simp at hd
        | mlen id =>
          simp only [doPlan] at hd
          split at hd
          · simp only [Option.some.injEq, Prod.mk.injEq] at hd; obtain ⟨_, rfl⟩ := hd; rfl
          · simp only [Option.some.injEq, Prod.mk.injEq] at hd; obtain ⟨_, rfl⟩ := hd; rfl
          · simp at hd
        | mput id k v' => simp [accP, isWr] at hw
        | store id off cs => simp [accP, isWr] at hw
        | upd ff args id s => simp [accP, isWr] at hw
        | call ff args => simp [doPlan, planO, condO] at hd
        | round id args => simp [doPlan, planO, condO] at hd
        | pan => simp [doPlan, planO, condO] at hd
        | storeO id key ver idx k off cs => simp [accP, isWr] at hw
        | app id key ver t sh m el => simp [accP, isWr] at hw
        | ver id key ver x => exact keepO (by simpa only [doPlan] using hd) hl hw
        | loadO id key ver idx k off m ag => exact keepO (by simpa only [doPlan] using hd) hl hw
        | appN t sh m el => exact keepO (by simpa only [doPlan] using hd) hl hw
        | appF t sh len el0 m el => exact keepO (by simpa only [doPlan] using hd) hl hw
        | newO t sh len el => exact keepO (by simpa only [doPlan] using hd) hl hw
        | newC t k len cs => exact keepO (by simpa only [doPlan] using hd) hl hw
        | vws ff args id s => obtain ⟨_, _, _, _, rfl⟩ := vwRun_some (by simpa only [doPlan] using hd); rfl
theorem runA_keep {dd : Nat → Bool} : ∀ {L : List (Nat × Acc)} {s s1 : St}, RunA Γ ops m dd L s s1 → (∀ p ∈ L, isWr p.2 = false) → (∀ p ∈ L, m + p.1 < s.hp.length) →
    s1.hp.length = s.hp.length ∧ s1.hp.take m = s.hp.take m ∧ s1.tm.length = s.tm.length ∧ ∀ nt, ∀ t ∈ keepD ops nt, getT s1.tm t = getT s.tm t := by
  intro L
  induction L with
  | nil => intro s s1 h _ _; cases h; exact ⟨rfl, rfl, rfl, fun _ _ _ => rfl⟩
  | cons x L ih =>
    intro s s1 h hw hl
    cases h with
    | @cons i a _ _ s2 _ h1 h2 =>
      obtain ⟨k1, k2, k3, k4⟩ := stepD_keep h1 (hw (i, a) (by simp)) (hl (i, a) (by simp))
      obtain ⟨j1, j2, j3, j4⟩ := ih h2 (fun p hp => hw p (by simp [hp])) (fun p hp => by rw [k1]; exact hl p (by simp [hp]))
      exact ⟨j1.trans k1, j2.trans k2, j3.trans k3, fun nt t ht => (j4 nt t ht).trans (k4 nt t ht)⟩

theorem any_sound {D : Dx} {dd : Nat → Bool} (hΓ : Γ.Ok Inv) (hI : Stable Inv) (h0 : Inv w0) (hE : chkEdges ops = true) {Q : Exit → Act → World → Prop} {sn : St} {F : List (Nat × Acc)} (hB : chkB ops F = true) (hddF : ∀ p ∈ F, dd p.1 = isDd p.2) :
    ∀ (fuel : Nat) (L : List (Nat × Acc)) (s : St) (listed : Array Bool) (a : Act) (w : World) (ρ : Nm) (A : Nat → Prop),
    RunA Γ ops m dd L s sn → L.length = fuel → s.hp.length = m + ops.size → listed.size = ops.size →
    (∀ i, i < ops.size → (listed.getD i true = false ↔ i ∈ L.map (·.1))) →
    (∀ j o, Listed listed j → ops[j]? = some o → ∀ e ∈ o.after.toList, Region.binds .any e = true → Listed listed e.on) →
    L.Pairwise (fun x y => x.1 < y.1) → L.Pairwise (fun x y => depB ops x y = true → pathB ops 4 y.1 x.1 = true) → (∀ x ∈ L, x.1 < ops.size) →
    (∀ p ∈ L, p ∈ F) → (∀ p ∈ F, isBl p.2 = true → p ∈ L) →
    Rel D w0 ρ A s a w → ((∀ p ∈ F, isPn p.2 = false) → ∀ a' w' ρ' A', Ext (Live s.hp) ρ A w (Live sn.hp) ρ' A' w' → Rel D w0 ρ' A' sn a' w' → Q .normal a' w') →
    (∀ p ∈ F, isPn p.2 = true → ∀ L' s' a' w' ρ' A', RunA Γ ops m dd L' s' sn → (∀ q ∈ L', q ∈ F) → s'.hp.length = m + ops.size → Ext (Live s.hp) ρ A w (Live s'.hp) ρ' A' w' → Rel D w0 ρ' A' s' a' w' →
      ∀ t v, Q (.panic [{ v := .iface t v, recovered := false }]) a' w') →
    wpAnyIn (Fr r) n Γ.P .any ops Q fuel listed a w := by
  intro fuel
  induction fuel with
  | zero =>
    intro L s listed a w ρ A hrun hlen hs hl hmem hcl hpw hdp hlt hsub hbl hr hK hP
    have : L = [] := List.length_eq_zero_iff.1 hlen
    subst this
    cases hrun
    refine ⟨?_, hK (fun p hp => ?_) a w ρ A (Ext.refl _ _ _ _) hr⟩
    · rw [List.eq_nil_iff_forall_not_mem]
      intro j hj
      obtain ⟨h1, o, ho, _⟩ := mem_ready.1 hj
      have := (hmem j (Array.getElem?_eq_some_iff.1 ho).1).1 h1
      simp at this
    · cases hpn : isPn p.2 with
      | false => rfl
      | true => have := hbl p hp (by simp [isBl, hpn]); cases this
  | succ fuel ih =>
    intro L s listed a w ρ A hrun hlen hs hl hmem hcl hpw hdp hlt hsub hbl hr hK hP
    refine ⟨fun hnil => ?_, fun i hi => ?_⟩
    · exfalso
      cases L with
      | nil => simp at hlen
      | cons x L =>
        have hx := hlt x (by simp)
        have hin : x.1 ∈ Region.ready .any ops listed := by
          rw [mem_ready]
          refine ⟨(hmem x.1 hx).2 (by simp), ops[x.1], by simp [hx], fun e he hb => ?_⟩
          have hE' := List.all_eq_true.1 hE x.1 (List.mem_range.2 hx)
          simp only [Array.getElem?_eq_getElem hx, List.all_eq_true, Bool.or_eq_true, Bool.not_eq_true'] at hE'
          have := hE' e (by simpa using he)
          rcases this with h | h
          · rw [hb] at h; cases h
          · have hlt' : e.on < x.1 := by simp only [Nat.blt, Nat.ble_eq] at h; omega
            have hes : e.on < ops.size := Nat.lt_trans hlt' hx
            cases hg : listed.getD e.on true with
            | true =>
              have he2 : e.on < listed.size := by rw [hl]; exact hes
              simp only [Array.getD, he2, dite_true] at hg ⊢
              exact hg
            | false =>
              exfalso
              have := (hmem e.on hes).1 hg
              simp only [List.map_cons, List.mem_cons, List.mem_map] at this
              rcases this with h | ⟨y, hy, h⟩
              · omega
              · have := (List.pairwise_cons.1 hpw).1 y hy; omega
        rw [hnil] at hin
        cases hin
    · obtain ⟨h1, oi, ho, hall⟩ := mem_ready.1 hi
      have hio : i < ops.size := (Array.getElem?_eq_some_iff.1 ho).1
      have hmi := (hmem i hio).1 h1
      obtain ⟨⟨i', ai⟩, hp, rfl⟩ := List.mem_map.1 hmi
      obtain ⟨L1, L2, rfl⟩ := List.append_of_mem hp
      simp only at *
      have notListed : ∀ x ∈ L1 ++ (i', ai) :: L2, ¬ Listed listed x.1 := by
        intro x hx hL
        have hxs := hlt x hx
        have := (hmem x.1 hxs).2 (List.mem_map.2 ⟨x, hx, rfl⟩)
        have he2 : x.1 < listed.size := by rw [hl]; exact hxs
        unfold Listed at hL
        simp only [Array.getD, he2, dite_true] at hL this
        rw [hL] at this
        cases this
      have hind : ∀ x ∈ L1, depB ops x (i', ai) = false := by
        intro x hx
        cases hd : depB ops x (i', ai) with
        | false => rfl
        | true =>
          exfalso
          have hpth := (List.pairwise_append.1 hdp).2.2 x hx (i', ai) (by simp) hd
          exact notListed x (by simp [hx]) (pathB_listed (l := listed) hcl 4 i' x.1 oi ho (fun e he hb => by
            have := hall e (by simpa using he) hb
            exact this) hpth)
      have hfr := hrun.front hind (fun x hx => by rw [hs]; have := hlt x (by simp [hx]); omega) (by rw [hs]; simp only; omega)
      have hF := hsub (i', ai) hp
      have hddi : dd i' = false := by
        rw [hddF _ hF]
        cases hd : isDd ai with
        | false => rfl
        | true =>
          exfalso
          have := List.all_eq_true.1 hB (i', ai) hF
          simp only [hd, Bool.not_true, Bool.false_or, ho, List.any_eq_true, Bool.and_eq_true, Nat.beq_eq] at this
          obtain ⟨e, he, hb, q, hq, hqe, hqb⟩ := this
          have hL : Listed listed e.on := hall e (by simpa using he) hb
          exact notListed q (hbl q hq hqb) (hqe ▸ hL)
      cases hfr with
      | @cons _ _ _ _ s1 _ hst ht =>
        refine stepD_sound hΓ hI h0 hr hddi hst (fun hnp a' w' ρ' A' hx hr' => ?_) (fun hpn t v w' ρ' A' hx hr' => ?_)
        case refine_2 =>
          exact hP _ hF hpn _ s a w' ρ' A' hrun hsub hs hx hr' t v
        have hs1 : s1.hp.length = s.hp.length := stepD_len hst (by rw [hs]; omega)
        have hnd : ∀ x ∈ L1 ++ L2, x.1 ≠ i' := by
          intro x hx he
          rcases List.mem_append.1 hx with h | h
          · have := (List.pairwise_append.1 hpw).2.2 x h (i', ai) (by simp); simp only at this; omega
          · have := (List.pairwise_cons.1 (List.pairwise_append.1 hpw).2.1).1 x h; simp only at this; omega
        refine ih (L1 ++ L2) s1 _ a' w' ρ' A' ht (by simp at hlen ⊢; omega) (by rw [hs1]; exact hs) (by simpa using hl) (fun j hj => ?_) (fun j o hL hoj e he hb => ?_) ?_ ?_ (fun x hx => hlt x ?_)
          (fun p hp => hsub p ?_) (fun p hp hb => ?_) hr' (fun hnp' a'' w'' ρ'' A'' hx' hr'' => hK hnp' a'' w'' ρ'' A'' (hx.trans hx') hr'')
          (fun p hp hpn L' s' a'' w'' ρ'' A'' hrun' hsub' hs' hx' hr'' => hP p hp hpn L' s' a'' w'' ρ'' A'' hrun' hsub' hs' (hx.trans hx') hr'')
        · by_cases hji : j = i'
          · subst hji
            rw [getD_set_same (by rw [hl]; exact hio)]
            simp only [Bool.true_eq_false, false_iff, List.mem_map, not_exists, not_and]
            exact fun x hx => hnd x hx
          · rw [getD_set_other hji, hmem j hj]
            simp only [List.map_append, List.map_cons, List.mem_append, List.mem_cons]
            constructor
            · rintro (h | h | h)
              · exact .inl h
              · exact absurd h hji
              · exact .inr h
            · rintro (h | h)
              · exact .inl h
              · exact .inr (.inr h)
        · unfold Listed at hL ⊢
          by_cases hji : j = i'
          · subst hji
            rw [ho] at hoj
            cases hoj
            have := hall e (by simpa using he) hb
            by_cases hei : e.on = j
            · rw [hei]; exact getD_set_same (by rw [hl]; exact hio)
            · rw [getD_set_other hei]; exact this
          · rw [getD_set_other hji] at hL
            have := hcl j o hL hoj e he hb
            unfold Listed at this
            by_cases hei : e.on = i'
            · rw [hei]; exact getD_set_same (by rw [hl]; exact hio)
            · rw [getD_set_other hei]; exact this
        · exact List.Pairwise.sublist (by simp) hpw
        · exact List.Pairwise.sublist (by simp) hdp
        · rcases List.mem_append.1 hx with h | h <;> simp [h]
        · rcases List.mem_append.1 hp with h | h <;> simp [h]
        · have := hbl p hp hb
          simp only [List.mem_append, List.mem_cons] at this ⊢
          rcases this with h | h | h
          · exact .inl h
          · exfalso
            rw [h] at hb
            have hdp' : isDd ai = false := by rw [← hddi, hddF _ hF]
            simp [isBl, hnp, hdp'] at hb
          · exact .inr h

theorem chkM_pw : ∀ {L : List (Nat × Acc)}, chkM ops L = true → L.Pairwise (fun x y => memDep x.2 y.2 = true → pathB ops 4 y.1 x.1 = true) := by
  intro L
  induction L with
  | nil => intro _; exact .nil
  | cons x L ih =>
    intro h
    simp only [chkM, Bool.and_eq_true, List.all_eq_true, Bool.or_eq_true, Bool.not_eq_true'] at h
    refine .cons (fun y hy hd => ?_) (ih h.2)
    rcases h.1 y hy with h | h
    · rw [hd] at h; cases h
    · exact h
theorem chkT_pw : ∀ {L : List Nat}, chkT ops L = true → L.Pairwise (fun x y => tempB ops x y = true → pathB ops 4 y x = true) := by
  intro L
  induction L with
  | nil => intro _; exact .nil
  | cons x L ih =>
    intro h
    simp only [chkT, Bool.and_eq_true, List.all_eq_true, Bool.or_eq_true, Bool.not_eq_true'] at h
    refine .cons (fun y hy hd => ?_) (ih h.2)
    rcases h.1 y hy with h | h
    · rw [hd] at h; cases h
    · exact h

theorem Rel.pad {st : St} {ρ : Nm} {A : Nat → Prop} {a : Act} {w : World} (h : Rel D w0 ρ A st a w) (k : Nat) : Rel D w0 ρ A ⟨st.tm, st.hp ++ List.replicate k .free⟩ a w :=
  ⟨h.tm.mono (fun _ hi => live_pad.2 hi) (Nle.refl _ _) (fun _ h => h) (fun _ _ => rfl), h.df.keep (KeepD.append _ _) (Nle.refl _ _), h.mem.pad k⟩
theorem Rel.trim {st : St} {ρ : Nm} {A : Nat → Prop} {a : Act} {w : World} (h : Rel D w0 ρ A st a w) (m : Nat) : Rel D w0 ρ A ⟨st.tm, trimF m st.hp⟩ a w :=
  ⟨h.tm.mono (fun _ hi => live_trim.2 hi) (Nle.refl _ _) (fun _ h => h) (fun _ _ => rfl), h.df.keep (trimF_keep m _) (Nle.refl _ _), h.mem.trim m⟩
/-- no mark comes up -/
def BackD (H H' : List Ob) : Prop := ∀ id : Nat, H'[id]? = some .dfr → H[id]? = some .dfr
theorem BackD.set {H : List Ob} {i : Nat} {o o' : Ob} (h : H[i]? = some o) (hn : o' ≠ .dfr) : BackD H (H.set i o') := by
  intro id hid
  rw [get_set_eq h] at hid
  by_cases e : id = i
  · rw [if_pos e] at hid; exact absurd (Option.some.inj hid) hn
  · rw [if_neg e] at hid; exact hid
theorem planO_back {f : Nat} {H H' : List Ob} {p : Plan} {v : AV} (h : condO (planO f H p) = some (v, H')) (hf : f < H.length) : BackD H H' := by
  rcases planO_kind (condO_some h) with rfl | ⟨id, o, o', ho, hs, hs', _, rfl⟩ | ⟨o, u, hs, hn⟩
  · exact fun _ h => h
  · exact .set ho (fun e => by rw [e] at hs'; cases hs')
  · obtain ⟨_, hfr, rfl⟩ := newOb_at hn hf
    exact .set hfr (fun e => by rw [e] at hs; cases hs)
theorem doPlan_back {f : Nat} {H H' : List Ob} {p : Plan} {v : AV} (h : doPlan f H p = some (v, H')) (hf : f < H.length) : BackD H H' := by
  cases p with
  | val x => simp only [doPlan, Option.some.injEq, Prod.mk.injEq] at h; obtain ⟨_, rfl⟩ := h; exact fun _ h => h
  | load id off m ag =>
    simp only [doPlan] at h
    split at h
    · split at h
      · split at h
        · simp only [Option.some.injEq, Prod.mk.injEq] at h; obtain ⟨_, rfl⟩ := h; exact fun _ h => h
        · obtain ⟨c, _, h2⟩ := Option.map_eq_some_iff.1 h
          simp only [Prod.mk.injEq] at h2
          obtain ⟨_, rfl⟩ := h2; exact fun _ h => h
      · simp at h
    · simp at h
  | new cs t =>
    simp only [doPlan] at h
    obtain ⟨_, hfr, rfl⟩ := newOb_at h hf
    exact .set hfr (fun e => by cases e)
  | newMap =>
    simp only [doPlan] at h
    obtain ⟨_, hfr, rfl⟩ := newOb_at h hf
    exact .set hfr (fun e => by cases e)
  | store id off cs =>
    simp only [doPlan] at h
    split at h
    · rename_i bs t ho
      split at h
      · simp only [Option.some.injEq, Prod.mk.injEq] at h; obtain ⟨_, rfl⟩ := h; exact .set ho (fun e => by cases e)
      · simp at h
    · simp at h
  | mput id k v =>
    simp only [doPlan] at h
    split at h
    · rename_i es ho
      obtain ⟨c, _, h2⟩ := Option.map_eq_some_iff.1 h
      simp only [Prod.mk.injEq] at h2
      obtain ⟨_, rfl⟩ := h2; exact .set ho (fun e => by cases e)
    · rename_i ho
      obtain ⟨_, key, mf', _, rfl, _⟩ := mputF_some h
      exact .set ho (fun e => by cases e)
    · simp at h
  | mget id k z ok =>
    simp only [doPlan] at h
    split at h
    · obtain ⟨c, _, h2⟩ := Option.map_eq_some_iff.1 h
      simp only [Prod.mk.injEq] at h2
      obtain ⟨_, rfl⟩ := h2; exact fun _ h => h
    · obtain ⟨rfl, _⟩ := mgetF_some h; exact fun _ h => h
    · simp at h
  | mlen id =>
    simp only [doPlan] at h
    split at h
    · simp only [Option.some.injEq, Prod.mk.injEq] at h; obtain ⟨_, rfl⟩ := h; exact fun _ h => h
    · simp only [Option.some.injEq, Prod.mk.injEq] at h; obtain ⟨_, rfl⟩ := h; exact fun _ h => h
    · simp at h
  | upd f args id s =>
    simp only [doPlan] at h
    split at h
    · rename_i cs t ho
      split at h
      · obtain ⟨r, _, h2⟩ := Option.bind_eq_some_iff.1 h
        obtain ⟨cs', _, _, _, _, rfl⟩ := updEnd_some h2
        exact .set ho (fun e => by cases e)
      · simp at h
    · simp at h
  | spc f args q => cases q with
    | ret x => simp only [doPlan, Option.some.injEq, Prod.mk.injEq] at h; obtain ⟨_, rfl⟩ := h; exact fun _ h => h
    | pan => simp [doPlan, planO, condO] at h
  | call f args => simp [doPlan, planO, condO] at h
  | round id args => simp [doPlan, planO, condO] at h
  | pan => simp [doPlan, planO, condO] at h
  | ver id key ver x => exact planO_back (by simpa only [doPlan] using h) hf
  | loadO id key ver idx k off m ag => exact planO_back (by simpa only [doPlan] using h) hf
  | storeO id key ver idx k off cs => exact planO_back (by simpa only [doPlan] using h) hf
  | app id key ver t sh m el => exact planO_back (by simpa only [doPlan] using h) hf
  | appN t sh m el => exact planO_back (by simpa only [doPlan] using h) hf
  | appF t sh len el0 m el => exact planO_back (by simpa only [doPlan] using h) hf
  | newO t sh len el => exact planO_back (by simpa only [doPlan] using h) hf
  | newC t k len cs => exact planO_back (by simpa only [doPlan] using h) hf
  | vws ff args id s => obtain ⟨_, _, _, _, rfl⟩ := vwRun_some (by simpa only [doPlan] using h); exact fun _ h => h
theorem stepD_back {dd : Nat → Bool} {i : Nat} {st st' : St} {acc : Acc} (h : stepD Γ ops m dd i st = some (acc, st')) (hl : m + i < st.hp.length) : BackD st.hp st'.hp := by
  unfold stepD at h
  cases hk : kindD Γ ops dd i st.tm with
  | none => simp [hk] at h
  | some kd =>
    simp only [hk] at h
    cases kd with
    | fix a' u => simp only [Option.some.injEq, Prod.mk.injEq] at h; obtain ⟨_, rfl⟩ := h; exact fun _ h => h
    | act p =>
      simp only at h
      cases hd : doPlan (m + i) st.hp p with
      | none => simp [hd] at h
      | some vH =>
        obtain ⟨v, H⟩ := vH
        simp only [hd, Option.some.injEq, Prod.mk.injEq] at h
        obtain ⟨_, rfl⟩ := h
        exact doPlan_back hd hl
theorem runD_back : ∀ (l bl : List Nat) {s s1 : St} {L : List (Nat × Acc)}, runD Γ ops m l bl s = some (L, s1) → (∀ i ∈ l, m + i < s.hp.length) → BackD s.hp s1.hp ∧ KeepD s.hp s1.hp ∧ s1.hp.length = s.hp.length := by
  intro l
  induction l with
  | nil => intro bl s s1 L h _; simp only [runD, Option.some.injEq, Prod.mk.injEq] at h; obtain ⟨_, rfl⟩ := h; exact ⟨fun _ h => h, .refl _, rfl⟩
  | cons i l ih =>
    intro bl s s1 L h hl
    simp only [runD] at h
    split at h
    · simp at h
    · rename_i a s2 h1
      split at h
      · simp at h
      · rename_i L' s3 h2
        simp only [Option.some.injEq, Prod.mk.injEq] at h
        obtain ⟨_, rfl⟩ := h
        have hlen := stepD_len h1 (hl i (by simp))
        obtain ⟨b1, b2, b3⟩ := ih _ h2 (fun j hj => by rw [hlen]; exact hl j (by simp [hj]))
        exact ⟨fun id h => stepD_back h1 (hl i (by simp)) id (b1 id h), (stepD_keepD h1).trans b2, by rw [b3, hlen]⟩
theorem runA_keepD {dd : Nat → Bool} : ∀ {L : List (Nat × Acc)} {s s1 : St}, RunA Γ ops m dd L s s1 → KeepD s.hp s1.hp := by
  intro L
  induction L with
  | nil => intro s s1 h; cases h; exact .refl _
  | cons x L ih =>
    intro s s1 h
    cases h with
    | cons h1 h2 => exact (stepD_keepD h1).trans (ih h2)
theorem noDfr_of {m : Nat} {H : List Ob} (h : ∀ id : Nat, H[id]? = some .dfr → id < m) : noDfr m H = true := by
  unfold noDfr
  rw [List.all_eq_true]
  intro o ho
  obtain ⟨i, hi⟩ := List.mem_iff_getElem?.1 ho
  rw [List.getElem?_drop] at hi
  cases o <;> simp only [isDfr, Bool.not_false, Bool.not_true, Bool.false_eq_true]
  have := h _ hi
  omega
theorem Rel.drew {st : St} {ρ : Nm} {A : Nat → Prop} {a : Act} {w : World} (h : Rel D w0 ρ A st a w) : Rel D w0 ρ A st a w.drew :=
  ⟨h.tm.mono (fun _ h => h) (Nle.refl _ _) (fun _ h => h) (fun _ _ => rfl), h.df, h.mem.drew⟩

theorem drawF_sound (hΓ : Γ.Ok Inv) (hI : Stable Inv) (hm : Γ.P.follows .mixedOrders = true) : DrawSound Γ.P Inv (drawF Γ) := by
  intro ops st e st' h D w0 ρ A w a r n id h0 hr
  unfold drawF at h
  split at h
  case isFalse => simp at h
  rename_i hS
  split at h
  · simp at h
  rename_i L s hrun
  unfold endD at h
  split at h
  case isFalse => simp at h
  rename_i hMB
  simp only [Bool.and_eq_true] at hMB
  obtain ⟨hM, hB⟩ := hMB
  obtain ⟨hidx, hra⟩ := runD_runA _ _ hrun
  simp only [chkS, Bool.and_eq_true] at hS
  obtain ⟨hE, hT⟩ := hS
  have hlen : L.length = ops.size := by simpa using congrArg List.length hidx
  have hall : ∀ x ∈ L, x.1 < ops.size := fun x hx => by
    have : x.1 ∈ L.map (·.1) := List.mem_map.2 ⟨x, hx, rfl⟩
    rw [hidx] at this
    simpa using this
  have hTp : L.Pairwise (fun x y => tempB ops x.1 y.1 = true → pathB ops 4 y.1 x.1 = true) := by
    have := chkT_pw hT
    rw [← hidx, List.pairwise_map] at this
    exact this
  have hlp : L.Pairwise (fun x y => x.1 < y.1) := by
    have : (List.range ops.size).Pairwise (· < ·) := List.pairwise_lt_range
    rw [← hidx, List.pairwise_map] at this
    exact this
  have hdd : ∀ p ∈ L, ddOf L p.1 = isDd p.2 := fun p hp => ddOf_mem hlp hp
  refine wpIn_region_any hm (any_sound hΓ hI h0 hE hB hdd ops.size L _ _ a w.drew ρ A (hra _ hdd) hlen (by simp) (by simp) (fun i hi => ?_) (fun j o hL => ?_) hlp ?_ hall (fun _ h => h) (fun _ h _ => h) (hr.drew.pad ops.size)
    (fun hnp a' w' ρ' A' hx hr' => ?_) (fun p hp hpn L' s' a' w' ρ' A' hrun' hsub' hs' hx hr' t v => ?_))
  · rw [hidx]; simp [Array.getD, hi]
  · unfold Listed at hL
    simp only [Array.getD, Array.size_replicate] at hL
    split at hL <;> simp at hL
  · refine List.Pairwise.imp ?_ (hTp.and (chkM_pw hM))
    rintro x y ⟨hx, hy⟩ hd
    simp only [depB, Bool.or_eq_true] at hd
    rcases hd with hd | hd
    · exact hx hd
    · exact hy hd
  · have hno : L.any (fun p => isPn p.2) = false := by
      rw [List.any_eq_false]; intro p hp; rw [hnp p hp]; simp
    rw [if_neg (by simp [hno])] at h
    simp only [Option.some.injEq, Prod.mk.injEq] at h
    obtain ⟨rfl, rfl⟩ := h
    refine ⟨ρ', A', ?_, rfl, hr'.trim _⟩
    exact ⟨fun id hi => live_trim.2 (hx.ids id (live_pad.2 hi)), fun id hi => hx.nam id (live_pad.2 hi), hx.imm, hx.keep, hx.late, hx.size, hx.bse⟩
  · have hyes : L.any (fun p => isPn p.2) = true := List.any_eq_true.2 ⟨p, hp, hpn⟩
    rw [if_pos hyes] at h
    split at h
    · simp at h
    rename_i hwr
    have hwr' : ∀ q ∈ L', isWr q.2 = false := fun q hq => by
      cases hw : isWr q.2 with
      | false => rfl
      | true => exact absurd (List.any_eq_true.2 ⟨q, hsub' q hq, hw⟩) hwr
    obtain ⟨k1, k2, k3, k4⟩ := runA_keep hrun' hwr' (fun q hq => by rw [hs']; have := hall q (hsub' q hq); omega)
    have hpos : 0 < ops.size := Nat.lt_of_le_of_lt (Nat.zero_le _) (hall p hp)
    have hcut : cutBack (keepD ops s'.tm.length) st.hp.length s' = cutBack (keepD ops s.tm.length) st.hp.length s := by
      have hb1 : Nat.beq s.hp.length st.hp.length = false := by rw [Bool.eq_false_iff]; simp only [ne_eq, Nat.beq_eq]; rw [k1, hs']; omega
      have hb2 : Nat.beq s'.hp.length st.hp.length = false := by rw [Bool.eq_false_iff]; simp only [ne_eq, Nat.beq_eq]; rw [hs']; omega
      have hmap : (keepD ops s'.tm.length).map (getT s'.tm) = (keepD ops s.tm.length).map (getT s.tm) := by
        rw [k3]
        exact List.map_congr_left fun t ht => (k4 _ t ht).symm
      have hl0 : ∀ i ∈ List.range ops.size, st.hp.length + i < (St.mk st.tm (st.hp ++ List.replicate ops.size .free)).hp.length := fun i hi => by
        have := List.mem_range.1 hi; simp; omega
      obtain ⟨hbk, _, _⟩ := runD_back _ _ hrun hl0
      have hn1 : noDfr st.hp.length s.hp = true := noDfr_of fun id hid => by
        have h0 := hbk id hid
        rcases Nat.lt_or_ge id st.hp.length with h' | h'
        · exact h'
        · exfalso
          simp only at h0
          rw [List.getElem?_append_right h', List.getElem?_replicate] at h0
          split at h0 <;> simp at h0
      have hn2 : noDfr st.hp.length s'.hp = true := noDfr_of fun id hid => by
        have h0 := hbk id (runA_keepD hrun' id hid)
        rcases Nat.lt_or_ge id st.hp.length with h' | h'
        · exact h'
        · exfalso
          simp only at h0
          rw [List.getElem?_append_right h', List.getElem?_replicate] at h0
          split at h0 <;> simp at h0
      unfold cutBack
      rw [hb1, hb2, hmap, k1, k2, hn1, hn2]
      simp only [Bool.false_eq_true, if_false]
    split at h
    · rename_i vs H hc
      simp only [Option.some.injEq, Prod.mk.injEq] at h
      obtain ⟨rfl, rfl⟩ := h
      rw [← hcut] at hc
      obtain ⟨hrel, hlv, hH, _⟩ := cutBack_rel hr' hc
      rw [k3]
      refine ⟨ρ', A', ?_, t, v, rfl, hrel⟩
      refine ⟨fun id hi => hlv id (hx.ids id (live_pad.2 hi)) (live_lt hi), fun id hi => hx.nam id (live_pad.2 hi), hx.imm, hx.keep, hx.late, hx.size, hx.bse⟩
    · simp at h

theorem stepD_tmlen {dd : Nat → Bool} {i : Nat} {s s1 : St} {a : Acc} (h : stepD Γ ops m dd i s = some (a, s1)) : s1.tm.length = s.tm.length := by
  unfold stepD at h
  cases hk : kindD Γ ops dd i s.tm with
  | none => simp [hk] at h
  | some kd =>
    simp only [hk] at h
    cases kd with
    | fix a' u => simp only [Option.some.injEq, Prod.mk.injEq] at h; obtain ⟨_, rfl⟩ := h; exact putA_length _ _ _
    | act p =>
      simp only at h
      cases hd : doPlan (m + i) s.hp p with
      | none => simp [hd] at h
      | some vH =>
        obtain ⟨v, H⟩ := vH
        simp only [hd, Option.some.injEq, Prod.mk.injEq] at h
        obtain ⟨_, rfl⟩ := h
        exact putA_length _ _ _
theorem runD_tmlen : ∀ (l bl : List Nat) {s s1 : St} {L : List (Nat × Acc)}, runD Γ ops m l bl s = some (L, s1) → s1.tm.length = s.tm.length := by
  intro l
  induction l with
  | nil => intro bl s s1 L h; simp only [runD, Option.some.injEq, Prod.mk.injEq] at h; obtain ⟨_, rfl⟩ := h; rfl
  | cons i l ih =>
    intro bl s s1 L h
    simp only [runD] at h
    split at h
    · simp at h
    · rename_i a s2 h1
      split at h
      · simp at h
      · rename_i L' s3 h2
        simp only [Option.some.injEq, Prod.mk.injEq] at h
        obtain ⟨_, rfl⟩ := h
        rw [ih _ h2, stepD_tmlen h1]
theorem drawF_len : DrawLen (drawF Γ) := by
  intro ops st e st' h
  unfold drawF at h
  split at h
  case isFalse => simp at h
  split at h
  · simp at h
  rename_i L s hrun
  have hl := runD_tmlen _ _ hrun
  unfold endD at h
  split at h
  case isFalse => simp at h
  split at h
  · split at h
    · simp at h
    · split at h
      · simp only [Option.some.injEq, Prod.mk.injEq] at h
        obtain ⟨rfl, rfl⟩ := h
        simp [mkF_length, hl]
      · simp at h
  · simp only [Option.some.injEq, Prod.mk.injEq] at h
    obtain ⟨rfl, rfl⟩ := h
    exact hl
theorem drawF_keep : DrawKeep (drawF Γ) := by
  intro ops st e st' h
  unfold drawF at h
  split at h
  case isFalse => simp at h
  split at h
  · simp at h
  rename_i L s hrun
  have hl0 : ∀ i ∈ List.range ops.size, st.hp.length + i < (St.mk st.tm (st.hp ++ List.replicate ops.size .free)).hp.length := fun i hi => by
    have := List.mem_range.1 hi; simp; omega
  obtain ⟨_, hk, hl⟩ := runD_back _ _ hrun hl0
  have hk' : KeepD st.hp s.hp := (KeepD.append _ _).trans hk
  have hl' : st.hp.length ≤ s.hp.length := by rw [hl]; simp
  unfold endD at h
  split at h
  case isFalse => simp at h
  split at h
  · split at h
    · simp at h
    · split at h
      · rename_i hc
        simp only [Option.some.injEq, Prod.mk.injEq] at h
        obtain ⟨rfl, rfl⟩ := h
        exact ⟨hk'.trans (cutBack_keep hc), Nat.le_of_eq (cutBack_len hc).symm⟩
      · simp at h
  · simp only [Option.some.injEq, Prod.mk.injEq] at h
    obtain ⟨rfl, rfl⟩ := h
    exact ⟨hk'.trans (trimF_keep _ _), trimF_len hl'⟩
end
end Go.Evl

/- The evaluator in continuation style, for the kernel's own running. No condition. -/
namespace Go.Evl
open Go.RowKit

abbrev Sp := FuncId → Option (List AV → Tr Res)
/-- the contracts of functions; those that write through their last argument have the number plus 1000000 -/
def spL (sp : Sp) : Sp := fun f => bif Nat.blt f 1000000 then sp f else none
def upL (sp : Sp) : Sp := fun f => sp (1000000 + f)
/-- a context by trees -/
def mkCx (P : Program) (sp : Sp) (inl : FuncId → Bool) (ext : FuncId → Option (List AV → Option (Bool × AV))) : Cx := ⟨P, fun f => (spL sp f).map fun s a => (s a).run, inl, ext, upL sp, spL sp⟩

/-- what follows a value: booleans apart -/
def splitV {β : Type} (v : AV) (k : AV → Tr β) : Tr β :=
  match v with
  | .bool b => .node b (k (.bool true)) (k (.bool false))
  | v => k v
theorem splitV_eq {β : Type} (v : AV) (k : AV → Tr β) : (splitV v k).run = (k v).run := by
  cases v <;> try rfl
  rename_i b
  cases b <;> rfl

def wantK {β : Type} (ops : Array Oper) (tm : List AV) (o : Oper) (k : Bool → Tr β) : Tr β :=
  match o.guard with
  | none => k true
  | some (j, want) =>
    match (ops[j]?).bind (·.dst) with
    | none => k false
    | some d => match getT tm d with
      | .bool b => bif b then k (true == want) else k (false == want)
      | .raw (.tuple _) => k false
      | _ => .non
theorem wantK_eq {β : Type} (ops : Array Oper) (tm : List AV) (o : Oper) (k : Bool → Tr β) : (wantK ops tm o k).run = (wantA ops tm o).bind fun b => (k b).run := by
  unfold wantK wantA
  cases o.guard with
  | none => rfl
  | some p =>
    obtain ⟨j, want⟩ := p
    simp only
    cases (ops[j]?).bind (·.dst) with
    | none => rfl
    | some d =>
      simp only
      cases getT tm d with
      | bool b => cases b <;> rfl
      | raw v => cases v <;> rfl
      | _ => rfl

/-- the call of a function with a contract -/
def spcOf (sp : Sp) (x : Operand → AV) (op : Op) : Option (FuncId × (List AV → Tr Res) × List AV) :=
  match op with
  | .call c => match c.callee with
    | .value f => match x f with
      | .fn (.func g) cs => match spL sp g with
        | some s => bif bnds 0 (c.args.toList.map x ++ cs) then some (g, s, c.args.toList.map x ++ cs) else none
        | none => none
      | _ => none
    | _ => none
  | _ => none
theorem spcOf_plan {P : Program} {sp : Sp} {inl : FuncId → Bool} {ext : FuncId → Option (List AV → Option (Bool × AV))} {x : Operand → AV} {op : Op} {g : FuncId} {s : List AV → Tr Res} {args : List AV}
    (h : spcOf sp x op = some (g, s, args)) : plan (mkCx P sp inl ext) x op = if bnds 0 args then ((s args).run).map fun r => (true, .spc g args r) else none := by
  unfold spcOf at h
  split at h
  · rename_i c
    split at h
    · rename_i f hc
      split at h
      · rename_i g' cs hx
        split at h
        · rename_i s' hs
          cases hb : bnds 0 (c.args.toList.map x ++ cs) with
          | false => simp [hb] at h
          | true =>
            simp only [hb, cond_true, Option.some.injEq, Prod.mk.injEq] at h
            obtain ⟨rfl, rfl, rfl⟩ := h
            simp only [plan, hc, callA, hx, mkCx, hs, Option.map_some, hb, if_true]
        · simp at h
      · simp at h
    · simp at h
  · simp at h

/-- calls in place, in continuation style -/
structure CallK (β : Type) where
  fn : FuncId → List AV → List Ob → (Res → List Ob → Tr β) → Tr β
  rnd : Nat → List AV → List Ob → (Res → List Ob → Tr β) → Tr β
instance {β : Type} : CoeFun (CallK β) (fun _ => FuncId → List AV → List Ob → (Res → List Ob → Tr β) → Tr β) := ⟨CallK.fn⟩
structure CallEq {β : Type} (cK : CallK β) (cf : CallF) : Prop where
  fn : ∀ f args H k, (cK f args H k).run = (cf f args H).bind fun p => (k p.1 p.2).run
  rnd : ∀ id args H k, (cK.rnd id args H k).run = (cf.rnd id args H).bind fun p => (k p.1 p.2).run

section
variable {β : Type} (P : Program) (sp : Sp) (inl : FuncId → Bool) (ext : FuncId → Option (List AV → Option (Bool × AV))) (cK : CallK β) {cf : CallF}

def evStep (ops : Array Oper) (i : Nat) (st : St) (k : Bool → St → Tr β) : Tr β :=
  match ops[i]? with
  | none => .non
  | some o => wantK ops st.tm o fun g =>
    bif g then
      match spcOf sp (opd st.tm) o.op with
      | some (_, s, args) => .chk (bnds 0 args) ((s args).fold fun r => match r with
          | .ret v => splitV v fun v => k true ⟨putA st.tm o.dst v, st.hp⟩
          | .pan => k false st)
      | none => match plan (mkCx P sp inl ext) (opd st.tm) o.op with
        | none => .non
        | some (c, p) =>
          .chk c (match p with
            | .pan => k false st
            | .spc _ _ .pan => k false st
            | .call f args => cK f args st.hp fun r H => match r with
              | .ret v => splitV v fun v => k true ⟨putA st.tm o.dst v, H⟩
              | .pan => k false ⟨st.tm, H⟩
            | .round id args => cK.rnd id args st.hp fun r H => match r with
              | .ret v => splitV v fun v => k true ⟨putA st.tm o.dst v, H⟩
              | .pan => .non
            | p => (doPlanT st.hp.length st.hp p).fold fun q => splitV q.1 fun v => k true ⟨putA st.tm o.dst v, q.2⟩)
    else k true ⟨putA st.tm o.dst (.raw undef), st.hp⟩

theorem evStep_eq (hcf : CallEq cK cf) (ops : Array Oper) (i : Nat) (st : St) (k : Bool → St → Tr β) :
    (evStep P sp inl ext cK ops i st k).run = (stepA (mkCx P sp inl ext) cf ops i st).bind fun p => (k p.1 p.2).run := by
  unfold evStep stepA
  cases ops[i]? with
  | none => rfl
  | some o =>
    simp only [wantK_eq]
    cases wantA ops st.tm o with
    | none => rfl
    | some g =>
      simp only [Option.bind_some]
      cases g with
      | false => rfl
      | true =>
        simp only [cond_true]
        cases hs : spcOf sp (opd st.tm) o.op with
        | some q =>
          obtain ⟨g, s, args⟩ := q
          simp only [spcOf_plan hs, Tr.run]
          cases bnds 0 args with
          | false => rfl
          | true =>
            simp only [cond_true, if_true, Tr.fold_eq]
            cases (s args).run with
            | none => rfl
            | some r => cases r <;> simp [splitV_eq, doPlan]
        | none =>
          simp only
          cases plan (mkCx P sp inl ext) (opd st.tm) o.op with
          | none => rfl
          | some cp =>
            obtain ⟨c, p⟩ := cp
            simp only [Tr.run]
            cases c with
            | false => rfl
            | true =>
              simp only [cond_true]
              cases p with
              | call f args =>
                simp only [hcf.fn f args]
                cases cf f args st.hp with
                | none => rfl
                | some rh => obtain ⟨r, H⟩ := rh; cases r <;> simp [splitV_eq]
              | round id args =>
                simp only [hcf.rnd id args]
                cases cf.rnd id args st.hp with
                | none => rfl
                | some rh => obtain ⟨r, H⟩ := rh; cases r <;> simp [splitV_eq, Tr.run]
              | pan => rfl
              | spc f args r =>
                cases r with
                | pan => rfl
                | ret v => simp [doPlanT_run, doPlan, splitV_eq, Tr.fold_eq]
              | _ =>
                simp only [Tr.fold_eq, doPlanT_run, splitV_eq]
                generalize doPlan _ _ _ = q
                cases q with
                | none => rfl
                | some q => rfl

def evIdx (ops : Array Oper) : List Nat → St → (Ex → St → Tr β) → Tr β
  | [], st, k => k .normal st
  | i :: rest, st, k => evStep P sp inl ext cK ops i st fun b st' => bif b then evIdx ops rest st' k else k .pan st'
theorem evIdx_eq (hcf : CallEq cK cf) (ops : Array Oper) : ∀ (l : List Nat) (st : St) (k : Ex → St → Tr β), (evIdx P sp inl ext cK ops l st k).run = (runIdx (mkCx P sp inl ext) cf ops l st).bind fun p => (k p.1 p.2).run := by
  intro l
  induction l with
  | nil => intro st k; rfl
  | cons i l ih =>
    intro st k
    simp only [evIdx, runIdx, evStep_eq P sp inl ext cK hcf]
    cases stepA (mkCx P sp inl ext) cf ops i st with
    | none => rfl
    | some p => obtain ⟨b, st'⟩ := p; cases b <;> simp [ih]

def evStepD (ops : Array Oper) (m : Nat) (dead : Bool) (i : Nat) (st : St) (k : Acc → St → Tr β) : Tr β :=
  match ops[i]? with
  | none => .non
  | some o =>
    bif dead then k .dd ⟨putA st.tm o.dst .junk, st.hp⟩
    else wantK ops st.tm o fun g =>
      bif g then
        match spcOf sp (opd st.tm) o.op with
        | some (_, s, args) => .chk (bnds 0 args) ((s args).fold fun r => match r with
            | .ret v => splitV v fun v => k .none ⟨putA st.tm o.dst v, st.hp⟩
            | .pan => k .pn ⟨putA st.tm o.dst .junk, st.hp⟩)
        | none => match plan (mkCx P sp inl ext) (opd st.tm) o.op with
          | none => .non
          | some (c, p) =>
            .chk c (
              bif isPan p then k .pn ⟨putA st.tm o.dst .junk, st.hp⟩
              else (doPlanT (m + i) st.hp p).fold fun q => splitV q.1 fun v => k (accP (m + i) p) ⟨putA st.tm o.dst v, q.2⟩)
      else k .none ⟨putA st.tm o.dst (.raw undef), st.hp⟩
theorem evStepD_eq (ops : Array Oper) (m : Nat) (dead : Bool) (i : Nat) (st : St) (k : Acc → St → Tr β) :
    (evStepD P sp inl ext ops m dead i st k).run = (stepD (mkCx P sp inl ext) ops m (fun _ => dead) i st).bind fun p => (k p.1 p.2).run := by
  unfold evStepD stepD kindD
  cases ho : ops[i]? with
  | none => rfl
  | some o =>
    have hd : dstD ops i = o.dst := by simp [dstD, ho]
    cases dead with
    | true => simp [hd]
    | false =>
      simp only [wantK_eq, cond_false, hd]
      cases wantA ops st.tm o with
      | none => rfl
      | some g =>
        simp only [Option.bind_some]
        cases g with
        | false => rfl
        | true =>
          simp only [cond_true]
          cases hs : spcOf sp (opd st.tm) o.op with
          | some q =>
            obtain ⟨g, s, args⟩ := q
            simp only [spcOf_plan hs, Tr.run]
            cases bnds 0 args with
            | false => rfl
            | true =>
              simp only [cond_true, if_true, Tr.fold_eq]
              cases (s args).run with
              | none => rfl
              | some r => cases r <;> simp [splitV_eq, doPlan, accP, isPan]
          | none =>
            simp only
            cases plan (mkCx P sp inl ext) (opd st.tm) o.op with
            | none => rfl
            | some cp =>
              obtain ⟨c, p⟩ := cp
              simp only [Tr.run]
              cases c with
              | false => rfl
              | true =>
                simp only [cond_true]
                cases isPan p with
                | true => rfl
                | false =>
                  simp only [cond_false, Tr.fold_eq, doPlanT_run, splitV_eq]
                  cases doPlan (m + i) st.hp p with
                  | none => rfl
                  | some vh => rfl

def evD (ops : Array Oper) (m : Nat) : List Nat → List Nat → St → (List (Nat × Acc) → St → Tr β) → Tr β
  | [], _, st, k => k [] st
  | i :: rest, bl, st, k => evStepD P sp inl ext ops m (deadNow ops bl i) i st fun a s1 => evD ops m rest (bif isBl a then i :: bl else bl) s1 fun L s2 => k ((i, a) :: L) s2
theorem evD_eq (ops : Array Oper) (m : Nat) : ∀ (l bl : List Nat) (st : St) (k : List (Nat × Acc) → St → Tr β),
    (evD P sp inl ext ops m l bl st k).run = (runD (mkCx P sp inl ext) ops m l bl st).bind fun p => (k p.1 p.2).run := by
  intro l
  induction l with
  | nil => intro bl st k; rfl
  | cons i l ih =>
    intro bl st k
    simp only [evD, runD, evStepD_eq]
    cases stepD (mkCx P sp inl ext) ops m (fun _ => deadNow ops bl i) i st with
    | none => rfl
    | some p =>
      obtain ⟨a, s1⟩ := p
      simp only [Option.bind_some, ih]
      cases runD (mkCx P sp inl ext) ops m l (bif isBl a then i :: bl else bl) s1 with
      | none => rfl
      | some q => rfl

def evDraw (ops : Array Oper) (st : St) (k : Ex → St → Tr β) : Tr β :=
  bif chkS ops then
    evD P sp inl ext ops st.hp.length (List.range ops.size) [] ⟨st.tm, st.hp ++ List.replicate ops.size .free⟩ fun L s =>
      match endD ops st.hp.length L s with
      | some (e, s') => k e s'
      | none => .non
  else .non
theorem evDraw_eq (ops : Array Oper) (st : St) (k : Ex → St → Tr β) : (evDraw P sp inl ext ops st k).run = (drawF (mkCx P sp inl ext) ops st).bind fun p => (k p.1 p.2).run := by
  unfold evDraw drawF
  cases chkS ops with
  | false => rfl
  | true =>
    simp only [cond_true, if_true, evD_eq]
    cases runD (mkCx P sp inl ext) ops st.hp.length (List.range ops.size) [] ⟨st.tm, st.hp ++ List.replicate ops.size .free⟩ with
    | none => rfl
    | some q =>
      obtain ⟨L, s⟩ := q
      simp only [Option.bind_some]
      cases endD ops st.hp.length L s with
      | none => rfl
      | some q => rfl

def evN (g : St → (Ex → St → Tr β) → Tr β) : Nat → St → (Ex → St → Tr β) → Tr β
  | 0, _, _ => .non
  | n + 1, st, k => g st fun e st' => match e with
    | .normal => evN g n st' k
    | e => k e st'
theorem evN_eq {g : St → (Ex → St → Tr β) → Tr β} {g' : St → Option (Ex × St)} (hg : ∀ st k, (g st k).run = (g' st).bind fun p => (k p.1 p.2).run) : ∀ (n : Nat) (st : St) (k : Ex → St → Tr β),
    (evN g n st k).run = (iterN g' n st).bind fun p => (k p.1 p.2).run := by
  intro n
  induction n with
  | zero => intro st k; rfl
  | succ n ih =>
    intro st k
    simp only [evN, iterN, hg]
    cases g' st with
    | none => rfl
    | some p => obtain ⟨e, st'⟩ := p; cases e <;> simp [ih]

def blkK (id : Nat) (k : Ex → St → Tr β) (e : Ex) (st : St) : Tr β :=
  match e with
  | .exit i => if i = id then k .normal st else k (.exit i) st
  | e => k e st
theorem blkK_eq (id : Nat) (k : Ex → St → Tr β) (x : Option (Ex × St)) : (x.bind fun p => (blkK id k p.1 p.2).run) = (inBlk id x).bind fun p => (k p.1 p.2).run := by
  cases x with
  | none => rfl
  | some p =>
    obtain ⟨e, st⟩ := p
    cases e <;> simp only [Option.bind_some, blkK, inBlk]
    split <;> rfl

/-- loops' summaries by trees -/
inductive LT where
  | sum (keep : List Nat) (f : List AV → List Ob → Tr (Ex × List AV × List Ob))
  | unroll (k : Nat)
  | forget (keep : List Nat)
  | ghost (gs : List Gh)
def LT.lk : LT → LK
  | .sum keep f => .sum keep fun vs H => (f vs H).run
  | .unroll k => .unroll k
  | .forget keep => .forget keep
  | .ghost gs => .ghost gs
/-- before a region, as a tree -/
def preT {β : Type} (l : LT) (st : St) (k : St → Tr β) : Tr β :=
  match l with
  | .ghost gs => match applyGs gs st with
    | some (c, st') => .chk c (k st')
    | none => .non
  | l => k (forgetSt l.lk st)
/-- behind a region, as a tree -/
def postT {β : Type} (l : LT) (k : Ex → St → Tr β) (e : Ex) (st : St) : Tr β :=
  match e with
  | .normal => match l with
    | .ghost gs => match applyGs gs st with
      | some (c, st') => .chk c (k .normal st')
      | none => .non
    | _ => k .normal st
  | e => k e st
theorem postT_eq {β : Type} (l : LT) (k : Ex → St → Tr β) (r : Option (Ex × St)) : (r.bind fun p => (postT l k p.1 p.2).run) = (postC l.lk r).bind fun p => (k p.1 p.2).run := by
  cases r with
  | none => rfl
  | some p =>
    obtain ⟨e, st⟩ := p
    cases e with
    | normal =>
      cases l with
      | ghost gs =>
        simp only [Option.bind_some, postT, postC, LT.lk, postSt]
        cases applyGs gs st with
        | none => rfl
        | some q =>
          obtain ⟨c, st'⟩ := q
          cases c <;> rfl
      | _ => rfl
    | _ => rfl
theorem preT_eq {β : Type} (l : LT) (st : St) (k : St → Tr β) : (preT l st k).run = (preSt l.lk st).bind fun p => bif p.1 then (k p.2).run else none := by
  cases l with
  | ghost gs =>
    simp only [preT, LT.lk, preSt]
    cases applyGs gs st with
    | none => rfl
    | some p => rfl
  | _ => rfl

def evCT (lp : Nat → LT) : Code → St → (Ex → St → Tr β) → Tr β
  | .skip, st, k => k .normal st
  | .region id ops draw, st, k => preT (lp (1000000 + id)) st fun st1 => bif draw then evDraw P sp inl ext ops st1 (postT (lp (2000000 + id)) k) else evIdx P sp inl ext cK ops (List.range ops.size) st1 (postT (lp (2000000 + id)) k)
  | .seq a b, st, k => evCT lp a st fun e st' => match e with
    | .normal => evCT lp b st' k
    | e => k e st'
  | .cond c a b, st, k => match opd st.tm c with
    | .bool t => bif t then evCT lp a st k else evCT lp b st k
    | _ => .non
  | .block id (.loop body), st, k => match lp id with
    | .unroll n => evN (fun st k => evCT lp body st k) n st (blkK id k)
    | .forget _ => .non
    | .ghost _ => .non
    | .sum keep f => (f (keep.map (getT st.tm)) st.hp).fold fun p => blkK id k p.1 ⟨mkF st.tm.length keep p.2.1, p.2.2⟩
  | .block id c, st, k => evCT lp c st (blkK id k)
  | .exit id, st, k => k (.exit id) st
  | .ret, st, k => k .ret st
  | .rangeFunc g ps asg body, st, k =>
    bif inRnd (fun i => (lp i).lk) then .non else
    match opd st.tm g with
    | .fn (.func gf) cs => bif inl gf then
        cK gf (.yld (st.hp.length + 1) :: cs) (st.hp ++ [.dfr, .loop st.tm ps asg body st.hp.length .ready]) fun r H => match r with
          | .ret _ => match rfEnd st.hp.length st.tm H with
            | some (e, st') => k e st'
            | none => .non
          | .pan => .non
      else .non
    | _ => .non
  | _, _, _ => .non

theorem evCT_eq (hcf : CallEq cK cf) (lp : Nat → LT) : ∀ (N : Nat) (c : Code), csz c ≤ N → ∀ (st : St) (k : Ex → St → Tr β),
    (evCT P sp inl ext cK lp c st k).run = (runC (mkCx P sp inl ext) cf (drawF (mkCx P sp inl ext)) (fun i => (lp i).lk) c st).bind fun p => (k p.1 p.2).run := by
  intro N
  induction N with
  | zero => intro c h; cases c <;> simp [csz] at h
  | succ N ih =>
    intro c h st k
    cases c with
    | skip => rfl
    | region id ops draw =>
      simp only [evCT, runC, preT_eq]
      cases preSt (lp (1000000 + id)).lk st with
      | none => rfl
      | some p =>
        obtain ⟨c, st1⟩ := p
        cases c with
        | false => rfl
        | true => cases draw <;> simp [evDraw_eq, evIdx_eq P sp inl ext cK hcf, postT_eq]
    | seq a b =>
      simp only [csz] at h
      simp only [evCT, runC, ih a (by omega)]
      cases runC (mkCx P sp inl ext) cf (drawF (mkCx P sp inl ext)) (fun i => (lp i).lk) a st with
      | none => rfl
      | some p => obtain ⟨e, st'⟩ := p; cases e <;> simp [ih b (by omega)]
    | cond c a b =>
      simp only [csz] at h
      simp only [evCT, runC]
      cases opd st.tm c with
      | bool t => cases t <;> simp [ih a (by omega), ih b (by omega)]
      | _ => rfl
    | block id c =>
      simp only [csz] at h
      cases c with
      | loop body =>
        simp only [csz] at h
        simp only [evCT, runC]
        cases hl : lp id with
        | forget keep => rfl
        | ghost gs => rfl
        | unroll n =>
          show _ = (inBlk id (iterN (runC (mkCx P sp inl ext) cf (drawF (mkCx P sp inl ext)) (fun i => (lp i).lk) body) n st)).bind fun p => (k p.1 p.2).run
          simp only
          rw [evN_eq (g' := runC (mkCx P sp inl ext) cf (drawF (mkCx P sp inl ext)) (fun i => (lp i).lk) body) (fun st k => ih body (by omega) st k), blkK_eq]
        | sum keep f =>
          simp only [LT.lk, Tr.fold_eq]
          generalize f (keep.map (getT st.tm)) st.hp = q
          cases q.run with
          | none => rfl
          | some p =>
            obtain ⟨e, vs, H⟩ := p
            exact blkK_eq id k (some (e, ⟨mkF st.tm.length keep vs, H⟩))
      | skip => exact blkK_eq id k (some (.normal, st))
      | ret => exact blkK_eq id k (some (.ret, st))
      | exit i => exact blkK_eq id k (some (.exit i, st))
      | region i ops d => show (evCT P sp inl ext cK lp (.region i ops d) st (blkK id k)).run = _; rw [ih _ (by simp only [csz] at h ⊢; omega), blkK_eq]; rfl
      | seq a b => show (evCT P sp inl ext cK lp (.seq a b) st (blkK id k)).run = _; rw [ih _ (by simp only [csz] at h ⊢; omega), blkK_eq]; rfl
      | cond c a b => show (evCT P sp inl ext cK lp (.cond c a b) st (blkK id k)).run = _; rw [ih _ (by simp only [csz] at h ⊢; omega), blkK_eq]; rfl
      | block i c => show (evCT P sp inl ext cK lp (.block i c) st (blkK id k)).run = _; rw [ih _ (by simp only [csz] at h ⊢; omega), blkK_eq]; rfl
      | rangeFunc g ps a b => show (evCT P sp inl ext cK lp (.rangeFunc g ps a b) st (blkK id k)).run = _; rw [ih _ (by simp only [csz] at h ⊢; omega), blkK_eq]; rfl
      | _ => rfl
    | exit id => rfl
    | ret => rfl
    | rangeFunc g ps asg body =>
      simp only [evCT, runC]
      cases inRnd (fun i => (lp i).lk) with
      | true => rfl
      | false =>
        simp only [cond_false]
        cases opd st.tm g with
        | fn fv cs =>
          cases fv with
          | func gf =>
            simp only [mkCx]
            cases inl gf with
            | false => rfl
            | true =>
              simp only [cond_true, hcf.fn]
              cases cf gf (.yld (st.hp.length + 1) :: cs) (st.hp ++ [.dfr, .loop st.tm ps asg body st.hp.length .ready]) with
              | none => rfl
              | some rh =>
                obtain ⟨r, H⟩ := rh
                cases r with
                | pan => rfl
                | ret v =>
                  simp only [Option.bind_some]
                  cases rfEnd st.hp.length st.tm H with
                  | none => rfl
                  | some q => rfl
          | _ => rfl
        | _ => rfl
    | _ => rfl

def endKT (fn : Func) (m : Nat) (k : Res → List Ob → Tr β) (e : Ex) (st : St) : Tr β :=
  match leaveA P fn m (some (e, st)) with
  | some (r, H) => k r H
  | none => .non
def evFnT (lp : Nat → LT) (fn : Func) (args : List AV) (H : List Ob) (k : Res → List Ob → Tr β) : Tr β :=
  match fn.body with
  | some c => evCT P sp inl ext cK lp c ⟨frame0 fn args, H⟩ (endKT P fn H.length k)
  | none => .non
theorem evFnT_eq (hcf : CallEq cK cf) (lp : Nat → LT) (fn : Func) (args : List AV) (H : List Ob) (k : Res → List Ob → Tr β) :
    (evFnT P sp inl ext cK lp fn args H k).run = (runFn (mkCx P sp inl ext) cf (drawF (mkCx P sp inl ext)) (fun i => (lp i).lk) fn args H).bind fun p => (k p.1 p.2).run := by
  unfold evFnT runFn
  cases fn.body with
  | none => rfl
  | some c =>
    simp only [evCT_eq P sp inl ext cK hcf lp _ c (Nat.le_refl _)]
    cases runC (mkCx P sp inl ext) cf (drawF (mkCx P sp inl ext)) (fun i => (lp i).lk) c ⟨frame0 fn args, H⟩ with
    | none => rfl
    | some p =>
      obtain ⟨e, st⟩ := p
      show (endKT P fn H.length k e st).run = (leaveA P fn H.length (some (e, st))).bind fun p => (k p.1 p.2).run
      unfold endKT
      cases leaveA P fn H.length (some (e, st)) with
      | none => rfl
      | some q => rfl

/-! the same with results that are options -/
def evC (lp : Nat → LT) (c : Code) (st : St) (k : Ex → St → Option β) : Option β := (evCT P sp inl ext cK lp c st fun e st => .ofOpt (k e st)).run
theorem evC_eq (hcf : CallEq cK cf) (lp : Nat → LT) (N : Nat) (c : Code) (hN : csz c ≤ N) (st : St) (k : Ex → St → Option β) :
    evC P sp inl ext cK lp c st k = (runC (mkCx P sp inl ext) cf (drawF (mkCx P sp inl ext)) (fun i => (lp i).lk) c st).bind fun p => k p.1 p.2 := by
  unfold evC
  rw [evCT_eq P sp inl ext cK hcf lp N c hN]
  simp only [Tr.ofOpt_run]
def endK (fn : Func) (m : Nat) (k : Res → List Ob → Option β) (e : Ex) (st : St) : Option β :=
  match leaveA P fn m (some (e, st)) with
  | some (r, H) => k r H
  | none => none
def evFn (lp : Nat → LT) (fn : Func) (args : List AV) (H : List Ob) (k : Res → List Ob → Option β) : Option β := (evFnT P sp inl ext cK lp fn args H fun r H => .ofOpt (k r H)).run
theorem evFn_eq (hcf : CallEq cK cf) (lp : Nat → LT) (fn : Func) (args : List AV) (H : List Ob) (k : Res → List Ob → Option β) :
    evFn P sp inl ext cK lp fn args H k = (runFn (mkCx P sp inl ext) cf (drawF (mkCx P sp inl ext)) (fun i => (lp i).lk) fn args H).bind fun p => k p.1 p.2 := by
  unfold evFn
  rw [evFnT_eq P sp inl ext cK hcf]
  simp only [Tr.ofOpt_run]
end
end Go.Evl

/- A function that turns its callee's panic into a result (a deferred recover). Conditions: its text has the shape given. -/
namespace Go.Evl
open Go.RowKit

structure Att where
  fa : FuncId
  fna : Func
  A : Code
  id1 : Nat
  om : Oper
  od : Oper
  C : Code
  t : Tmp
  g : FuncId
  fng : Func
  id2 : Nat
  orec : Oper
  obin : Oper
  dr : Tmp
  db : Tmp
  ti : TypeId
  tj : TypeId
  X : Code

structure Att.Ok (P : Program) (T : Att) : Prop where
  hfa : P.funcs[T.fa]? = some T.fna
  hba : T.fna.body = some (.seq T.A (.seq (.region T.id1 #[T.om, T.od] false) T.C))
  hod : T.od.op = .defer { callee := .value (.tmp T.t), args := #[], argTypes := #[] }
  hodg : T.od.guard = none
  hodd : T.od.dst = none
  hfg : P.funcs[T.g]? = some T.fng
  hgn : (T.fng.name == "runtime.NumGoroutine") = false
  hbg : T.fng.body = some (.seq (.region T.id2 #[T.orec, T.obin] false) (.cond (.tmp T.db) T.X .skip))
  hrec : T.orec.op = .call { callee := .builtin .recover, args := #[], argTypes := #[] }
  hrecg : T.orec.guard = none
  hrecd : T.orec.dst = some T.dr
  hbin : T.obin.op = .binOp .neq T.ti (.tmp T.dr) (.const .nilIface) T.tj
  hbing : T.obin.guard = none
  hbind : T.obin.dst = some T.db
  hdr : (show Nat from T.dr) < T.fng.ntmps
  hdb : (show Nat from T.db) < T.fng.ntmps
  hres : T.fng.results = #[]
  hti : P.underlying T.ti = some (.interface (P.methodsAt T.ti))
  hne : T.dr ≠ T.db

def attEnd (P : Program) (T : Att) (m : Nat) (H2 : List Ob) (tm : List AV) (H : List Ob) : Option (Res × List Ob) :=
  if noDfr m H2 then (resultsA P ⟨tm, H⟩ T.fna.results.toList).map fun vs => (.ret (packA vs), H) else none
def attRun (Γ : Cx) (cf : CallF) (df : DrawF) (lp lpg : Nat → LK) (T : Att) (args : List AV) (H : List Ob) : Option (Res × List Ob) :=
  match runC Γ cf df lp T.A ⟨frame0 T.fna args, H⟩ with
  | some (.normal, st0) =>
    match stepA Γ cf #[T.om, T.od] 0 st0 with
    | some (true, st1) =>
      match getT st1.tm T.t with
      | .fn (.func g) cs =>
        if Nat.beq g T.g && Nat.ble cs.length T.fng.ntmps && noDfr H.length st1.hp then
          match runC Γ cf df lp T.C st1 with
          | some (.ret, st2) => attEnd Γ.P T H.length st2.hp st2.tm st2.hp
          | some (.normal, st2) => attEnd Γ.P T H.length st2.hp st2.tm st2.hp
          | some (.pan, st2) =>
            match runC Γ cf df lpg T.X ⟨((frame0 T.fng cs).set T.dr .junk).set T.db (.bool true), st2.hp⟩ with
            | some (.normal, st3) => if noDfr st2.hp.length st3.hp then attEnd Γ.P T H.length st2.hp st2.tm st3.hp else none
            | _ => none
          | _ => none
        else none
      | _ => none
    | _ => none
  | _ => none
theorem marks_nil {ds l : List Deferred} {m : Nat} {ρ : Nm} {H : List Ob} (h : Marks ⟨ds, m⟩ ρ H l) (hn : noDfr m H = true) : l = ds := by
  obtain ⟨ids, rfl, _, hi⟩ := h
  cases ids with
  | nil => rfl
  | cons id ids =>
    exfalso
    obtain ⟨h1, h2⟩ := hi id (by simp)
    have hd : (H.drop m)[id - m]? = some .dfr := by rw [List.getElem?_drop, show m + (id - m) = id by simp only at h2; omega]; exact h1
    have := List.all_eq_true.1 hn _ (List.mem_of_getElem? hd)
    simp [isDfr] at this
theorem marks_0 {ds : List Deferred} {m : Nat} {ρ : Nm} {H : List Ob} : Marks ⟨ds, m⟩ ρ H ds := ⟨[], rfl, .nil, fun _ h => by cases h⟩

section
variable {Γ : Cx} {Inv : World → Prop} {cf : CallF} {df : DrawF} {lp lpg : Nat → LK} {w0 : World} {T : Att}

theorem defer_run {P : Program} {x : Operand → Value} {o : Oper} {t : Tmp} (ho : o.op = .defer { callee := .value (.tmp t), args := #[], argTypes := #[] }) {g : FuncId} {us : Array Value} (hx : x (.tmp t) = .func (.func g) #[] us) (w : World) :
    (execOp x o).run P w = .ok (.defer { target := .fn (.func g) us, args := #[] }) w := by
  simp [execOp, ho, resolve, hx, Deferred.ofValue]

theorem attEnd_sound {ρ : Nm} {A : Nat → Prop} {w1 w : World} {st : St} {a : Act} {H H2 : List Ob} {m : Nat} {q : Res} {H' : List Ob} (htm : Rvs ρ A w (Live st.hp) st.tm a.tmps.toList) (hmem : Mem w0 ρ A w st.hp) (h : attEnd Γ.P T m H2 st.tm st.hp = some (q, H'))
    {ρ0 : Nm} {A0 : Nat → Prop} (hext : Ext (Live H) ρ0 A0 w1 (Live st.hp) ρ A w) : ∃ v, (results T.fna a.tmps).run Γ.P w = .ok v w ∧ EndRel w0 ρ0 A0 w1 H q H' (.returned v) w := by
  unfold attEnd at h
  split at h
  case isFalse => simp at h
  obtain ⟨vs, hvs, he⟩ := Option.map_eq_some_iff.1 h
  simp only [Prod.mk.injEq] at he
  obtain ⟨rfl, rfl⟩ := he
  obtain ⟨u, hu, hru⟩ := results_run (fn := T.fna) (xs := vs) (st := st) htm hmem hvs
  exact ⟨u, hu, ρ, A, hmem, hext, u, rfl, hru⟩
theorem attEnd_no {P : Program} {m : Nat} {tm : List AV} {H H2 : List Ob} {q : Res × List Ob} (h : attEnd P T m H2 tm H = some q) : noDfr m H2 = true := by
  unfold attEnd at h
  split at h
  · assumption
  · simp at h

theorem attRun_sound (hT : T.Ok Γ.P) (hΓ : Γ.Ok Inv) (hI : Stable Inv) (h0 : Inv w0) (hcf : CallSound Γ.P Inv cf) (hdf : DrawSound Γ.P Inv df) (hdl : DrawLen df) (hdk : DrawKeep df)
    (hlA : LoopsOk Γ cf df lp T.fna.ntmps T.A) (hlC : LoopsOk Γ cf df lp T.fna.ntmps T.C) (hlX : LoopsOk Γ cf df lpg T.fng.ntmps T.X) {args : List AV} {H : List Ob} {q : Res} {H' : List Ob} (hargs : args.length ≤ T.fna.ntmps)
    (h : attRun Γ cf df lp lpg T args H = some (q, H')) {ρ : Nm} {A : Nat → Prop} {w : World} {vs : List Value} (hm : Mem w0 ρ A w H) (hv : Rvs ρ A w (Live H) args vs) :
    Calls Γ.P T.fa vs.toArray w (EndRel w0 ρ A w H q H') := by
  rw [← callsIn_fr (r := none) (n := 1)]
  have hlen : vs.length = args.length := hv.1.symm
  have hrel : Rel ⟨[], H.length⟩ w0 ρ A ⟨frame0 T.fna args, H⟩ { tmps := vs.toArray ++ Array.replicate (T.fna.ntmps - vs.toArray.size) undef, defers := [] } w := by
    refine ⟨?_, marks_0, hm⟩
    have : (vs.toArray ++ Array.replicate (T.fna.ntmps - vs.toArray.size) undef).toList = vs ++ List.replicate (T.fna.ntmps - args.length) undef := by simp [hlen]
    rw [this]
    exact hv.append (.replicate .raw _)
  have hl0 : (frame0 T.fna args).length = T.fna.ntmps := by simp [frame0]; omega
  refine callsIn_of_wp_defers hT.hfa hT.hba trivial ?_ rfl
  unfold attRun at h
  split at h
  case h_2 => simp at h
  rename_i st0 hA
  split at h
  case h_2 => simp at h
  rename_i st1 hop
  split at h
  case h_2 => simp at h
  rename_i g cs hg
  split at h
  case isFalse => simp at h
  rename_i hgc
  simp only [Bool.and_eq_true, Nat.beq_eq, Nat.ble_eq] at hgc
  obtain ⟨⟨rfl, hcs⟩, hnd1⟩ := hgc
  have hl1 : st0.tm.length = T.fna.ntmps := by rw [runC_length hdl _ hA]; exact hl0
  have hl2 : st1.tm.length = T.fna.ntmps := by rw [stepA_length hop]; exact hl1
  refine wpIn_seq (wpIn_mono (runC_sound hΓ hI h0 hcf hdf hdl hdk (fun _ => rfl) _ T.A (Nat.le_refl _) hlA _ ρ A w _ .normal st0 hrel hl0 (Nat.le_refl _) hA) ?_)
  rintro x a0 wa ⟨ρa, Aa, hxa, rfl, hra⟩
  refine wpIn_seq (wpIn_region ?_)
  show wpOpsIn _ _ _ _ _ [0, 1] _ _
  rw [wpOpsIn_cons]
  refine stepA_sound hΓ hI h0 hcf hra hop (fun _ => ?_) (fun e => by cases e)
  rintro a1 wb ⟨ρb, Ab, hxb, _, hrb⟩
  rw [wpOpsIn_cons]
  unfold wpOpIn
  have e1 : (#[T.om, T.od] : Array Oper)[1]? = some T.od := rfl
  simp only [e1, Region.wanted, hT.hodg, if_true]
  have hfv := opd_rv hrb.tm (.tmp T.t)
  simp only [opd, hg] at hfv
  obtain ⟨us, hus, hurv⟩ := hfv.of_fn
  refine ⟨fun _ _ => trivial, ?_⟩
  rw [show Oper.semAt (Fr none).round a1.eval T.od = execOp a1.eval T.od from rfl, defer_run hT.hod hus wb]
  rw [Oper.uponIn_defer]
  change Code.wpIn (Fr none) 1 Γ.P T.C (bodyPostDIn (Fr none) 1 Γ.P T.fna (EndRel w0 ρ A w H q H')) ({ a1 with defers := { target := .fn (.func T.g) us.toArray, args := #[] } :: a1.defers }.put T.od.dst undef) wb
  have hd1 : ({ a1 with defers := { target := .fn (.func T.g) us.toArray, args := #[] } :: a1.defers }.put T.od.dst undef) = { a1 with defers := [{ target := .fn (.func T.g) us.toArray, args := #[] }] } := by
    rw [hT.hodd, marks_nil hrb.df hnd1]; rfl
  rw [hd1]
  have hm1 : H.length ≤ st1.hp.length := Nat.le_trans (runC_keep hcf hdk hdl _ T.A (Nat.le_refl _) hlA _ _ _ hl0 hA).2 (stepA_len hcf hop)
  have hrd : Rel ⟨[{ target := .fn (.func T.g) us.toArray, args := #[] }], H.length⟩ w0 ρb Ab st1 { a1 with defers := [{ target := .fn (.func T.g) us.toArray, args := #[] }] } wb := ⟨hrb.tm, marks_0, hrb.mem⟩
  have hinv : ∀ w, (invoke (.fn (.func T.g) us.toArray) #[]).run Γ.P w = .ok (.enter T.g us.toArray) w := fun w => by
    have : (invoke (.fn (.func T.g) us.toArray) #[]).run Γ.P w = (callFunc T.g us.toArray).run Γ.P w := by simp [invoke]
    rw [this, callFunc_enter hT.hfg hT.hgn (by simp [hT.hbg])]
  have hne : T.dr ≠ T.db := hT.hne
  have hrr : ∀ x w, (execOp x T.orec).run Γ.P w = .ok .recover w := fun x w => by
    simp only [execOp, hT.hrec, resolve]
    simp [invoke]
    rfl
  have hul : us.length = cs.length := hurv.1.symm
  have e0' : (#[T.orec, T.obin] : Array Oper)[0]? = some T.orec := rfl
  have e1' : (#[T.orec, T.obin] : Array Oper)[1]? = some T.obin := rfl
  have hres0 : ∀ tmps w, (results T.fng tmps).run Γ.P w = .ok (.tuple #[]) w := fun tmps w => by simp [results, hT.hres]
  -- the catching function in a frame that returns
  have idle : ∀ w', CallsDIn (Fr none) 0 Γ.P T.g us.toArray .returning w' fun e u' w'' => e = .returned (.tuple #[]) ∧ u' = .returning ∧ w'' = w' := by
    intro w'
    refine callsDIn_of_wpSIn hT.hfg hT.hbg trivial fun c₀ cs₀ hu => ?_
    refine wpSIn_seq (wpSIn_region ?_)
    show wpOpsSIn _ _ _ _ _ [0, 1] _ _ _
    have hrd0 : recoverD (c₀ :: cs₀) = none := by simp [recoverD, hu]
    have hev : (({ tmps := us.toArray ++ Array.replicate (T.fng.ntmps - us.toArray.size) undef, defers := [] } : Act).put (some T.dr) .nilIface).eval (.tmp T.dr) = .nilIface := by
      have h1 : (show Nat from T.dr) < us.length + (T.fng.ntmps - us.length) := by have := hT.hdr; omega
      have h2 : T.dr < us.length + (T.fng.ntmps - us.length) := h1
      simp [Act.put, Act.eval, Array.getD, h2]
    have hbr : (execOp (({ tmps := us.toArray ++ Array.replicate (T.fng.ntmps - us.toArray.size) undef, defers := [] } : Act).put (some T.dr) .nilIface).eval T.obin).run Γ.P w' = .ok (.value (.bool false)) w' := by
      simp only [execOp, hT.hbin, hev]
      simp [Act.eval, eqGuard, run_neq_nil_nil _ _ hT.hti]
    simp only [wpOpsSIn, e0', e1', Region.wanted, hT.hrecg, hT.hbing, if_true, hrr, hrd0, hT.hrecd, hT.hbind, hbr]
    refine ⟨fun _ _ => trivial, fun _ _ => trivial, ?_⟩
    refine wpSIn_cond (t := false) ?_ ?_
    · have h1 : (show Nat from T.db) < us.length + (T.fng.ntmps - us.length) := by have := hT.hdb; omega
      have h2 : T.db < us.length + (T.fng.ntmps - us.length) := h1
      simp [Act.put, Act.eval, Array.getD, h2]
    · simp only [Bool.false_eq_true, if_false]
      refine wpSIn_of_wpIn rfl (wpIn_skip ?_)
      exact ⟨rfl, .returning, by cases c₀; simp_all, _, hres0 _ _, rfl, rfl, rfl⟩
  -- the catching function in a frame that panics
  have catching : ∀ (t : TypeId) (v : Value) (ρ2 : Nm) (A2 : Nat → Prop) (w2 : World) (st2 st3 : St), Mem w0 ρ2 A2 w2 st2.hp → Rvs ρ2 A2 w2 (Live st2.hp) cs us → noDfr st2.hp.length st3.hp = true → runC Γ cf df lpg T.X ⟨((frame0 T.fng cs).set T.dr .junk).set T.db (.bool true), st2.hp⟩ = some (.normal, st3) →
      CallsDIn (Fr none) 0 Γ.P T.g us.toArray (.panicking [{ v := .iface t v, recovered := false }]) w2 fun e u' w3 => e = .returned (.tuple #[]) ∧ u' = .panicking [{ v := .iface t v, recovered := true }] ∧
        ∃ ρ3 A3, Mem w0 ρ3 A3 w3 st3.hp ∧ Ext (Live st2.hp) ρ2 A2 w2 (Live st3.hp) ρ3 A3 w3 := by
    intro t v ρ2 A2 w2 st2 st3 hm2 hus2 hnd3 hX
    refine callsDIn_of_wpSIn hT.hfg hT.hbg trivial fun c₀ cs₀ hu => ?_
    refine wpSIn_seq (wpSIn_region ?_)
    show wpOpsSIn _ _ _ _ _ [0, 1] _ _ _
    have hrd0 : recoverD (c₀ :: cs₀) = some (.iface t v, { c₀ with mode := .panicking [{ v := .iface t v, recovered := true }] } :: cs₀) := by simp [recoverD, hu]
    have hev : (({ tmps := us.toArray ++ Array.replicate (T.fng.ntmps - us.toArray.size) undef, defers := [] } : Act).put (some T.dr) (.iface t v)).eval (.tmp T.dr) = .iface t v := by
      have h1 : (show Nat from T.dr) < us.length + (T.fng.ntmps - us.length) := by have := hT.hdr; omega
      have h2 : T.dr < us.length + (T.fng.ntmps - us.length) := h1
      simp [Act.put, Act.eval, Array.getD, h2]
    have hbr : (execOp (({ tmps := us.toArray ++ Array.replicate (T.fng.ntmps - us.toArray.size) undef, defers := [] } : Act).put (some T.dr) (.iface t v)).eval T.obin).run Γ.P w2 = .ok (.value (.bool true)) w2 := by
      simp only [execOp, hT.hbin, hev]
      simp [Act.eval, eqGuard, run_neq_held_nil _ _ _ _ hT.hti]
    simp only [wpOpsSIn, e0', e1', Region.wanted, hT.hrecg, hT.hbing, if_true, hrr, hrd0, hT.hrecd, hT.hbind, hbr]
    refine ⟨fun _ _ => trivial, fun _ _ => trivial, ?_⟩
    refine wpSIn_cond (t := true) ?_ ?_
    · have h1 : (show Nat from T.db) < us.length + (T.fng.ntmps - us.length) := by have := hT.hdb; omega
      have h2 : T.db < us.length + (T.fng.ntmps - us.length) := h1
      simp [Act.put, Act.eval, Array.getD, h2]
    · simp only [if_true]
      have hrx : Rel ⟨[], st2.hp.length⟩ w0 ρ2 A2 ⟨((frame0 T.fng cs).set T.dr .junk).set T.db (.bool true), st2.hp⟩
          ((({ tmps := us.toArray ++ Array.replicate (T.fng.ntmps - us.toArray.size) undef, defers := [] } : Act).put (some T.dr) (.iface t v)).put (some T.db) (.bool true)) w2 := by
        refine ⟨?_, marks_0, hm2⟩
        have hbase : Rvs ρ2 A2 w2 (Live st2.hp) (frame0 T.fng cs) ({ tmps := us.toArray ++ Array.replicate (T.fng.ntmps - us.toArray.size) undef, defers := [] } : Act).tmps.toList := by
          have : (us.toArray ++ Array.replicate (T.fng.ntmps - us.toArray.size) undef).toList = us ++ List.replicate (T.fng.ntmps - cs.length) undef := by simp [hul]
          show Rvs ρ2 A2 w2 (Live st2.hp) (frame0 T.fng cs) (us.toArray ++ Array.replicate (T.fng.ntmps - us.toArray.size) undef).toList
          rw [this]
          exact hus2.append (.replicate .raw _)
        exact put_rel (put_rel hbase (some T.dr) .junk) (some T.db) .bool
      have hlx : (((frame0 T.fng cs).set T.dr .junk).set T.db (.bool true)).length = T.fng.ntmps := by simp [frame0]; omega
      refine wpSIn_of_wpIn rfl (wpIn_mono (runC_sound hΓ hI h0 hcf hdf hdl hdk (fun _ => rfl) _ T.X (Nat.le_refl _) hlX _ ρ2 A2 w2 _ .normal st3 hrx hlx (Nat.le_refl _) hX) ?_)
      rintro x a3 w3 ⟨ρ3, A3, hx3, rfl, hr3⟩
      exact ⟨marks_nil hr3.df hnd3, _, rfl, _, hres0 _ _, rfl, rfl, ρ3, A3, hr3.mem, hx3⟩
  have hx1 := hxa.trans hxb
  split at h
  · rename_i st2 hC
    refine wpIn_mono (runC_sound hΓ hI h0 hcf hdf hdl hdk (fun _ => rfl) _ T.C (Nat.le_refl _) hlC st1 ρb Ab wb _ .ret st2 hrd hl2 hm1 hC) ?_
    rintro x a2 w2 ⟨ρ2, A2, hx2, rfl, hr2⟩
    show LeavesIn _ _ _ _ a2.tmps _ a2.defers .returning w2
    rw [marks_nil hr2.df (attEnd_no h)]
    refine leavesIn_cons (by simp) (fun h => by simp [Fence.wide] at h) (hinv w2) (fun _ _ => trivial) ((idle w2).mono ?_)
    rintro e u' w3 ⟨rfl, rfl, rfl⟩
    exact attEnd_sound hr2.tm hr2.mem h (hx1.trans hx2)
  · rename_i st2 hC
    refine wpIn_mono (runC_sound hΓ hI h0 hcf hdf hdl hdk (fun _ => rfl) _ T.C (Nat.le_refl _) hlC st1 ρb Ab wb _ .normal st2 hrd hl2 hm1 hC) ?_
    rintro x a2 w2 ⟨ρ2, A2, hx2, rfl, hr2⟩
    show LeavesIn _ _ _ _ a2.tmps _ a2.defers .returning w2
    rw [marks_nil hr2.df (attEnd_no h)]
    refine leavesIn_cons (by simp) (fun h => by simp [Fence.wide] at h) (hinv w2) (fun _ _ => trivial) ((idle w2).mono ?_)
    rintro e u' w3 ⟨rfl, rfl, rfl⟩
    exact attEnd_sound hr2.tm hr2.mem h (hx1.trans hx2)
  · rename_i st2 hC
    split at h
    · rename_i st3 hX
      split at h
      case isFalse => simp at h
      rename_i hnd3
      refine wpIn_mono (runC_sound hΓ hI h0 hcf hdf hdl hdk (fun _ => rfl) _ T.C (Nat.le_refl _) hlC st1 ρb Ab wb _ .pan st2 hrd hl2 hm1 hC) ?_
      rintro x a2 w2 ⟨ρ2, A2, hx2, t, v, rfl, hr2⟩
      show LeavesIn _ _ _ _ a2.tmps _ a2.defers (.panicking _) w2
      rw [marks_nil hr2.df (attEnd_no h)]
      refine leavesIn_cons (by simp) (fun h => by simp [Fence.wide] at h) (hinv w2) (fun _ _ => trivial) ((catching t v ρ2 A2 w2 st2 st3 hr2.mem (hx2.rvs hurv) hnd3 hX).mono ?_)
      rintro e u' w3 ⟨rfl, rfl, ρ3, A3, hm3, hx3⟩
      show LeavesIn _ _ _ _ a2.tmps _ [] .returning w3
      exact attEnd_sound (st := ⟨st2.tm, st3.hp⟩) (a := a2) (hx3.rvs hr2.tm) hm3 h ((hx1.trans hx2).trans hx3)
    · simp at h
  · simp at h
end
end Go.Evl

/- Calls in place, to a depth; rounds of ranges over functions; a context out of lists. Conditions: the lists' contracts hold. -/
namespace Go.Evl
open Go.RowKit

def unrl (u : Nat → Nat) (i : Nat) : LT := .unroll (u i)
def rndLp (u : Nat → Nat) (i : Nat) : LT := bif Nat.beq i 500000 then .forget [] else .unroll (u i)
theorem rndLp_in (u : Nat → Nat) : inRnd (fun i => (rndLp u i).lk) = true := rfl

theorem loopsOk_unroll {Γ : Cx} {cf : CallF} {df : DrawF} (u : Nat → Nat) (nt : Nat) (c : Code) : LoopsOk Γ cf df (fun i => (unrl u i).lk) nt c := by
  intro p _ keep f h
  cases h
theorem loopsOk_rnd {Γ : Cx} {cf : CallF} {df : DrawF} (u : Nat → Nat) (nt : Nat) (c : Code) : LoopsOk Γ cf df (fun i => (rndLp u i).lk) nt c := by
  intro p _ keep f h
  simp only [rndLp] at h
  cases hb : Nat.beq p.1 500000 <;> rw [hb] at h <;> cases h

/-- behind the body of a round -/
def rndEnd (id : Nat) (e : Ex) (st : St) : Option (Res × List Ob) :=
  match st.hp[id]? with
  | some (.loop tm ps asg body blk _) => match e with
    | .normal => some (.ret (.bool true), st.hp.set id (.loop tm ps asg body blk .ready))
    | .ret => some (.ret (.bool false), st.hp.set id (.loop tm ps asg body blk (.done .ret)))
    | .exit i => some (.ret (.bool false), st.hp.set id (.loop tm ps asg body blk (.done (.exit i))))
    | .pan => none
  | _ => none
/-- before the body of a round: the record is busy -/
def rndMid (id : Nat) (st : St) : Option St :=
  match st.hp[id]? with
  | some (.loop tm ps asg body blk .ready) => some ⟨st.tm, st.hp.set id (.loop tm ps asg body blk .busy)⟩
  | _ => none
/-- a round begun -/
def rndBeg (id : Nat) (args : List AV) (H : List Ob) : Option (Code × Code × St) :=
  match H[id]? with
  | some (.loop tm ps asg body _ .ready) => bif Nat.beq args.length ps.size then some (asg, body, ⟨setAll tm ps.toList args, H⟩) else none
  | _ => none
def runRnd (Γ : Cx) (cf : CallF) (df : DrawF) (lp : Nat → LK) (id : Nat) (args : List AV) (H : List Ob) : Option (Res × List Ob) :=
  match rndBeg id args H with
  | some (asg, body, st0) =>
    match runC Γ cf df lp asg st0 with
    | some (.normal, st1) => match rndMid id st1 with
      | some st2 => match runC Γ cf df lp body st2 with
        | some (e, st3) => rndEnd id e st3
        | none => none
      | none => none
    | _ => none
  | none => none

section
variable {Γ : Cx} {Inv : World → Prop} {cf : CallF} {df : DrawF} {lp : Nat → LK} {w0 : World}

theorem rndBeg_out {id : Nat} {args : List AV} {H : List Ob} {asg body : Code} {st0 : St} (h : rndBeg id args H = some (asg, body, st0)) :
    ∃ tm ps blk, H[id]? = some (.loop tm ps asg body blk .ready) ∧ args.length = ps.size ∧ st0 = ⟨setAll tm ps.toList args, H⟩ := by
  unfold rndBeg at h
  split at h
  · rename_i tm ps asg' body' blk hH
    cases hb : Nat.beq args.length ps.size with
    | false => simp [hb] at h
    | true =>
      simp only [hb, cond_true, Option.some.injEq, Prod.mk.injEq] at h
      obtain ⟨rfl, rfl, rfl⟩ := h
      exact ⟨tm, ps, blk, hH, by simpa using hb, rfl⟩
  · simp at h
theorem rndMid_out {id : Nat} {st st2 : St} (h : rndMid id st = some st2) : ∃ tm ps asg body blk, st.hp[id]? = some (.loop tm ps asg body blk .ready) ∧ st2 = ⟨st.tm, st.hp.set id (.loop tm ps asg body blk .busy)⟩ := by
  unfold rndMid at h
  split at h
  · rename_i tm ps asg body blk hH
    simp only [Option.some.injEq] at h
    exact ⟨tm, ps, asg, body, blk, hH, h.symm⟩
  · simp at h
theorem rndEnd_out {id : Nat} {e : Ex} {st : St} {r : Res} {H' : List Ob} (h : rndEnd id e st = some (r, H')) :
    ∃ tm ps asg body blk s, st.hp[id]? = some (.loop tm ps asg body blk s) ∧ ∃ s', H' = st.hp.set id (.loop tm ps asg body blk s') := by
  unfold rndEnd at h
  split at h
  · rename_i tm ps asg body blk s hH
    refine ⟨tm, ps, asg, body, blk, s, hH, ?_⟩
    cases e with
    | normal => simp only [Option.some.injEq, Prod.mk.injEq] at h; exact ⟨_, h.2.symm⟩
    | ret => simp only [Option.some.injEq, Prod.mk.injEq] at h; exact ⟨_, h.2.symm⟩
    | exit i => simp only [Option.some.injEq, Prod.mk.injEq] at h; exact ⟨_, h.2.symm⟩
    | pan => simp at h
  · simp at h

theorem runRnd_parts {id : Nat} {args : List AV} {H : List Ob} {r : Res} {H' : List Ob} (h : runRnd Γ cf df lp id args H = some (r, H')) :
    ∃ asg body st0 st1 st2 e st3, rndBeg id args H = some (asg, body, st0) ∧ runC Γ cf df lp asg st0 = some (.normal, st1) ∧ rndMid id st1 = some st2 ∧ runC Γ cf df lp body st2 = some (e, st3) ∧ rndEnd id e st3 = some (r, H') := by
  unfold runRnd at h
  split at h
  case h_2 => simp at h
  rename_i asg body st0 h0
  split at h
  case h_2 => simp at h
  rename_i st1 h1
  split at h
  case h_2 => simp at h
  rename_i st2 h2
  split at h
  case h_2 => simp at h
  rename_i e st3 h3
  exact ⟨asg, body, st0, st1, st2, e, st3, h0, h1, h2, h3, h⟩

theorem runRnd_keep (hcf : CallSound Γ.P Inv cf) (hdl : DrawLen df) (hdk : DrawKeep df) (hlp : ∀ nt c, LoopsOk Γ cf df lp nt c) {id : Nat} {args : List AV} {H : List Ob} {r : Res} {H' : List Ob} (h : runRnd Γ cf df lp id args H = some (r, H')) :
    KeepD H H' ∧ H.length ≤ H'.length := by
  obtain ⟨asg, body, st0, st1, st2, e, st3, h0, h1, h2, h3, h4⟩ := runRnd_parts h
  obtain ⟨tm, ps, blk, hH, hl, rfl⟩ := rndBeg_out h0
  obtain ⟨k1, l1⟩ := runC_keep hcf hdk hdl _ asg (Nat.le_refl _) (hlp _ _) _ _ _ rfl h1
  obtain ⟨tm2, ps2, asg2, body2, blk2, hH2, rfl⟩ := rndMid_out h2
  obtain ⟨k3, l3⟩ := runC_keep hcf hdk hdl _ body (Nat.le_refl _) (hlp _ _) _ _ _ rfl h3
  obtain ⟨tm4, ps4, asg4, body4, blk4, s4, hH4, s', rfl⟩ := rndEnd_out h4
  have k2 : KeepD st1.hp (st1.hp.set id (.loop tm2 ps2 asg2 body2 blk2 .busy)) := KeepD.set hH2 (by simp)
  refine ⟨(k1.trans k2).trans (k3.trans (KeepD.set hH4 (by simp))), ?_⟩
  simp only [List.length_set] at l1 l3 ⊢
  omega

theorem setAll_fold {ρ : Nm} {A : Nat → Prop} {w : World} {N : Nat → Prop} : ∀ (ps : List Tmp) (args : List AV) (us : List Value) (tm : List AV) (vs : Array Value), Rvs ρ A w N tm vs.toList → Rvs ρ A w N args us →
    Rvs ρ A w N (setAll tm ps args) ((ps.zip us).foldl (fun (tmps : Array Value) (p : Tmp × Value) => tmps.setIfInBounds p.1 p.2) vs).toList := by
  intro ps
  induction ps with
  | nil => intro args us tm vs h _; simpa [setAll] using h
  | cons t ps ih =>
    intro args us tm vs h ha
    cases args with
    | nil => cases ha.nil_inv; simpa [setAll] using h
    | cons c args =>
      obtain ⟨v, us', rfl, h1, h2⟩ := ha.cons_inv
      simp only [setAll, List.zip_cons_cons, List.foldl_cons]
      refine ih args us' _ _ ?_ h2
      rw [Array.toList_setIfInBounds]
      exact h.set t h1

theorem runRnd_sound (hΓ : Γ.Ok Inv) (hI : Stable Inv) (h0 : Inv w0) (hcf : CallSound Γ.P Inv cf) (hdf : DrawSound Γ.P Inv df) (hdl : DrawLen df) (hdk : DrawKeep df) (hlp : ∀ nt c, LoopsOk Γ cf df lp nt c) (hin : inRnd lp = true)
    {id : Nat} {args : List AV} {H : List Ob} {r : Res} {H' : List Ob} (h : runRnd Γ cf df lp id args H = some (r, H')) {ρ : Nm} {A : Nat → Prop} {w : World} {vs : List Value} (hm : Mem w0 ρ A w H) (hv : Rvs ρ A w (Live H) args vs) :
    ∃ fn tmps asg body, (Instr.yield (ρ id) vs.toArray).run Γ.P w = .ok (.round (ρ id) fn tmps asg body) w ∧ ∀ rd n, RoundIn (Fr rd) n Γ.P (ρ id) fn tmps asg body w (EndRel w0 ρ A w H r H') := by
  obtain ⟨asg, body, st0, st1, st2, e, st3, hb, h1, h2, h3, h4⟩ := runRnd_parts h
  obtain ⟨tm, ps, blk, hH, hl, rfl⟩ := rndBeg_out hb
  obtain ⟨_, _, x, hx, hblk, fn, us, rfl, hus⟩ := (hm.hp.obj _ _ hH).solid rfl
  have hvl : vs.length = args.length := hv.1.symm
  refine ⟨fn, _, asg, body, run_yield hx (by simp; omega), fun rd n => ?_⟩
  refine roundIn_of_wpIn trivial ?_
  have hrel : Rel ⟨[], H.length⟩ w0 ρ A ⟨setAll tm ps.toList args, H⟩ { tmps := (ps.zip vs.toArray).foldl (fun tmps (t, a) => tmps.setIfInBounds t a) us.toArray, defers := [] } w := by
    refine ⟨?_, marks_0, hm⟩
    have := setAll_fold ps.toList args vs tm us.toArray hus hv
    rw [← Array.foldl_toList]
    simpa using this
  have hfr : ∀ l, (Fr rd).inRound l = Fr (some l) := fun _ => rfl
  rw [hfr]
  refine wpIn_mono (runC_sound hΓ hI h0 hcf hdf hdl hdk (fun e => by rw [hin] at e; cases e) _ asg (Nat.le_refl _) (hlp _ _) _ ρ A w _ .normal st1 hrel rfl (Nat.le_refl _) h1) ?_
  rintro x1 a1 w1 ⟨ρ1, A1, hx1, rfl, hr1⟩
  obtain ⟨tm2, ps2, asg2, body2, blk2, hH2, rfl⟩ := rndMid_out h2
  obtain ⟨_, _, y, hy, hblk2, fn2, us2, rfl, hus2⟩ := (hr1.mem.hp.obj _ _ hH2).solid rfl
  have hρ1 : ρ1 id = ρ id := (hx1.nam id ⟨_, hH, rfl⟩).1
  have hy' := hy
  rw [hρ1] at hy'
  have hbr := run_beginRound (P := Γ.P) hy' rfl
  show ∃ w2, _ ∧ _
  refine ⟨_, hbr, ?_⟩
  have hput := putO_of (w := w1) (b := ρ1 id) (x := .loop { state := .busy, pending := none, fn := fn2, tmps := us2.toArray, params := ps2, assign := asg2, body := body2, defers := ρ1 blk2 }) hy
  obtain ⟨m2, x2⟩ := hr1.mem.upd hH2 rfl (o' := .loop tm2 ps2 asg2 body2 blk2 .busy) rfl hput ⟨hblk2, fn2, us2, rfl, hus2⟩
  rw [hρ1] at m2 x2
  have hrel2 : Rel ⟨[], H.length⟩ w0 ρ1 A1 ⟨st1.tm, st1.hp.set id (.loop tm2 ps2 asg2 body2 blk2 .busy)⟩ a1 (w1.putObj (ρ id) (.loop { state := .busy, pending := none, fn := fn2, tmps := us2.toArray, params := ps2, assign := asg2, body := body2, defers := ρ1 blk2 })) :=
    ⟨x2.rvs hr1.tm, hr1.df.keep (KeepD.set hH2 (by simp)) x2.nam, m2⟩
  have hlen2 : H.length ≤ (st1.hp.set id (.loop tm2 ps2 asg2 body2 blk2 .busy)).length := by
    simpa using (runC_keep hcf hdk hdl _ asg (Nat.le_refl _) (hlp _ _) _ _ _ rfl h1).2
  refine wpIn_mono (runC_sound hΓ hI h0 hcf hdf hdl hdk (fun e => by rw [hin] at e; cases e) _ body (Nat.le_refl _) (hlp _ _) _ ρ1 A1 _ _ e st3 hrel2 rfl hlen2 h3) ?_
  rintro xx a3 w3 ⟨ρ3, A3, hx3, ho3⟩
  have hρ3 : ρ3 id = ρ id := by
    refine (hx3.nam id ?_).1.trans hρ1
    exact ⟨.loop tm2 ps2 asg2 body2 blk2 .busy, by rw [get_set_eq hH2]; simp, rfl⟩
  have fin : ∀ {tm ps asg body blk s}, Rel ⟨[], H.length⟩ w0 ρ3 A3 st3 a3 w3 → st3.hp[id]? = some (.loop tm ps asg body blk s) → ∀ (j : Option Code) (s' : LS), s'.state = (if j.isNone then .ready else .done) → s'.pending = j →
      ∃ v w4, (Instr.endRound (ρ id) j).run Γ.P w3 = .ok v w4 ∧ EndRel w0 ρ A w H (.ret (.bool j.isNone)) (st3.hp.set id (.loop tm ps asg body blk s')) (.returned v) w4 := by
    intro tm ps asg body blk s hr3 hl3 j s' hs1 hs2
    obtain ⟨_, _, z, hz, hblk3, fn3, us3, rfl, hus3⟩ := (hr3.mem.hp.obj _ _ hl3).solid rfl
    have hz' := hz
    rw [hρ3] at hz'
    refine ⟨_, _, run_endRound (P := Γ.P) j hz', ?_⟩
    have hput := putO_of (w := w3) (b := ρ3 id) (x := .loop { state := if j.isNone then .ready else .done, pending := j, fn := fn3, tmps := us3.toArray, params := ps, assign := asg, body := body, defers := ρ3 blk }) hz
    obtain ⟨m4, x4⟩ := hr3.mem.upd hl3 rfl (o' := .loop tm ps asg body blk s') rfl hput ⟨hblk3, fn3, us3, by rw [hs1, hs2], hus3⟩
    rw [hρ3] at m4 x4
    exact ⟨ρ3, A3, m4, ((hx1.trans x2).trans hx3).trans x4, _, rfl, .bool⟩
  unfold rndEnd at h4
  split at h4
  case h_2 => simp at h4
  rename_i tm4 ps4 asg4 body4 blk4 s4 hl4
  cases e with
  | normal =>
    obtain ⟨rfl, hr3⟩ := ho3
    simp only [Option.some.injEq, Prod.mk.injEq] at h4
    obtain ⟨rfl, rfl⟩ := h4
    exact fin hr3 hl4 none .ready rfl rfl
  | ret =>
    obtain ⟨rfl, hr3⟩ := ho3
    simp only [Option.some.injEq, Prod.mk.injEq] at h4
    obtain ⟨rfl, rfl⟩ := h4
    exact fin hr3 hl4 (some .ret) (.done .ret) rfl rfl
  | exit i =>
    obtain ⟨rfl, hr3⟩ := ho3
    simp only [Option.some.injEq, Prod.mk.injEq] at h4
    obtain ⟨rfl, rfl⟩ := h4
    exact fin hr3 hl4 (some (.exit i)) (.done (.exit i)) rfl rfl
  | pan => simp at h4
end

def callN (Γ : Cx) (att : FuncId → Option Att) (u : FuncId → Nat → Nat) : Nat → CallF
  | 0 => ⟨fun _ _ _ => none, fun _ _ _ => none⟩
  | n + 1 => ⟨fun f args H =>
    match att f with
    | some T => if Nat.ble args.length T.fna.ntmps then attRun Γ (callN Γ att u n) (drawF Γ) (fun i => (unrl (u f) i).lk) (fun i => (unrl (u f) i).lk) T args H else none
    | none => match Γ.P.funcs[f]? with
      | some fn => if Nat.ble args.length fn.ntmps then runFn Γ (callN Γ att u n) (drawF Γ) (fun i => (unrl (u f) i).lk) fn args H else none
      | none => none,
    fun id args H => runRnd Γ (callN Γ att u n) (drawF Γ) (fun i => (rndLp (u 0) i).lk) id args H⟩

section
variable {Γ : Cx} {Inv : World → Prop} {cf : CallF} {df : DrawF} {lp lpg : Nat → LK}
theorem freeD_keepD {H H' : List Ob} (h : KeepD H H') : KeepD H (freeD H.length H') := by
  intro id hid
  have hlt : id < H.length := (List.getElem?_eq_some_iff.1 hid).1
  have h1 := h id hid
  rcases freeD_get H.length H' id with h2 | ⟨h2, h3, _⟩
  · rw [h2]; exact h1
  · exfalso
    have : id < H'.length := (List.getElem?_eq_some_iff.1 h1).1
    revert h3
    unfold freeD at h2
    cases hn : noDfr H.length H' with
    | true => simp only [hn, cond_true] at h2; rw [h1] at h2; cases h2
    | false =>
      simp only [hn, cond_false] at h2
      rw [List.getElem?_append_left (by simp; omega), List.getElem?_take_of_lt hlt, h1] at h2
      cases h2
theorem leaveA_keep {P : Program} {fn : Func} {H : List Ob} {e : Ex} {st : St} {r : Res} {H' : List Ob} (hk : KeepD H st.hp) (hl : H.length ≤ st.hp.length) (h : leaveA P fn H.length (some (e, st)) = some (r, H')) : KeepD H H' ∧ H.length ≤ H'.length := by
  have h2 : H' = freeD H.length st.hp := by
    cases e with
    | normal => simp only [leaveA] at h; obtain ⟨_, _, he⟩ := Option.map_eq_some_iff.1 h; simp only [Prod.mk.injEq] at he; exact he.2.symm
    | ret => simp only [leaveA] at h; obtain ⟨_, _, he⟩ := Option.map_eq_some_iff.1 h; simp only [Prod.mk.injEq] at he; exact he.2.symm
    | pan => simp only [leaveA, Option.some.injEq, Prod.mk.injEq] at h; exact h.2.symm
    | exit i => simp [leaveA] at h
  subst h2
  exact ⟨freeD_keepD hk, by rw [freeD_len]; exact hl⟩
theorem runFn_keep (hcf : CallSound Γ.P Inv cf) (hdl : DrawLen df) (hdk : DrawKeep df) (hlp : ∀ nt c, LoopsOk Γ cf df lp nt c) {fn : Func} {args : List AV} {H : List Ob} {r : Res} {H' : List Ob} (h : runFn Γ cf df lp fn args H = some (r, H')) :
    KeepD H H' ∧ H.length ≤ H'.length := by
  unfold runFn at h
  split at h
  · rename_i c hb
    cases hr : runC Γ cf df lp c ⟨frame0 fn args, H⟩ with
    | none => simp [hr, leaveA] at h
    | some es =>
      obtain ⟨e, st⟩ := es
      rw [hr] at h
      obtain ⟨k, l⟩ := runC_keep hcf hdk hdl _ c (Nat.le_refl _) (hlp _ _) _ _ _ rfl hr
      exact leaveA_keep k l h
  · simp at h
theorem attEnd_hp {P : Program} {T : Att} {m : Nat} {H2 : List Ob} {tm : List AV} {H : List Ob} {q : Res} {H' : List Ob} (h : attEnd P T m H2 tm H = some (q, H')) : H' = H := by
  unfold attEnd at h
  split at h
  · obtain ⟨_, _, he⟩ := Option.map_eq_some_iff.1 h; simp only [Prod.mk.injEq] at he; exact he.2.symm
  · simp at h
theorem attRun_keep (hcf : CallSound Γ.P Inv cf) (hdl : DrawLen df) (hdk : DrawKeep df) (hlp : ∀ nt c, LoopsOk Γ cf df lp nt c) (hlpg : ∀ nt c, LoopsOk Γ cf df lpg nt c) {T : Att} {args : List AV} {H : List Ob} {r : Res} {H' : List Ob}
    (h : attRun Γ cf df lp lpg T args H = some (r, H')) : KeepD H H' ∧ H.length ≤ H'.length := by
  unfold attRun at h
  split at h
  case h_2 => simp at h
  rename_i st0 hA
  split at h
  case h_2 => simp at h
  rename_i st1 hop
  split at h
  case h_2 => simp at h
  rename_i g cs hg
  split at h
  case isFalse => simp at h
  obtain ⟨k0, l0⟩ := runC_keep hcf hdk hdl _ T.A (Nat.le_refl _) (hlp _ _) _ _ _ rfl hA
  have k1 := stepA_keep hcf hop
  have l1 := stepA_len hcf hop
  split at h
  · rename_i st2 hC
    obtain ⟨k2, l2⟩ := runC_keep hcf hdk hdl _ T.C (Nat.le_refl _) (hlp _ _) _ _ _ rfl hC
    rw [attEnd_hp h]
    exact ⟨(k0.trans k1).trans k2, by simp only at l0 ⊢; omega⟩
  · rename_i st2 hC
    obtain ⟨k2, l2⟩ := runC_keep hcf hdk hdl _ T.C (Nat.le_refl _) (hlp _ _) _ _ _ rfl hC
    rw [attEnd_hp h]
    exact ⟨(k0.trans k1).trans k2, by simp only at l0 ⊢; omega⟩
  · rename_i st2 hC
    obtain ⟨k2, l2⟩ := runC_keep hcf hdk hdl _ T.C (Nat.le_refl _) (hlp _ _) _ _ _ rfl hC
    split at h
    · rename_i st3 hX
      obtain ⟨k3, l3⟩ := runC_keep hcf hdk hdl _ T.X (Nat.le_refl _) (hlpg _ _) _ _ _ rfl hX
      split at h
      case isFalse => simp at h
      rw [attEnd_hp h]
      exact ⟨((k0.trans k1).trans k2).trans k3, by simp only at l0 l3 ⊢; omega⟩
    · simp at h
  · simp at h
end

theorem callN_sound {Γ : Cx} {Inv : World → Prop} {att : FuncId → Option Att} {u : FuncId → Nat → Nat} (hatt : ∀ f T, att f = some T → T.fa = f ∧ T.Ok Γ.P) (hΓ : Γ.Ok Inv) (hI : Stable Inv)
    (hm : Γ.P.follows .mixedOrders = true) : ∀ n, CallSound Γ.P Inv (callN Γ att u n) := by
  intro n
  induction n with
  | zero =>
    constructor
    · intro f args H r H' h; simp [callN] at h
    · intro f args H r H' h; simp [callN] at h
    · intro f args H r H' h; simp [callN] at h
    · intro f args H r H' h; simp [callN] at h
    · intro f args H r H' h; simp [callN] at h
    · intro f args H r H' h; simp [callN] at h
  | succ n ih =>
    have hk : ∀ f args H r H', (callN Γ att u (n + 1)) f args H = some (r, H') → KeepD H H' ∧ H.length ≤ H'.length := by
      intro f args H r H' h
      simp only [callN] at h
      split at h
      · split at h
        · exact attRun_keep ih drawF_len drawF_keep (loopsOk_unroll _) (loopsOk_unroll _) h
        · simp at h
      · split at h
        · split at h
          · exact runFn_keep ih drawF_len drawF_keep (loopsOk_unroll _) h
          · simp at h
        · simp at h
    have hrk : ∀ id args H r H', (callN Γ att u (n + 1)).rnd id args H = some (r, H') → KeepD H H' ∧ H.length ≤ H'.length := by
      intro id args H r H' h
      simp only [callN] at h
      exact runRnd_keep ih drawF_len drawF_keep (loopsOk_rnd _) h
    refine ⟨fun f args H r H' h => (hk f args H r H' h).1, fun f args H r H' h => (hk f args H r H' h).2, fun id args H r H' h => (hrk id args H r H' h).2, ?_, fun id args H r H' h => (hrk id args H r H' h).1, ?_⟩
    · intro f args H r H' h w0 ρ A w vs h0 hmem hv
      simp only [callN] at h
      split at h
      · rename_i T hT
        obtain ⟨rfl, hok⟩ := hatt f T hT
        split at h
        · rename_i hle
          exact attRun_sound hok hΓ hI h0 ih (drawF_sound hΓ hI hm) drawF_len drawF_keep (loopsOk_unroll _ _ _) (loopsOk_unroll _ _ _) (loopsOk_unroll _ _ _) (by simpa using hle) h hmem hv
        · simp at h
      · split at h
        · rename_i fn hfn
          split at h
          · rename_i hle
            cases hb : fn.body with
            | none => simp [runFn, hb] at h
            | some c => exact runFn_sound hΓ hI h0 ih (drawF_sound hΓ hI hm) drawF_len drawF_keep hfn hb (loopsOk_unroll _ _ _) (by simpa using hle) h hmem hv
          · simp at h
        · simp at h
    · intro id args H r H' h w0 ρ A w vs h0 hmem hv _
      simp only [callN] at h
      exact runRnd_sound hΓ hI h0 ih (drawF_sound hΓ hI hm) drawF_len drawF_keep (loopsOk_rnd _) (rndLp_in _) h hmem hv

section
variable {β : Type} (P : Program) (sp : Sp) (inl : FuncId → Bool) (ext : FuncId → Option (List AV → Option (Bool × AV))) (cK : CallK β) {cf : CallF}

def rndK (lp : Nat → LT) (id : Nat) (args : List AV) (H : List Ob) (k : Res → List Ob → Tr β) : Tr β :=
  match rndBeg id args H with
  | some (asg, body, st0) => evCT P sp inl ext cK lp asg st0 fun e st1 => match e with
    | .normal => match rndMid id st1 with
      | some st2 => evCT P sp inl ext cK lp body st2 fun e st3 => match rndEnd id e st3 with
        | some (r, H') => k r H'
        | none => .non
      | none => .non
    | _ => .non
  | none => .non
theorem rndK_eq (hcf : CallEq cK cf) (lp : Nat → LT) (id : Nat) (args : List AV) (H : List Ob) (k : Res → List Ob → Tr β) : (rndK P sp inl ext cK lp id args H k).run =
    (runRnd (mkCx P sp inl ext) cf (drawF (mkCx P sp inl ext)) (fun i => (lp i).lk) id args H).bind fun p => (k p.1 p.2).run := by
  unfold rndK runRnd
  cases rndBeg id args H with
  | none => rfl
  | some q =>
    obtain ⟨asg, body, st0⟩ := q
    simp only
    rw [evCT_eq P sp inl ext cK hcf lp _ asg (Nat.le_refl _)]
    cases runC (mkCx P sp inl ext) cf (drawF (mkCx P sp inl ext)) (fun i => (lp i).lk) asg st0 with
    | none => rfl
    | some p =>
      obtain ⟨e, st1⟩ := p
      cases e with
      | normal =>
        simp only [Option.bind_some]
        cases rndMid id st1 with
        | none => rfl
        | some st2 =>
          simp only
          rw [evCT_eq P sp inl ext cK hcf lp _ body (Nat.le_refl _)]
          cases runC (mkCx P sp inl ext) cf (drawF (mkCx P sp inl ext)) (fun i => (lp i).lk) body st2 with
          | none => rfl
          | some p =>
            obtain ⟨e, st3⟩ := p
            simp only [Option.bind_some]
            cases rndEnd id e st3 with
            | none => rfl
            | some q => rfl
      | _ => rfl

def attEndK (T : Att) (m : Nat) (H2 : List Ob) (k : Res → List Ob → Tr β) (tm : List AV) (H : List Ob) : Tr β :=
  match attEnd P T m H2 tm H with
  | some (r, H') => k r H'
  | none => .non
def attK (lp lpg : Nat → LT) (T : Att) (args : List AV) (H : List Ob) (k : Res → List Ob → Tr β) : Tr β :=
  evCT P sp inl ext cK lp T.A ⟨frame0 T.fna args, H⟩ fun e st0 => match e with
    | .normal => evStep P sp inl ext cK #[T.om, T.od] 0 st0 fun b st1 =>
      bif b then
        match getT st1.tm T.t with
        | .fn (.func g) cs =>
          bif Nat.beq g T.g && Nat.ble cs.length T.fng.ntmps && noDfr H.length st1.hp then
            evCT P sp inl ext cK lp T.C st1 fun e st2 => match e with
              | .ret => attEndK P T H.length st2.hp k st2.tm st2.hp
              | .normal => attEndK P T H.length st2.hp k st2.tm st2.hp
              | .pan => evCT P sp inl ext cK lpg T.X ⟨((frame0 T.fng cs).set T.dr .junk).set T.db (.bool true), st2.hp⟩ fun e st3 => match e with
                | .normal => bif noDfr st2.hp.length st3.hp then attEndK P T H.length st2.hp k st2.tm st3.hp else .non
                | _ => .non
              | _ => .non
          else .non
        | _ => .non
      else .non
    | _ => .non
theorem attK_eq (hcf : CallEq cK cf) (lp lpg : Nat → LT) (T : Att) (args : List AV) (H : List Ob) (k : Res → List Ob → Tr β) : (attK P sp inl ext cK lp lpg T args H k).run =
    (attRun (mkCx P sp inl ext) cf (drawF (mkCx P sp inl ext)) (fun i => (lp i).lk) (fun i => (lpg i).lk) T args H).bind fun p => (k p.1 p.2).run := by
  have hend : ∀ H2 tm H', (attEndK P T H.length H2 k tm H').run = (attEnd P T H.length H2 tm H').bind fun p => (k p.1 p.2).run := by
    intro H2 tm H'
    unfold attEndK
    cases attEnd P T H.length H2 tm H' <;> rfl
  unfold attK attRun
  rw [evCT_eq P sp inl ext cK hcf lp _ T.A (Nat.le_refl _)]
  cases runC (mkCx P sp inl ext) cf (drawF (mkCx P sp inl ext)) (fun i => (lp i).lk) T.A ⟨frame0 T.fna args, H⟩ with
  | none => rfl
  | some p =>
    obtain ⟨e, st0⟩ := p
    cases e with
    | normal =>
      simp only [Option.bind_some]
      rw [evStep_eq P sp inl ext cK hcf]
      cases stepA (mkCx P sp inl ext) cf #[T.om, T.od] 0 st0 with
      | none => rfl
      | some p =>
        obtain ⟨b, st1⟩ := p
        cases b with
        | false => rfl
        | true =>
          simp only [Option.bind_some, cond_true]
          cases getT st1.tm T.t with
          | fn fv cs =>
            cases fv with
            | func g =>
              simp only
              cases (Nat.beq g T.g && Nat.ble cs.length T.fng.ntmps && noDfr H.length st1.hp) with
              | false => rfl
              | true =>
                simp only [cond_true, if_true]
                rw [evCT_eq P sp inl ext cK hcf lp _ T.C (Nat.le_refl _)]
                cases runC (mkCx P sp inl ext) cf (drawF (mkCx P sp inl ext)) (fun i => (lp i).lk) T.C st1 with
                | none => rfl
                | some p =>
                  obtain ⟨e, st2⟩ := p
                  cases e with
                  | normal => exact hend _ _ _
                  | ret => exact hend _ _ _
                  | exit i => rfl
                  | pan =>
                    simp only [Option.bind_some]
                    rw [evCT_eq P sp inl ext cK hcf lpg _ T.X (Nat.le_refl _)]
                    cases runC (mkCx P sp inl ext) cf (drawF (mkCx P sp inl ext)) (fun i => (lpg i).lk) T.X ⟨((frame0 T.fng cs).set T.dr .junk).set T.db (.bool true), st2.hp⟩ with
                    | none => rfl
                    | some p =>
                      obtain ⟨e, st3⟩ := p
                      cases e with
                      | normal =>
                        simp only [Option.bind_some]
                        cases noDfr st2.hp.length st3.hp with
                        | false => rfl
                        | true => exact hend _ _ _
                      | _ => rfl
            | _ => rfl
          | _ => rfl
    | _ => rfl
end

def callK {β : Type} (P : Program) (sp : Sp) (inl : FuncId → Bool) (ext : FuncId → Option (List AV → Option (Bool × AV))) (att : FuncId → Option Att) (u : FuncId → Nat → Nat) : Nat → CallK β
  | 0 => ⟨fun _ _ _ _ => .non, fun _ _ _ _ => .non⟩
  | n + 1 => ⟨fun f args H k =>
    match att f with
    | some T => bif Nat.ble args.length T.fna.ntmps then attK P sp inl ext (callK P sp inl ext att u n) (unrl (u f)) (unrl (u f)) T args H k else .non
    | none => match P.funcs[f]? with
      | some fn => bif Nat.ble args.length fn.ntmps then evFnT P sp inl ext (callK P sp inl ext att u n) (unrl (u f)) fn args H k else .non
      | none => .non,
    fun id args H k => rndK P sp inl ext (callK P sp inl ext att u n) (rndLp (u 0)) id args H k⟩
theorem callK_eq {β : Type} (P : Program) (sp : Sp) (inl : FuncId → Bool) (ext : FuncId → Option (List AV → Option (Bool × AV))) (att : FuncId → Option Att) (u : FuncId → Nat → Nat) : ∀ n, CallEq (callK (β := β) P sp inl ext att u n) (callN (mkCx P sp inl ext) att u n) := by
  intro n
  induction n with
  | zero => exact ⟨fun f args H k => rfl, fun id args H k => rfl⟩
  | succ n ih =>
    refine ⟨fun f args H k => ?_, fun id args H k => ?_⟩
    · simp only [callK, callN]
      cases att f with
      | some T =>
        simp only
        cases Nat.ble args.length T.fna.ntmps with
        | false => rfl
        | true => exact attK_eq P sp inl ext _ ih _ _ T args H k
      | none =>
        simp only
        show _ = Option.bind (match P.funcs[f]? with | some fn => _ | none => _) _
        cases P.funcs[f]? with
        | none => rfl
        | some fn =>
          simp only
          cases Nat.ble args.length fn.ntmps with
          | false => rfl
          | true => exact evFnT_eq P sp inl ext _ ih _ fn args H k
    · simp only [callK, callN]
      exact rndK_eq P sp inl ext _ ih _ id args H k
end Go.Evl
