/- A region whose order is drawn: independent operations commute. No condition. -/
import Derived.Test.YtekkphoingjidaaDoorEvM
namespace Go.Evl
open Go.RowKit

inductive Acc where
  | none
  | rd (id : Nat)
  | wr (id : Nat)
  | nw (id : Nat)
  | pn
  | dd
  deriving Inhabited
def accP (fresh : Nat) : Plan → Acc
  | .load id _ _ _ => .rd id
  | .store id _ _ => .wr id
  | .new _ _ => .nw fresh
  | _ => .none
def memDep : Acc → Acc → Bool
  | .none, _ => false
  | _, .none => false
  | .pn, _ => false
  | _, .pn => false
  | .dd, _ => false
  | _, .dd => false
  | .rd _, .rd _ => false
  | .rd a, .wr b => Nat.beq a b
  | .rd a, .nw b => Nat.beq a b
  | .wr a, .rd b => Nat.beq a b
  | .wr a, .wr b => Nat.beq a b
  | .wr a, .nw b => Nat.beq a b
  | .nw a, .rd b => Nat.beq a b
  | .nw a, .wr b => Nat.beq a b
  | .nw a, .nw b => Nat.beq a b

def isPan : Plan → Bool
  | .pan => true
  | .spc _ _ .pan => true
  | _ => false
/-- what one operation of a drawn region is about: a fixed value, or a plan; dd: the operations that can't come up, as they wait for one that panics -/
inductive Kd where
  | fix (a : Acc) (u : AV)
  | act (p : Plan)
def kindD (Γ : Cx) (ops : Array Oper) (dd : Nat → Bool) (i : Nat) (tm : List AV) : Option Kd :=
  match ops[i]? with
  | none => none
  | some o =>
    bif dd i then some (.fix .dd .junk)
    else match wantA ops tm o with
      | none => none
      | some g =>
        bif g then
          match plan Γ (opd tm) o.op with
          | none => none
          | some (c, p) => bif c then (bif isPan p then some (.fix .pn .junk) else some (.act p)) else none
        else some (.fix .none (.raw undef))
def isDd : Acc → Bool
  | .dd => true
  | _ => false
def isPn : Acc → Bool
  | .pn => true
  | _ => false
def isWr : Acc → Bool
  | .wr _ => true
  | _ => false
def isBl (a : Acc) : Bool := isPn a || isDd a
def dstD (ops : Array Oper) (i : Nat) : Option Tmp := (ops[i]?).bind (·.dst)
/-- one operation of a drawn region: what it touches, and the state behind it -/
def stepD (Γ : Cx) (ops : Array Oper) (m : Nat) (dd : Nat → Bool) (i : Nat) (st : St) : Option (Acc × St) :=
  match kindD Γ ops dd i st.tm with
  | none => none
  | some (.fix a u) => some (a, ⟨putA st.tm (dstD ops i) u, st.hp⟩)
  | some (.act p) =>
    match doPlan (m + i) st.hp p with
    | none => none
    | some (v, H) => some (accP (m + i) p, ⟨putA st.tm (dstD ops i) v, H⟩)

/-- the temporaries that an operation looks at -/
def looks (ops : Array Oper) (o : Oper) : List Tmp := o.looksAt ops
def tempDep (ops : Array Oper) (x y : Oper) : Bool :=
  (match x.dst with
   | some d => (looks ops y).contains d || y.dst == some d
   | none => false) ||
  (match y.dst with
   | some d => (looks ops x).contains d
   | none => false)

section
variable {Γ : Cx} {ops : Array Oper} {m : Nat}

theorem map_congr' {α β : Type} {f g : α → β} : ∀ {l : List α}, (∀ x ∈ l, f x = g x) → l.map f = l.map g := by
  intro l h; exact List.map_congr_left h
theorem plan_congr {x y : Operand → AV} {op : Op} (h : ∀ z ∈ op.operands, x z = y z) : plan Γ x op = plan Γ y op := by
  cases op <;> simp only [Op.operands] at h <;> simp only [plan]
  case build t ps =>
    have : (ps.toList.map fun p => (p.1, x p.2)) = (ps.toList.map fun p => (p.1, y p.2)) := List.map_congr_left fun p hp => by rw [h p.2 (by simp; exact ⟨p.1, by simpa using hp⟩)]
    rw [this]
  case buildSlice t n ps =>
    have : (ps.toList.map fun p => (p.1, x p.2)) = (ps.toList.map fun p => (p.1, y p.2)) := List.map_congr_left fun p hp => by rw [h p.2 (by simp; exact ⟨p.1, by simpa using hp⟩)]
    rw [this]
  case makeFunc f first cap =>
    have : cap.toList.map x = cap.toList.map y := List.map_congr_left fun p hp => h p (by simp at hp ⊢; exact .inr hp)
    rw [this]
  case call c =>
    obtain ⟨callee, args, ats⟩ := c
    simp only [Call.operands] at h ⊢
    have ha : args.toList.map x = args.toList.map y := List.map_congr_left fun p hp => h p (by simp at hp ⊢; exact .inr hp)
    cases callee with
    | value f =>
      have hf := h f (by simp)
      show callA Γ (x f) (args.toList.map x) = callA Γ (y f) (args.toList.map y)
      rw [hf, ha]
    | invoke r nm => rfl
    | builtin b =>
      cases b <;> simp only [ha]
      split
      · rename_i z t hz ht
        have : z ∈ args.toList := by rw [hz]; simp
        rw [h z (by simpa using this)]
      · rfl
  all_goals (first | rfl | (simp only [List.mem_toArray, List.mem_cons, List.not_mem_nil, or_false, forall_eq_or_imp, forall_eq] at h; simp only [h]; done) | (simp at h; simp [h]; done) | skip)

theorem getT_put {tm : List AV} {dst : Option Tmp} {v : AV} {t : Tmp} (h : ∀ d, dst = some d → d ≠ t) : getT (putA tm dst v) t = getT tm t := by
  cases dst with
  | none => rfl
  | some d => simp only [getT, putA]; rw [List.getElem?_set_ne (h d rfl)]
theorem opd_put {tm : List AV} {dst : Option Tmp} {v : AV} {z : Operand} (h : ∀ d, dst = some d → z ≠ .tmp d) : opd (putA tm dst v) z = opd tm z := by
  cases z with
  | tmp t => exact getT_put fun d hd e => h d hd (by rw [e])
  | _ => rfl
theorem putA_comm {tm : List AV} {x y : Option Tmp} {u v : AV} (h : ∀ d, x = some d → y ≠ some d) : putA (putA tm x u) y v = putA (putA tm y v) x u := by
  cases x with
  | none => rfl
  | some d => cases y with
    | none => rfl
    | some e => simp only [putA]; exact List.set_comm _ _ (fun e' => h d rfl (by rw [e']))
theorem looks_op {o : Oper} {t : Tmp} (h : Operand.tmp t ∈ o.op.operands) : t ∈ looks ops o :=
  List.mem_append_left _ (List.mem_filterMap.2 ⟨.tmp t, by simpa using h, rfl⟩)
theorem plan_put {tm : List AV} {o : Oper} {dst : Option Tmp} {v : AV} (h : ∀ d, dst = some d → d ∉ looks ops o) : plan Γ (opd (putA tm dst v)) o.op = plan Γ (opd tm) o.op :=
  plan_congr fun z hz => opd_put fun d hd e => h d hd (looks_op (by rw [← e]; exact hz))
theorem wantA_put {tm : List AV} {o : Oper} {dst : Option Tmp} {v : AV} (h : ∀ d, dst = some d → d ∉ looks ops o) : wantA ops (putA tm dst v) o = wantA ops tm o := by
  unfold wantA
  cases hg : o.guard with
  | none => rfl
  | some jw =>
    obtain ⟨j, want⟩ := jw
    simp only
    cases hd : (ops[j]?).bind (·.dst) with
    | none => rfl
    | some d =>
      simp only
      rw [getT_put fun e he e' => h e he (by subst e'; simp [looks, Oper.looksAt, hg, hd])]

theorem kindD_put {dd : Nat → Bool} {i : Nat} {tm : List AV} {dst : Option Tmp} {v : AV} (h : ∀ o, ops[i]? = some o → ∀ d, dst = some d → d ∉ looks ops o) : kindD Γ ops dd i (putA tm dst v) = kindD Γ ops dd i tm := by
  unfold kindD
  cases ho : ops[i]? with
  | none => rfl
  | some o => simp only [wantA_put (h o ho), plan_put (h o ho)]

/-- what a plan does to a heap: by its touch -/
theorem doPlan_comm {f g : Nat} {H H1 H2 : List Ob} {p q : Plan} {u v : AV} (hp : doPlan f H p = some (u, H1)) (hq : doPlan g H1 q = some (v, H2)) (hm : memDep (accP f p) (accP g q) = false)
    (hf : f < H.length) (hg : g < H.length) :
    ∃ H1', doPlan g H q = some (v, H1') ∧ doPlan f H1' p = some (u, H2) ∧ H1'.length = H.length ∧ H1.length = H.length := by
  have hfl : ∀ {H : List Ob}, f < H.length → Nat.beq f H.length = false := fun h => by rw [Bool.eq_false_iff]; simp only [ne_eq, Nat.beq_eq]; omega
  have hgl : ∀ {H : List Ob}, g < H.length → Nat.beq g H.length = false := fun h => by rw [Bool.eq_false_iff]; simp only [ne_eq, Nat.beq_eq]; omega
  have hne : ∀ {a b : Nat}, Nat.beq a b = false → a ≠ b := fun h e => by subst e; simp at h
  -- the four kinds of p
  have key : (H1 = H ∧ (accP f p = .none ∨ ∃ id, accP f p = .rd id ∧ ∀ (H' : List Ob), H'[id]? = H[id]? → doPlan f H' p = some (u, H')) ∧ (accP f p = .none → ∀ H' : List Ob, doPlan f H' p = some (u, H'))) ∨
      (∃ id o' , (accP f p = .wr id ∨ accP f p = .nw id) ∧ H1 = H.set id o' ∧ ∀ H' : List Ob, H'[id]? = H[id]? → H'.length = H.length → doPlan f H' p = some (u, H'.set id o')) := by
    cases p with
    | val x => simp only [doPlan, Option.some.injEq, Prod.mk.injEq] at hp; obtain ⟨rfl, rfl⟩ := hp; exact .inl ⟨rfl, .inl rfl, fun _ _ => rfl⟩
    | spc ff args q => cases q with
      | ret x => simp only [doPlan, Option.some.injEq, Prod.mk.injEq] at hp; obtain ⟨rfl, rfl⟩ := hp; exact .inl ⟨rfl, .inl rfl, fun _ _ => rfl⟩
      | pan => simp [doPlan] at hp
    | load id off k ag =>
      have hr : ∀ (H' : List Ob), H'[id]? = H[id]? → doPlan f H' (.load id off k ag) = some (u, H') := by
        intro H' he
        simp only [doPlan] at hp ⊢
        rw [he]
        split at hp
        · rename_i cs t ho
          split at hp
          · rename_i hle
            rw [if_pos hle]
            cases ag with
            | true => simp only [if_true, Option.some.injEq, Prod.mk.injEq] at hp ⊢; exact ⟨hp.1, trivial⟩
            | false =>
              simp only [Bool.false_eq_true, if_false] at hp ⊢
              obtain ⟨c, hc, h2⟩ := Option.map_eq_some_iff.1 hp
              simp only [Prod.mk.injEq] at h2
              rw [hc, ← h2.1]; rfl
          · simp at hp
        · simp at hp
      have h1 : H1 = H := by
        simp only [doPlan] at hp
        split at hp
        · split at hp
          · cases ag with
            | true => simp only [if_true, Option.some.injEq, Prod.mk.injEq] at hp; exact hp.2.symm
            | false =>
              simp only [Bool.false_eq_true, if_false] at hp
              obtain ⟨c, hc, h2⟩ := Option.map_eq_some_iff.1 hp
              simp only [Prod.mk.injEq] at h2
              exact h2.2.symm
          · simp at hp
        · simp at hp
      exact .inl ⟨h1, .inr ⟨id, rfl, hr⟩, fun h => by simp [accP] at h⟩
    | new cs t =>
      simp only [doPlan, hfl hf, Bool.false_eq_true, if_false] at hp
      split at hp
      · rename_i hfr
        simp only [Option.some.injEq, Prod.mk.injEq] at hp
        obtain ⟨rfl, rfl⟩ := hp
        refine .inr ⟨f, .cells cs t, .inr rfl, rfl, fun H' he hl => ?_⟩
        simp only [doPlan, hfl (H := H') (by omega), Bool.false_eq_true, if_false]
        rw [he, hfr]
      · simp at hp
    | store id off cs =>
      simp only [doPlan] at hp
      split at hp
      · rename_i bs t ho
        split at hp
        · rename_i hle
          simp only [Option.some.injEq, Prod.mk.injEq] at hp
          obtain ⟨rfl, rfl⟩ := hp
          refine .inr ⟨id, .cells (seg bs off cs) t, .inl rfl, rfl, fun H' he hl => ?_⟩
          simp only [doPlan]
          rw [he, ho]
          simp only [hle, if_true]
        · simp at hp
      · simp at hp
    | call ff args => simp [doPlan] at hp
    | pan => simp [doPlan] at hp
  have keyq : ∀ (Hx : List Ob) (v' : AV) (Hy : List Ob), doPlan g Hx q = some (v', Hy) → g < Hx.length →
      (Hy = Hx ∧ (accP g q = .none ∨ ∃ id, accP g q = .rd id ∧ ∀ (H' : List Ob), H'[id]? = Hx[id]? → doPlan g H' q = some (v', H')) ∧ (accP g q = .none → ∀ H' : List Ob, doPlan g H' q = some (v', H'))) ∨
      (∃ id o' , (accP g q = .wr id ∨ accP g q = .nw id) ∧ Hy = Hx.set id o' ∧ ∀ H' : List Ob, H'[id]? = Hx[id]? → H'.length = Hx.length → doPlan g H' q = some (v', H'.set id o')) := by
    intro Hx v' Hy hq hg
    cases q with
    | val x => simp only [doPlan, Option.some.injEq, Prod.mk.injEq] at hq; obtain ⟨rfl, rfl⟩ := hq; exact .inl ⟨rfl, .inl rfl, fun _ _ => rfl⟩
    | spc ff args q => cases q with
      | ret x => simp only [doPlan, Option.some.injEq, Prod.mk.injEq] at hq; obtain ⟨rfl, rfl⟩ := hq; exact .inl ⟨rfl, .inl rfl, fun _ _ => rfl⟩
      | pan => simp [doPlan] at hq
    | load id off k ag =>
      have hr : ∀ (H' : List Ob), H'[id]? = Hx[id]? → doPlan g H' (.load id off k ag) = some (v', H') := by
        intro H' he
        simp only [doPlan] at hq ⊢
        rw [he]
        split at hq
        · rename_i cs t ho
          split at hq
          · rename_i hle
            rw [if_pos hle]
            cases ag with
            | true => simp only [if_true, Option.some.injEq, Prod.mk.injEq] at hq ⊢; exact ⟨hq.1, trivial⟩
            | false =>
              simp only [Bool.false_eq_true, if_false] at hq ⊢
              obtain ⟨c, hc, h2⟩ := Option.map_eq_some_iff.1 hq
              simp only [Prod.mk.injEq] at h2
              rw [hc, ← h2.1]; rfl
          · simp at hq
        · simp at hq
      have h1 : Hy = Hx := by
        simp only [doPlan] at hq
        split at hq
        · split at hq
          · cases ag with
            | true => simp only [if_true, Option.some.injEq, Prod.mk.injEq] at hq; exact hq.2.symm
            | false =>
              simp only [Bool.false_eq_true, if_false] at hq
              obtain ⟨c, hc, h2⟩ := Option.map_eq_some_iff.1 hq
              simp only [Prod.mk.injEq] at h2
              exact h2.2.symm
          · simp at hq
        · simp at hq
      exact .inl ⟨h1, .inr ⟨id, rfl, hr⟩, fun h => by simp [accP] at h⟩
    | new cs t =>
      simp only [doPlan, hgl hg, Bool.false_eq_true, if_false] at hq
      split at hq
      · rename_i hfr
        simp only [Option.some.injEq, Prod.mk.injEq] at hq
        obtain ⟨rfl, rfl⟩ := hq
        refine .inr ⟨g, .cells cs t, .inr rfl, rfl, fun H' he hl => ?_⟩
        simp only [doPlan, hgl (H := H') (by omega), Bool.false_eq_true, if_false]
        rw [he, hfr]
      · simp at hq
    | store id off cs =>
      simp only [doPlan] at hq
      split at hq
      · rename_i bs t ho
        split at hq
        · rename_i hle
          simp only [Option.some.injEq, Prod.mk.injEq] at hq
          obtain ⟨rfl, rfl⟩ := hq
          refine .inr ⟨id, .cells (seg bs off cs) t, .inl rfl, rfl, fun H' he hl => ?_⟩
          simp only [doPlan]
          rw [he, ho]
          simp only [hle, if_true]
        · simp at hq
      · simp at hq
    | call ff args => simp [doPlan] at hq
    | pan => simp [doPlan] at hq
  rcases key with ⟨rfl, hp1, hp2⟩ | ⟨id, o', ha, rfl, hp1⟩
  · -- p only reads
    rcases keyq _ _ _ hq hg with ⟨rfl, hq1, hq2⟩ | ⟨id', o', ha', rfl, hq1⟩
    · exact ⟨H2, hq, hp, rfl, rfl⟩
    · refine ⟨_, hq, ?_, by simp, rfl⟩
      rcases hp1 with h0 | ⟨idp, hrd, hr⟩
      · exact hp2 h0 _
      · refine hr _ ?_
        have : idp ≠ id' := by
          rcases ha' with ha' | ha' <;> (rw [hrd, ha'] at hm; exact hne hm)
        rw [List.getElem?_set_ne (fun e => this e.symm)]
  · -- p writes
    rcases keyq _ _ _ hq (by simpa using hg) with ⟨rfl, hq1, hq2⟩ | ⟨id', o2, ha', rfl, hq1⟩
    · refine ⟨H, ?_, hp1 H rfl rfl, rfl, by simp⟩
      rcases hq1 with h0 | ⟨idq, hrd, hr⟩
      · exact hq2 h0 _
      · refine hr _ ?_
        have : id ≠ idq := by
          rcases ha with ha | ha <;> (rw [hrd, ha] at hm; exact hne hm)
        rw [List.getElem?_set_ne this]
    · have hn : id ≠ id' := by
        rcases ha with ha | ha <;> rcases ha' with ha' | ha' <;> (rw [ha', ha] at hm; exact hne hm)
      refine ⟨H.set id' o2, hq1 H (by rw [List.getElem?_set_ne hn]) (by simp), ?_, by simp, by simp⟩
      rw [List.set_comm _ _ hn]
      exact hp1 _ (by rw [List.getElem?_set_ne (fun e => hn e.symm)]) (by simp)
end
end Go.Evl
