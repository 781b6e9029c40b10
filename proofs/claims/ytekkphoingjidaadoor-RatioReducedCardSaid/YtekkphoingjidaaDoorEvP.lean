/- A region whose order is drawn, in whatever order: the theorem's end. Conditions: the context's contracts hold; the program mixes orders. -/
import Derived.Test.YtekkphoingjidaaDoorEvO
namespace Go.Evl
open Go.RowKit

def deadNow (ops : Array Oper) (bl : List Nat) (i : Nat) : Bool := match ops[i]? with
  | some o => o.after.toList.any fun e => Region.binds .any e && bl.any (Nat.beq e.on)
  | none => false
def runD (Γ : Cx) (ops : Array Oper) (m : Nat) : List Nat → List Nat → St → Option (List (Nat × Acc) × St)
  | [], _, st => some ([], st)
  | i :: rest, bl, st => match stepD Γ ops m (fun _ => deadNow ops bl i) i st with
    | none => none
    | some (a, s1) => match runD Γ ops m rest (bif isBl a then i :: bl else bl) s1 with
      | none => none
      | some (L, s2) => some ((i, a) :: L, s2)
def ddOf (L : List (Nat × Acc)) (i : Nat) : Bool := L.any fun p => Nat.beq p.1 i && isDd p.2
/-- the dead ones wait for one that panics or is dead -/
def chkB (ops : Array Oper) (F : List (Nat × Acc)) : Bool :=
  F.all fun p => !isDd p.2 || (match ops[p.1]? with
    | some o => o.after.toList.any fun e => Region.binds .any e && F.any fun q => Nat.beq q.1 e.on && isBl q.2
    | none => false)
/-- the slots that no operation lays -/
def keepD (ops : Array Oper) (nt : Nat) : List Nat := (List.range nt).filter fun t => !(ops.toList.any fun o => o.dst == some t)
def chkEdges (ops : Array Oper) : Bool :=
  (List.range ops.size).all fun i => match ops[i]? with
    | none => false
    | some o => o.after.toList.all fun e => !Region.binds .any e || Nat.blt e.on i
def tempB (ops : Array Oper) (x i : Nat) : Bool :=
  match ops[x]?, ops[i]? with
  | some o, some q => tempDep ops o q
  | _, _ => true
def chkT (ops : Array Oper) : List Nat → Bool
  | [] => true
  | x :: L => (L.all fun y => !tempB ops x y || pathB ops 4 y x) && chkT ops L
def chkM (ops : Array Oper) : List (Nat × Acc) → Bool
  | [] => true
  | x :: L => (L.all fun y => !memDep x.2 y.2 || pathB ops 4 y.1 x.1) && chkM ops L
def chkS (ops : Array Oper) : Bool := chkEdges ops && chkT ops (List.range ops.size)
def trim : List Ob → List Ob
  | [] => []
  | o :: os => match trim os, o with
    | [], .free => []
    | r, o => o :: r
/-- a drawn region's end: of the run in the order of the text -/
def endD (ops : Array Oper) (m : Nat) (L : List (Nat × Acc)) (s : St) : Option (Ex × St) :=
  if chkM ops L && chkB ops L then
    if L.any (fun p => isPn p.2) then
      if L.any (fun p => isWr p.2) then none
      else match cutBack (keepD ops s.tm.length) m s with
        | some (vs, H) => some (.pan, ⟨mkF s.tm.length (keepD ops s.tm.length) vs, H⟩)
        | none => none
    else some (.normal, ⟨s.tm, trim s.hp⟩)
  else none
def drawF (Γ : Cx) : DrawF := fun ops st =>
  if chkS ops then
    match runD Γ ops st.hp.length (List.range ops.size) [] ⟨st.tm, st.hp ++ List.replicate ops.size .free⟩ with
    | none => none
    | some (L, s) => endD ops st.hp.length L s
  else none

section
variable {D : List Deferred} {Γ : Cx} {Inv : World → Prop} {ops : Array Oper} {m : Nat} {w0 : World} {ρ : Nat → Nat} {A : Nat → Prop} {w : World} {r : Option Nat} {n : Nat}

theorem stepD_dd {dd : Nat → Bool} {i : Nat} {s s1 : St} {a : Acc} (h : stepD Γ ops m dd i s = some (a, s1)) : isDd a = dd i := by
  unfold stepD kindD at h
  cases ho : ops[i]? with
  | none => simp [ho] at h
  | some o =>
    simp only [ho] at h
    cases hd : dd i with
    | true => simp only [hd, cond_true, Option.some.injEq, Prod.mk.injEq] at h; obtain ⟨rfl, _⟩ := h; rfl
    | false =>
      simp only [hd, cond_false] at h
      cases hw : wantA ops s.tm o with
      | none => simp [hw] at h
      | some g =>
        simp only [hw] at h
        cases g with
        | false => simp only [cond_false, Option.some.injEq, Prod.mk.injEq] at h; obtain ⟨rfl, _⟩ := h; rfl
        | true =>
          simp only [cond_true] at h
          cases hp : plan Γ (opd s.tm) o.op with
          | none => simp [hp] at h
          | some cp =>
            obtain ⟨c, p⟩ := cp
            simp only [hp] at h
            cases c with
            | false => simp at h
            | true =>
              simp only [cond_true] at h
              cases hpn : isPan p with
              | true => simp only [hpn, cond_true, Option.some.injEq, Prod.mk.injEq] at h; obtain ⟨rfl, _⟩ := h; rfl
              | false =>
                simp only [hpn, cond_false] at h
                cases hdp : doPlan (m + i) s.hp p with
                | none => simp [hdp] at h
                | some vH =>
                  simp only [hdp, Option.some.injEq, Prod.mk.injEq] at h
                  obtain ⟨rfl, _⟩ := h
                  cases p <;> rfl
theorem stepD_congr {dd dd' : Nat → Bool} {i : Nat} (h : dd i = dd' i) (s : St) : stepD Γ ops m dd i s = stepD Γ ops m dd' i s := by
  unfold stepD kindD
  rw [h]
theorem runD_runA : ∀ (l bl : List Nat) {s s2 : St} {L : List (Nat × Acc)}, runD Γ ops m l bl s = some (L, s2) → L.map (·.1) = l ∧ ∀ dd : Nat → Bool, (∀ p ∈ L, dd p.1 = isDd p.2) → RunA Γ ops m dd L s s2 := by
  intro l
  induction l with
  | nil => intro bl s s2 L h; simp only [runD, Option.some.injEq, Prod.mk.injEq] at h; obtain ⟨rfl, rfl⟩ := h; exact ⟨rfl, fun _ _ => .nil⟩
  | cons i l ih =>
    intro bl s s2 L h
    simp only [runD] at h
    split at h
    · simp at h
    · rename_i a s1 h1
      split at h
      · simp at h
      · rename_i L' s2' h2
        simp only [Option.some.injEq, Prod.mk.injEq] at h
        obtain ⟨rfl, rfl⟩ := h
        obtain ⟨k1, k2⟩ := ih _ h2
        refine ⟨by simp [k1], fun dd hdd => .cons ?_ (k2 dd fun p hp => hdd p (by simp [hp]))⟩
        rw [stepD_congr (dd' := fun _ => deadNow ops bl i) (by rw [hdd (i, a) (by simp), stepD_dd h1])]
        exact h1
theorem ddOf_mem {L : List (Nat × Acc)} (hpw : L.Pairwise (fun x y => x.1 < y.1)) {p : Nat × Acc} (hp : p ∈ L) : ddOf L p.1 = isDd p.2 := by
  unfold ddOf
  cases hd : isDd p.2 with
  | true => exact List.any_eq_true.2 ⟨p, hp, by simp [hd]⟩
  | false =>
    rw [List.any_eq_false]
    intro q hq
    simp only [Bool.and_eq_true, Nat.beq_eq, not_and]
    intro he
    have : q = p := by
      induction L with
      | nil => cases hp
      | cons x L ih =>
        have hc := List.pairwise_cons.1 hpw
        rcases List.mem_cons.1 hp with hp | hp <;> rcases List.mem_cons.1 hq with hq | hq
        · rw [hp, hq]
        · have := hc.1 q hq; rw [← hp] at this; omega
        · have := hc.1 p hp; rw [← hq] at this; omega
        · exact ih hc.2 hp hq
    rw [this, hd]; simp

theorem trim_get : ∀ (H : List Ob) (i : Nat) (o : Ob), (trim H)[i]? = some o → H[i]? = some o := by
  intro H
  induction H with
  | nil => intro i o h; simp [trim] at h
  | cons x H ih =>
    intro i o h
    simp only [trim] at h
    split at h
    · simp at h
    · cases i with
      | zero => simpa using h
      | succ i => simpa using ih i o (by simpa using h)
theorem trim_live : ∀ (H : List Ob) (i : Nat) (o : Ob), H[i]? = some o → o.live = true → (trim H)[i]? = some o := by
  intro H
  induction H with
  | nil => intro i o h; simp at h
  | cons x H ih =>
    intro i o h hl
    have hs : ∀ i, H[i]? = some o → (Go.Evl.trim H)[i]? = some o := fun i h => ih i o h hl
    simp only [trim]
    revert hs
    generalize Go.Evl.trim H = T
    intro hs
    split
    · cases i with
      | zero => simp at h; subst h; cases hl
      | succ i => have := hs i (by simpa using h); simp at this
    · cases i with
      | zero => simpa using h
      | succ i => simpa using hs i (by simpa using h)
theorem live_trim {H : List Ob} {i : Nat} : Live (trim H) i ↔ Live H i :=
  ⟨fun ⟨o, h, hl⟩ => ⟨o, trim_get H i o h, hl⟩, fun ⟨o, h, hl⟩ => ⟨o, trim_live H i o h hl, hl⟩⟩
theorem live_pad {H : List Ob} {k i : Nat} : Live (H ++ List.replicate k .free) i ↔ Live H i := by
  constructor
  · rintro ⟨o, h, hl⟩
    rcases Nat.lt_or_ge i H.length with h' | h'
    · rw [List.getElem?_append_left h'] at h; exact ⟨o, h, hl⟩
    · rw [List.getElem?_append_right h', List.getElem?_replicate] at h
      split at h
      · simp only [Option.some.injEq] at h; subst h; cases hl
      · simp at h
  · rintro ⟨o, h, hl⟩
    have h' := (List.getElem?_eq_some_iff.1 h).1
    exact ⟨o, by rw [List.getElem?_append_left h']; exact h, hl⟩

theorem Mem.pad {H : List Ob} (h : Mem w0 ρ A w H) (k : Nat) : Mem w0 ρ A w (H ++ List.replicate k .free) := by
  refine ⟨⟨fun id o ho => ?_, fun i j hi hj => h.hp.inj i j (live_pad.1 hi) (live_pad.1 hj)⟩, h.bel, h.lt⟩
  cases o with
  | free => trivial
  | cells cs t =>
    obtain ⟨o', ho', hl'⟩ := live_pad.1 (⟨_, ho, rfl⟩ : Live (H ++ List.replicate k .free) id)
    have hlt := (List.getElem?_eq_some_iff.1 ho').1
    rw [List.getElem?_append_left hlt, ho'] at ho
    cases ho
    obtain ⟨h1, h2, vs, h3, h4⟩ := h.hp.obj id _ ho'
    exact ⟨h1, h2, vs, h3, h4.mono (fun _ hi => live_pad.2 hi) (fun _ _ => rfl) (fun _ h => h) (fun _ _ => rfl)⟩
theorem Mem.trim {H : List Ob} (h : Mem w0 ρ A w H) : Mem w0 ρ A w (trim H) := by
  refine ⟨⟨fun id o ho => ?_, fun i j hi hj => h.hp.inj i j (live_trim.1 hi) (live_trim.1 hj)⟩, h.bel, h.lt⟩
  have ho' := trim_get H id o ho
  have := h.hp.obj id o ho'
  cases o with
  | free => trivial
  | cells cs t =>
    obtain ⟨h1, h2, vs, h3, h4⟩ := this
    exact ⟨h1, h2, vs, h3, h4.mono (fun _ hi => live_trim.2 hi) (fun _ _ => rfl) (fun _ h => h) (fun _ _ => rfl)⟩

theorem stepD_sound {D : List Deferred} {dd : Nat → Bool} (hΓ : Γ.Ok Inv) (hI : Stable Inv) (h0 : Inv w0) {i : Nat} {st st' : St} {acc : Acc} {a : Act} (hr : Rel D w0 ρ A st a w) (hdd : dd i = false)
    (h : stepD Γ ops m dd i st = some (acc, st')) {K : Act → World → Prop} {Q : Exit → Act → World → Prop}
    (hK : isPn acc = false → ∀ a' w' ρ' A', Ext (Live st.hp) ρ A w (Live st'.hp) ρ' A' w' → Rel D w0 ρ' A' st' a' w' → K a' w')
    (hP : isPn acc = true → ∀ t v w' ρ' A', Ext (Live st.hp) ρ A w (Live st.hp) ρ' A' w' → Rel D w0 ρ' A' st a w' → Q (.panic [{ v := .iface t v, recovered := false }]) a w') :
    wpOpIn (Fr r) n Γ.P ops Q i K a w := by
  unfold stepD kindD at h
  unfold wpOpIn
  cases ho : ops[i]? with
  | none => simp [ho] at h
  | some o =>
    have hdst : dstD ops i = o.dst := by simp [dstD, ho]
    simp only [ho, hdd, cond_false] at h ⊢
    cases hw : wantA ops st.tm o with
    | none => simp [hw] at h
    | some g =>
      simp only [hw] at h
      rw [wantA_ok hr.tm hw]
      cases g with
      | false =>
        simp only [cond_false, Option.some.injEq, Prod.mk.injEq] at h
        obtain ⟨rfl, rfl⟩ := h
        simp only [Bool.false_eq_true, if_false]
        refine ⟨about_fr o a, hK rfl _ _ ρ A (Ext.refl _ _ _ _) ⟨by rw [hdst]; exact put_rel hr.tm o.dst .raw, ?_, hr.mem⟩⟩
        cases hd : o.dst <;> simp [Act.put, hr.df]
      | true =>
        simp only [cond_true] at h
        simp only [if_true]
        cases hp : plan Γ (opd st.tm) o.op with
        | none => simp [hp] at h
        | some cp =>
          obtain ⟨c, p⟩ := cp
          simp only [hp] at h
          cases c with
          | false => simp at h
          | true =>
            simp only [cond_true] at h
            have hacts := plan_acts hΓ hr.tm hr.mem.lt hp rfl
            have hnd := plan_noDefer hp
            cases hpn : isPan p with
            | true =>
              simp only [hpn, cond_true, Option.some.injEq, Prod.mk.injEq] at h
              obtain ⟨rfl, rfl⟩ := h
              cases p with
              | pan =>
                obtain ⟨t, v, hrun⟩ := hacts
                refine ⟨about_fr o a, ?_⟩
                rw [Oper.semAt_eq _ _ _ hnd, hrun]
                exact hP rfl t v w ρ A (Ext.refl _ _ _ _) hr
              | spc f args q =>
                cases q with
                | ret v => simp [isPan] at hpn
                | pan =>
                  obtain ⟨s, hs, hq⟩ := plan_spc hp
                  obtain ⟨vs, hv, hrun⟩ := hacts
                  refine ⟨about_fr o a, ?_⟩
                  rw [Oper.semAt_eq _ _ _ hnd, hrun]
                  refine ⟨fun h => by simp [Fence.wide] at h, ?_⟩
                  rw [callsIn_fr]
                  refine (hΓ.spec f s hs args _ hq ρ A w vs hr.mem.lt (hI _ _ h0 hr.mem.bel) hv).mono ?_
                  rintro e w' ⟨hb, t, u, rfl⟩
                  obtain ⟨m1, m2⟩ := hr.mem.grow hb
                  exact hP rfl t u w' _ _ m2 ⟨m2.rvs hr.tm, hr.df, m1⟩
              | _ => simp [isPan] at hpn
            | false =>
              simp only [hpn, cond_false] at h
              cases hd : doPlan (m + i) st.hp p with
              | none => simp [hd] at h
              | some vH =>
                obtain ⟨v, H⟩ := vH
                simp only [hd, Option.some.injEq, Prod.mk.injEq] at h
                obtain ⟨rfl, rfl⟩ := h
                refine doPlan_sound hΓ hI h0 hr.mem hnd hacts hd (fun f args q e => plan_spc (by rw [hp, e])) fun u w' ⟨ρ', A', m1, m2, hv⟩ => hK (by cases p <;> rfl) _ _ ρ' A' m2 ⟨by rw [hdst]; exact put_rel (m2.rvs hr.tm) o.dst hv, ?_, m1⟩
                cases hd : o.dst <;> simp [Act.put, hr.df]

def Listed (l : Array Bool) (i : Nat) : Prop := l.getD i false = true
theorem pathB_listed {l : Array Bool} (hc : ∀ j o, Listed l j → ops[j]? = some o → ∀ e ∈ o.after.toList, Region.binds .any e = true → Listed l e.on) : ∀ (k i x : Nat) (o : Oper), ops[i]? = some o →
    (∀ e ∈ o.after.toList, Region.binds .any e = true → Listed l e.on) → pathB ops k i x = true → Listed l x := by
  intro k
  induction k with
  | zero => intro i x o _ _ h; simp [pathB] at h
  | succ k ih =>
    intro i x o ho hp h
    simp only [pathB, ho, List.any_eq_true, Bool.and_eq_true, Bool.or_eq_true, Nat.beq_eq] at h
    obtain ⟨e, he, hb, hx⟩ := h
    have hl := hp e he hb
    rcases hx with hx | ⟨_, hx⟩
    · rw [← hx]; exact hl
    · cases hoe : ops[e.on]? with
      | none => cases k <;> simp [pathB, hoe] at hx
      | some o' => exact ih e.on x o' hoe (fun e' he' hb' => hc e.on o' hl hoe e' he' hb') hx
end
end Go.Evl
