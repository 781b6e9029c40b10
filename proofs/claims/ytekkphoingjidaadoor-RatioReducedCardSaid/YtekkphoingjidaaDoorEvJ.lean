/- The evaluator is right about one operation, a region in the order of the text, code and calls. Conditions: the context's contracts hold; loops' summaries are right; drawn regions are right. -/
import Derived.Test.YtekkphoingjidaaDoorEvI
namespace Go.Evl
open Go.RowKit

/-- the fences used: all functions, any depth; a round or none -/
abbrev Fr (r : Option Nat) : Fence := { Fence.wide with round := r }
theorem callsIn_fr {r : Option Nat} {n : Nat} {P : Program} {f : FuncId} {args : Array Value} {w : World} {R : Ending → World → Prop} : CallsIn (Fr r) n P f args w R ↔ Calls P f args w R :=
  callsIn_wide (n := n)

/-- what the end of a call says -/
def EndRel (w0 : World) (ρ : Nat → Nat) (A : Nat → Prop) (w : World) (H : List Ob) (r : Res) (H' : List Ob) (e : Ending) (w' : World) : Prop :=
  ∃ ρ' A', Mem w0 ρ' A' w' H' ∧ Ext (Live H) ρ A w (Live H') ρ' A' w' ∧ match r with
    | .ret v => ∃ u, e = .returned u ∧ Rv ρ' A' w' (Live H') v u
    | .pan => ∃ t u, e = .panicked [{ v := .iface t u, recovered := false }]

def CallSound (P : Program) (Inv : World → Prop) (cf : CallF) : Prop :=
  ∀ f args H r H', cf f args H = some (r, H') → ∀ w0 ρ A w vs, Inv w0 → Mem w0 ρ A w H → Rvs ρ A w (Live H) args vs → Calls P f vs.toArray w (EndRel w0 ρ A w H r H')

/-- the invariant of the package-level variables stands over what a call leaves -/
def Stable (Inv : World → Prop) : Prop := ∀ w w', Inv w → Below w.heap.size w w' → Inv w'

/-- the relation between states -/
structure Rel (D : List Deferred) (w0 : World) (ρ : Nat → Nat) (A : Nat → Prop) (st : St) (a : Act) (w : World) : Prop where
  tm : Rvs ρ A w (Live st.hp) st.tm a.tmps.toList
  df : a.defers = D
  mem : Mem w0 ρ A w st.hp

section
variable {D : List Deferred} {Γ : Cx} {Inv : World → Prop} {cf : CallF} {w0 : World} {ρ : Nat → Nat} {A : Nat → Prop} {w : World} {r : Option Nat} {n : Nat}

theorem put_rel {tm : List AV} {a : Act} {N : Nat → Prop} (h : Rvs ρ A w N tm a.tmps.toList) (dst : Option Tmp) {v : AV} {u : Value} (hv : Rv ρ A w N v u) : Rvs ρ A w N (putA tm dst v) (a.put dst u).tmps.toList := by
  cases dst with
  | none => exact h
  | some d =>
    simp only [putA, Act.put, Array.toList_setIfInBounds]
    exact h.set d hv

/-- where a plan ends -/
def Aft (w0 : World) (ρ : Nat → Nat) (A : Nat → Prop) (w : World) (H : List Ob) (v : AV) (H' : List Ob) (u : Value) (w' : World) : Prop :=
  ∃ ρ' A', Mem w0 ρ' A' w' H' ∧ Ext (Live H) ρ A w (Live H') ρ' A' w' ∧ Rv ρ' A' w' (Live H') v u

theorem about_fr (o : Oper) (a : Act) : ∀ f, o.about Γ.P w a.eval = some f → (Fr r).fn f := fun _ _ => trivial
theorem plan_noDefer {x : Operand → AV} {op : Op} {cp : Bool × Plan} (h : plan Γ x op = some cp) : ∀ c, op ≠ .defer c := by
  rintro c rfl
  simp [plan] at h

/-- one operation by a plan that is no call in place and no panic -/
theorem doPlan_sound (hΓ : Γ.Ok Inv) (hI : Stable Inv) (h0 : Inv w0) {H : List Ob} (hm : Mem w0 ρ A w H) {a : Act} {o : Oper} (hnd : ∀ c, o.op ≠ .defer c) {p : Plan} (hp : Acts Γ.P ρ A w (Live H) (execOp a.eval o) p) {fresh : Nat} {v : AV} {H' : List Ob}
    (hd : doPlan fresh H p = some (v, H')) (hspec : ∀ f args q, p = .spc f args q → ∃ s, Γ.spec f = some s ∧ s args = some q) {next : Act → World → Prop} {Q : Exit → Act → World → Prop}
    (K : ∀ u w', Aft w0 ρ A w H v H' u w' → next (a.put o.dst u) w') : o.wpIn (Fr r) n Γ.P a w next Q := by
  refine ⟨about_fr o a, ?_⟩
  rw [Oper.semAt_eq _ _ _ hnd]
  cases p with
  | val v' =>
    simp only [doPlan, Option.some.injEq, Prod.mk.injEq] at hd
    obtain ⟨rfl, rfl⟩ := hd
    obtain ⟨u, w', hr, hb, hv⟩ := hp
    rw [hr]
    obtain ⟨m1, m2⟩ := hm.grow hb
    exact K u w' ⟨_, _, m1, m2, hv⟩
  | load id off m ag =>
    simp only [doPlan] at hd
    split at hd
    · rename_i cs t ho
      split at hd
      · rename_i hle
        simp only [Nat.ble_eq] at hle
        obtain ⟨hid, hone, hrun⟩ := hp
        obtain ⟨us, hl, hcell, hrv⟩ := hm.get ho hle
        have hr := hrun us hl hcell
        rw [hr]
        cases ag with
        | true =>
          simp only [if_true, Option.some.injEq, Prod.mk.injEq] at hd
          obtain ⟨rfl, rfl⟩ := hd
          exact K _ _ ⟨_, _, hm, Ext.refl _ _ _ _, .agg hrv.1 hrv.2⟩
        | false =>
          have h1 := hone rfl
          subst h1
          simp only [Bool.false_eq_true, if_false] at hd ⊢
          obtain ⟨c, hc, h2⟩ := Option.map_eq_some_iff.1 hd
          simp only [Prod.mk.injEq] at h2
          obtain ⟨rfl, rfl⟩ := h2
          match us, hl with
          | [u], _ =>
            have : ((cs.drop off).take 1)[0]? = some c := by rw [← hc]; simp [List.getElem?_drop]
            obtain ⟨u', hu', hrv'⟩ := hrv.get this
            simp only [List.getElem?_cons_zero, Option.some.injEq] at hu'
            subst hu'
            exact K _ _ ⟨_, _, hm, Ext.refl _ _ _ _, hrv'⟩
      · simp at hd
    · simp at hd
  | new cs t =>
    obtain ⟨vs, hv, hr⟩ := hp
    rw [hr]
    have key : ∀ {H' : List Ob}, ¬ Live H fresh → H'[fresh]? = some (.cells cs t) → (∀ i, i ≠ fresh → H'[i]? = H[i]?) → v = .ptr fresh 0 →
        Aft w0 ρ A w H v H' (.pointer (some ⟨w.heap.size, 0, none⟩)) (w.alloc (.cells vs.toArray t)) := by
      intro H' hf hnew hold hv'
      obtain ⟨m1, m2⟩ := hm.new hv hf hnew hold
      refine ⟨_, _, m1, m2, ?_⟩
      subst hv'
      have := Rv.ptr (ρ := fun i => if i = fresh then w.heap.size else ρ i) (A := A) (w := w.alloc (.cells vs.toArray t)) (n := Live H') (id := fresh) (off := 0) ⟨_, hnew, rfl⟩
      simpa using this
    simp only [doPlan] at hd
    split at hd
    · rename_i hf
      simp only [Nat.beq_eq] at hf
      subst hf
      simp only [Option.some.injEq, Prod.mk.injEq] at hd
      obtain ⟨rfl, rfl⟩ := hd
      refine K _ _ (key ?_ ?_ ?_ rfl)
      · rintro ⟨o, ho, _⟩; simp at ho
      · simp
      · intro i hi
        rcases Nat.lt_or_ge i H.length with h' | h'
        · exact List.getElem?_append_left h'
        · rw [List.getElem?_eq_none h', List.getElem?_eq_none (by simp; omega)]
    · split at hd
      · rename_i hfr
        simp only [Option.some.injEq, Prod.mk.injEq] at hd
        obtain ⟨rfl, rfl⟩ := hd
        have hlen : fresh < H.length := (List.getElem?_eq_some_iff.1 hfr).1
        refine K _ _ (key ?_ ?_ ?_ rfl)
        · rintro ⟨o, ho, hl⟩; rw [hfr] at ho; cases ho; cases hl
        · simp [hlen]
        · intro i hi; rw [List.getElem?_set_ne (fun e => hi e.symm)]
      · simp at hd
  | store id off cs =>
    simp only [doPlan] at hd
    split at hd
    · rename_i bs t ho
      split at hd
      · rename_i hle
        simp only [Nat.ble_eq] at hle
        simp only [Option.some.injEq, Prod.mk.injEq] at hd
        obtain ⟨rfl, rfl⟩ := hd
        obtain ⟨hid, vs, hv, hrun⟩ := hp
        obtain ⟨us, h1, h2, h3⟩ := hm.put ho hv hle
        obtain ⟨w', hr, hput⟩ := hrun us t h1 h2
        rw [hr]
        obtain ⟨m1, m2⟩ := h3 w' hput
        exact K _ _ ⟨_, _, m1, m2, .raw⟩
      · simp at hd
    · simp at hd
  | spc f args q =>
    cases q with
    | pan => simp [doPlan] at hd
    | ret v' =>
      simp only [doPlan, Option.some.injEq, Prod.mk.injEq] at hd
      obtain ⟨rfl, rfl⟩ := hd
      obtain ⟨s, hs, hq⟩ := hspec f args _ rfl
      obtain ⟨vs, hv, hr⟩ := hp
      rw [hr]
      refine ⟨fun h => by simp [Fence.wide] at h, ?_⟩
      rw [callsIn_fr]
      refine (hΓ.spec f s hs args _ hq ρ A w vs hm.lt (hI _ _ h0 hm.bel) hv).mono ?_
      rintro e w' ⟨hb, u, rfl, hu⟩
      obtain ⟨m1, m2⟩ := hm.grow hb
      exact K u w' ⟨_, _, m1, m2, hu.any⟩
  | call f args => simp [doPlan] at hd
  | pan => simp [doPlan] at hd
theorem callA_spc {f : AV} {as : List AV} {g : FuncId} {args : List AV} {q : Res} {c : Bool} (h : callA Γ f as = some (c, .spc g args q)) : ∃ s, Γ.spec g = some s ∧ s args = some q := by
  unfold callA at h
  split at h
  · rename_i g' cs
    split at h
    · rename_i s hs
      split at h
      · obtain ⟨q', hq, h2⟩ := Option.map_eq_some_iff.1 h
        simp only [Prod.mk.injEq, Plan.spc.injEq] at h2
        obtain ⟨_, rfl, rfl, rfl⟩ := h2
        exact ⟨s, hs, hq⟩
      · simp at h
    · split at h
      · obtain ⟨q', hq, h2⟩ := Option.map_eq_some_iff.1 h
        simp at h2
      · split at h <;> simp at h
  · simp at h
theorem ok1_val {x : Option AV} {c : Bool} {p : Plan} (h : ok1 x = some (c, p)) : ∃ v, p = .val v := by
  obtain ⟨v, _, h2⟩ := Option.map_eq_some_iff.1 h
  simp only [Prod.mk.injEq] at h2
  exact ⟨v, h2.2.symm⟩
theorem ok2_val {x : Option (Bool × AV)} {c : Bool} {p : Plan} (h : ok2 x = some (c, p)) : ∃ v, p = .val v := by
  obtain ⟨v, _, h2⟩ := Option.map_eq_some_iff.1 h
  simp only [Prod.mk.injEq] at h2
  exact ⟨v.2, h2.2.symm⟩
theorem plan_spc {x : Operand → AV} {op : Op} {c : Bool} {g : FuncId} {args : List AV} {q : Res} (h : plan Γ x op = some (c, .spc g args q)) : ∃ s, Γ.spec g = some s ∧ s args = some q := by
  cases op <;> simp only [plan, reduceCtorEq] at h
  case call cl =>
    split at h
    · exact callA_spc h
    · split at h
      · obtain ⟨v, hv⟩ := ok1_val h; simp at hv
      · simp at h
    · obtain ⟨v, hv⟩ := ok1_val h; simp at hv
    · obtain ⟨v, hv⟩ := ok1_val h; simp at hv
    · simp at h
  all_goals
    first
    | (obtain ⟨v, hv⟩ := ok1_val h; simp at hv; done)
    | (obtain ⟨v, hv⟩ := ok2_val h; simp at hv; done)
    | (simp at h; done)
    | (split at h <;> first | (simp at h; done) | (split at h <;> first | (simp at h; done) | (obtain ⟨v, hv⟩ := ok1_val h; simp at hv; done)) | (obtain ⟨v, hv⟩ := ok1_val h; simp at hv; done))
end

/-! What a piece of code leaves -/
def Out (D : List Deferred) (w0 : World) (ρ : Nat → Nat) (A : Nat → Prop) (w : World) (H : List Ob) (e : Ex) (st' : St) (x : Exit) (a' : Act) (w' : World) : Prop :=
  ∃ ρ' A', Ext (Live H) ρ A w (Live st'.hp) ρ' A' w' ∧ match e with
    | .normal => x = .normal ∧ Rel D w0 ρ' A' st' a' w'
    | .exit id => x = .exit id ∧ Rel D w0 ρ' A' st' a' w'
    | .ret => x = .ret ∧ Rel D w0 ρ' A' st' a' w'
    | .pan => ∃ t v, x = .panic [{ v := .iface t v, recovered := false }] ∧ Rel D w0 ρ' A' st' a' w'

theorem Out.from {D : List Deferred} {w0 : World} {ρ ρ1 : Nat → Nat} {A A1 : Nat → Prop} {w w1 : World} {H H1 : List Ob} {e : Ex} {st' : St} {x : Exit} {a' : Act} {w' : World}
    (h : Ext (Live H) ρ A w (Live H1) ρ1 A1 w1) (k : Out D w0 ρ1 A1 w1 H1 e st' x a' w') : Out D w0 ρ A w H e st' x a' w' := by
  obtain ⟨ρ', A', h1, h2⟩ := k
  exact ⟨ρ', A', h.trans h1, h2⟩

section
variable {D : List Deferred} {Γ : Cx} {Inv : World → Prop} {cf : CallF} {w0 : World} {ρ : Nat → Nat} {A : Nat → Prop} {w : World} {r : Option Nat} {n : Nat}

theorem wantA_ok {ops : Array Oper} {tm : List AV} {a : Act} {N : Nat → Prop} (ht : Rvs ρ A w N tm a.tmps.toList) {o : Oper} {g : Bool} (h : wantA ops tm o = some g) : Region.wanted o (yielded ops a.tmps) = g := by
  unfold wantA at h
  unfold Region.wanted
  cases hg : o.guard with
  | none => simp only [hg, Option.some.injEq] at h; simp [h]
  | some jw =>
    obtain ⟨j, want⟩ := jw
    simp only [hg] at h ⊢
    unfold yielded
    cases hd : (ops[j]?).bind (·.dst) with
    | none =>
      simp only [hd, Option.some.injEq] at h
      subst h
      simp
    | some d =>
      simp only [hd] at h
      simp only [Option.bind_some]
      have hop := opd_rv ht (.tmp d)
      simp only [opd, Act.eval] at hop
      cases hx : a.tmps[d]? with
      | none =>
        have hs : a.tmps.size ≤ d := by simpa using hx
        have hl : tm.length ≤ d := by rw [ht.1]; simpa using hs
        have : getT tm d = .raw undef := by simp [getT, List.getElem?_eq_none hl]
        rw [this] at h
        simp only [undef, Option.some.injEq] at h
        subst h
        simp
      | some v =>
        have : a.tmps.getD d undef = v := by rw [Array.getD_eq_getD_getElem?, hx]; rfl
        rw [this] at hop
        split at h
        · rename_i b hb
          rw [hb] at hop
          cases hop.of_bool
          simp only [Option.some.injEq] at h
          subst h
          simp
        · rename_i vs hb
          rw [hb] at hop
          cases hop.of_raw
          simp only [Option.some.injEq] at h
          subst h
          simp
        · simp at h

theorem stepA_sound (hΓ : Γ.Ok Inv) (hI : Stable Inv) (h0 : Inv w0) (hcf : CallSound Γ.P Inv cf) {ops : Array Oper} {i : Nat} {st st' : St} {e : Bool} {a : Act} (hr : Rel D w0 ρ A st a w)
    (h : stepA Γ cf ops i st = some (e, st')) {K : Act → World → Prop} {Q : Exit → Act → World → Prop}
    (hK : e = true → ∀ a' w', Out D w0 ρ A w st.hp .normal st' .normal a' w' → K a' w') (hQ : e = false → ∀ x a' w', Out D w0 ρ A w st.hp .pan st' x a' w' → Q x a' w') :
    wpOpIn (Fr r) n Γ.P ops Q i K a w := by
  unfold stepA at h
  unfold wpOpIn
  cases ho : ops[i]? with
  | none => simp [ho] at h
  | some o =>
    simp only [ho] at h ⊢
    cases hw : wantA ops st.tm o with
    | none => simp [hw] at h
    | some g =>
      simp only [hw] at h
      rw [wantA_ok hr.tm hw]
      cases g with
      | false =>
        simp only [cond_false, Option.some.injEq, Prod.mk.injEq] at h
        obtain ⟨rfl, rfl⟩ := h
        simp only [Bool.false_eq_true, if_false]
        refine ⟨about_fr o a, hK rfl _ _ ⟨ρ, A, Ext.refl _ _ _ _, rfl, ?_, ?_, hr.mem⟩⟩
        · exact put_rel hr.tm o.dst .raw
        · cases hd : o.dst <;> simp [Act.put, hr.df]
      | true =>
        simp only [cond_true] at h
        simp only [if_true]
        cases hp : plan Γ (opd st.tm) o.op with
        | none => simp [hp] at h
        | some cp =>
          obtain ⟨c, p⟩ := cp
          simp only [hp] at h
          cases c with
          | false => simp at h
          | true =>
            simp only [cond_true] at h
            have hacts := plan_acts hΓ hr.tm hr.mem.lt hp rfl
            have hnd := plan_noDefer hp
            have hspec : ∀ f args q, p = .spc f args q → ∃ s, Γ.spec f = some s ∧ s args = some q := fun f args q e => plan_spc (by rw [hp, e])
            have gen : ∀ {v H}, doPlan st.hp.length st.hp p = some (v, H) → some (true, (⟨putA st.tm o.dst v, H⟩ : St)) = some (e, st') → o.wpIn (Fr r) n Γ.P a w K Q := by
              intro v H hd he
              simp only [Option.some.injEq, Prod.mk.injEq] at he
              obtain ⟨rfl, rfl⟩ := he
              refine doPlan_sound hΓ hI h0 hr.mem hnd hacts hd hspec fun u w' ⟨ρ', A', m1, m2, hv⟩ => hK rfl _ _ ⟨ρ', A', m2, rfl, ?_, ?_, m1⟩
              · exact put_rel (m2.rvs hr.tm) o.dst hv
              · cases hd : o.dst <;> simp [Act.put, hr.df]
            split at h
            · simp only [Option.some.injEq, Prod.mk.injEq] at h
              obtain ⟨rfl, rfl⟩ := h
              obtain ⟨t, v, hrun⟩ := hacts
              refine ⟨about_fr o a, ?_⟩
              rw [Oper.semAt_eq _ _ _ hnd, hrun]
              exact hQ rfl _ _ _ ⟨ρ, A, Ext.refl _ _ _ _, t, v, rfl, hr⟩
            · rename_i f args
              simp only [Option.some.injEq, Prod.mk.injEq] at h
              obtain ⟨rfl, rfl⟩ := h
              obtain ⟨s, hs, hq⟩ := hspec f args _ rfl
              obtain ⟨vs, hv, hrun⟩ := hacts
              refine ⟨about_fr o a, ?_⟩
              rw [Oper.semAt_eq _ _ _ hnd, hrun]
              refine ⟨fun h => by simp [Fence.wide] at h, ?_⟩
              rw [callsIn_fr]
              refine (hΓ.spec f s hs args _ hq ρ A w vs hr.mem.lt (hI _ _ h0 hr.mem.bel) hv).mono ?_
              rintro e w' ⟨hb, t, u, rfl⟩
              obtain ⟨m1, m2⟩ := hr.mem.grow hb
              exact hQ rfl _ _ _ ⟨_, _, m2, t, u, rfl, m2.rvs hr.tm, hr.df, m1⟩
            · rename_i f args
              obtain ⟨vs, hv, hrun⟩ := hacts
              refine ⟨about_fr o a, ?_⟩
              rw [Oper.semAt_eq _ _ _ hnd, hrun]
              refine ⟨fun h => by simp [Fence.wide] at h, ?_⟩
              rw [callsIn_fr]
              split at h
              · simp at h
              · rename_i v H hc
                simp only [Option.some.injEq, Prod.mk.injEq] at h
                obtain ⟨rfl, rfl⟩ := h
                refine (hcf f args st.hp _ H hc w0 ρ A w vs h0 hr.mem hv).mono ?_
                rintro e w' ⟨ρ', A', m1, m2, u, rfl, hu⟩
                refine hK rfl _ _ ⟨ρ', A', m2, rfl, put_rel (m2.rvs hr.tm) o.dst hu, ?_, m1⟩
                cases hd : o.dst <;> simp [Act.put, hr.df]
              · rename_i H hc
                simp only [Option.some.injEq, Prod.mk.injEq] at h
                obtain ⟨rfl, rfl⟩ := h
                refine (hcf f args st.hp _ H hc w0 ρ A w vs h0 hr.mem hv).mono ?_
                rintro e w' ⟨ρ', A', m1, m2, t, u, rfl⟩
                exact hQ rfl _ _ _ ⟨ρ', A', m2, t, u, rfl, m2.rvs hr.tm, hr.df, m1⟩
            · split at h
              · simp at h
              · rename_i v H hd
                exact gen hd h

theorem runIdx_sound (hΓ : Γ.Ok Inv) (hI : Stable Inv) (h0 : Inv w0) (hcf : CallSound Γ.P Inv cf) {ops : Array Oper} {e : Ex} {st' : St} : ∀ (l : List Nat) (st : St) (ρ : Nat → Nat) (A : Nat → Prop) (w : World) (a : Act) (Q : Exit → Act → World → Prop),
    Rel D w0 ρ A st a w → runIdx Γ cf ops l st = some (e, st') → (∀ x a' w', Out D w0 ρ A w st.hp e st' x a' w' → Q x a' w') → wpOpsIn (Fr r) n Γ.P ops Q l a w := by
  intro l
  induction l with
  | nil =>
    intro st ρ A w a Q hr h hQ
    simp only [runIdx, Option.some.injEq, Prod.mk.injEq] at h
    obtain ⟨rfl, rfl⟩ := h
    exact hQ _ _ _ ⟨ρ, A, Ext.refl _ _ _ _, rfl, hr⟩
  | cons i l ih =>
    intro st ρ A w a Q hr h hQ
    simp only [runIdx] at h
    rw [wpOpsIn_cons]
    split at h
    · rename_i st1 hs
      refine stepA_sound hΓ hI h0 hcf hr hs (fun _ a' w' ho => ?_) (fun he => by cases he)
      obtain ⟨ρ', A', hext, _, hr'⟩ := ho
      exact ih st1 ρ' A' w' a' Q hr' h fun x a2 w2 ho2 => hQ _ _ _ (Out.from hext ho2)
    · rename_i st1 hs
      simp only [Option.some.injEq, Prod.mk.injEq] at h
      obtain ⟨rfl, rfl⟩ := h
      exact stepA_sound hΓ hI h0 hcf hr hs (fun he => by cases he) (fun _ x a' w' ho => hQ _ _ _ ho)
    · simp at h
end
end Go.Evl
