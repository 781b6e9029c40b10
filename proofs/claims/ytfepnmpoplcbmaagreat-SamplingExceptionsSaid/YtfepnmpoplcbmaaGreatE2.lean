/- The evaluator in continuation style, for the kernel's own running. No condition. -/
import Derived.Test.YtfepnmpoplcbmaaGreatE1
namespace Go.Evl
open Go.RowKit
abbrev Fr (r : Option Nat) : Fence := { Fence.wide with round := r }
theorem callsIn_fr {r : Option Nat} {n : Nat} {P : Program} {f : FuncId} {args : Array Value} {w : World} {R : Ending → World → Prop} : CallsIn (Fr r) n P f args w R ↔ Calls P f args w R :=
  callsIn_wide (n := n)
def EndRel (w0 : World) (ρ : Nm) (A : Nat → Prop) (w : World) (H : List Ob) (r : Res) (H' : List Ob) (e : Ending) (w' : World) : Prop :=
  ∃ ρ' A', Mem w0 ρ' A' w' H' ∧ Ext (Live H) ρ A w (Live H') ρ' A' w' ∧ match r with
    | .ret v => ∃ u, e = .returned u ∧ Rv ρ' A' w' (Live H') v u
    | .pan => ∃ t u, e = .panicked [{ v := .iface t u, recovered := false }]
def KeepD (H H' : List Ob) : Prop := ∀ id : Nat, H[id]? = some .dfr → H'[id]? = some .dfr
theorem KeepD.refl (H : List Ob) : KeepD H H := fun _ h => h
theorem KeepD.trans {H H' H'' : List Ob} (h : KeepD H H') (k : KeepD H' H'') : KeepD H H'' := fun id hi => k id (h id hi)
theorem KeepD.set {H : List Ob} {i : Nat} {o o' : Ob} (h : H[i]? = some o) (hn : o ≠ .dfr) : KeepD H (H.set i o') := by
  intro id hid
  rw [get_set_eq h]
  by_cases e : id = i
  · subst e; rw [h] at hid; cases hid; exact absurd rfl hn
  · rw [if_neg e]; exact hid
theorem KeepD.append (H L : List Ob) : KeepD H (H ++ L) := fun id h => by
  rw [List.getElem?_append_left (List.getElem?_eq_some_iff.1 h).1]; exact h
structure CallSound (P : Program) (Inv : World → Prop) (cf : CallF) : Prop where
  keep : ∀ f args H r H', cf f args H = some (r, H') → KeepD H H'
  len : ∀ f args H r H', cf f args H = some (r, H') → H.length ≤ H'.length
  rlen : ∀ id args H r H', cf.rnd id args H = some (r, H') → H.length ≤ H'.length
  fn : ∀ f args H r H', cf f args H = some (r, H') → ∀ w0 ρ A w vs, Inv w0 → Mem w0 ρ A w H → Rvs ρ A w (Live H) args vs → Calls P f vs.toArray w (EndRel w0 ρ A w H r H')
  rkeep : ∀ id args H r H', cf.rnd id args H = some (r, H') → KeepD H H'
  rnd : ∀ id args H r H', cf.rnd id args H = some (r, H') → ∀ w0 ρ A w vs, Inv w0 → Mem w0 ρ A w H → Rvs ρ A w (Live H) args vs → Live H id →
    ∃ fn tmps asg body, (Instr.yield (ρ id) vs.toArray).run P w = .ok (.round (ρ id) fn tmps asg body) w ∧ ∀ rd n, RoundIn (Fr rd) n P (ρ id) fn tmps asg body w (EndRel w0 ρ A w H r H')
def Stable (Inv : World → Prop) : Prop := ∀ w w', Inv w → Below w.heap.size w w' → Inv w'
structure Dx where
  ds : List Deferred
  m0 : Nat
def Marks (D : Dx) (ρ : Nm) (H : List Ob) (ds : List Deferred) : Prop :=
  ∃ ids : List Nat, ds = ids.map (fun id => ({ target := .collected (ρ id), args := #[] } : Deferred)) ++ D.ds ∧ ids.Nodup ∧ ∀ id ∈ ids, H[id]? = some .dfr ∧ D.m0 ≤ id
theorem Marks.keep {D : Dx} {ρ ρ' : Nm} {H H' : List Ob} {ds : List Deferred} (h : Marks D ρ H ds) (hk : KeepD H H') (hρ : Nle (Live H) ρ ρ') : Marks D ρ' H' ds := by
  obtain ⟨ids, rfl, hn, hi⟩ := h
  refine ⟨ids, ?_, hn, fun id hid => ⟨hk id (hi id hid).1, (hi id hid).2⟩⟩
  congr 1
  exact List.map_congr_left fun id hid => by rw [(hρ id ⟨_, (hi id hid).1, rfl⟩).1]
structure Rel (D : Dx) (w0 : World) (ρ : Nm) (A : Nat → Prop) (st : St) (a : Act) (w : World) : Prop where
  tm : Rvs ρ A w (Live st.hp) st.tm a.tmps.toList
  df : Marks D ρ st.hp a.defers
  mem : Mem w0 ρ A w st.hp
theorem put_defers (a : Act) (dst : Option Tmp) (u : Value) : (a.put dst u).defers = a.defers := by cases dst <;> rfl
section
variable {D : Dx} {Γ : Cx} {Inv : World → Prop} {cf : CallF} {w0 : World} {ρ : Nm} {A : Nat → Prop} {w : World} {r : Option Nat} {n : Nat}
theorem put_rel {tm : List AV} {a : Act} {N : Nat → Prop} (h : Rvs ρ A w N tm a.tmps.toList) (dst : Option Tmp) {v : AV} {u : Value} (hv : Rv ρ A w N v u) : Rvs ρ A w N (putA tm dst v) (a.put dst u).tmps.toList := by
  cases dst with
  | none => exact h
  | some d =>
    simp only [putA, Act.put, Array.toList_setIfInBounds]
    exact h.set d hv
def Aft (w0 : World) (ρ : Nm) (A : Nat → Prop) (w : World) (H : List Ob) (v : AV) (H' : List Ob) (u : Value) (w' : World) : Prop :=
  ∃ ρ' A', Mem w0 ρ' A' w' H' ∧ Ext (Live H) ρ A w (Live H') ρ' A' w' ∧ Rv ρ' A' w' (Live H') v u
theorem about_fr (o : Oper) (a : Act) : ∀ f, o.about Γ.P w a.eval = some f → (Fr r).fn f := fun _ _ => trivial
theorem plan_noDefer {x : Operand → AV} {op : Op} {cp : Bool × Plan} (h : plan Γ x op = some cp) : ∀ c, op ≠ .defer c := by
  rintro c rfl
  simp [plan] at h
theorem newOb_spec {fresh : Nat} {H H' : List Ob} {o : Ob} {v v' : AV} (h : newOb fresh H o v = some (v', H')) : v' = v ∧ ¬ Live H fresh ∧ H'[fresh]? = some o ∧ ∀ i, i ≠ fresh → H'[i]? = H[i]? := by
  unfold newOb at h
  split at h
  · rename_i hf
    simp only [Nat.beq_eq] at hf
    subst hf
    simp only [Option.some.injEq, Prod.mk.injEq] at h
    obtain ⟨rfl, rfl⟩ := h
    refine ⟨rfl, ?_, by simp, fun i hi => ?_⟩
    · rintro ⟨o, ho, _⟩; simp at ho
    · rcases Nat.lt_or_ge i H.length with h' | h'
      · exact List.getElem?_append_left h'
      · rw [List.getElem?_eq_none h', List.getElem?_eq_none (by simp; omega)]
  · split at h
    · rename_i hfr
      simp only [Option.some.injEq, Prod.mk.injEq] at h
      obtain ⟨rfl, rfl⟩ := h
      have hlen : fresh < H.length := (List.getElem?_eq_some_iff.1 hfr).1
      refine ⟨rfl, ?_, by simp [hlen], fun i hi => by rw [List.getElem?_set_ne (fun e => hi e.symm)]⟩
      rintro ⟨o, ho, hl⟩; rw [hfr] at ho; cases ho; cases hl
    · simp at h
theorem newOb_keep {fresh : Nat} {H H' : List Ob} {o : Ob} {v v' : AV} (h : newOb fresh H o v = some (v', H')) : KeepD H H' := by
  obtain ⟨_, h1, _, h2⟩ := newOb_spec h
  intro id hid
  have : id ≠ fresh := fun e => h1 (e ▸ ⟨_, hid, rfl⟩)
  rw [h2 id this]; exact hid
theorem condO_some {x : Option (Bool × AV × List Ob)} {q : AV × List Ob} (h : condO x = some q) : x = some (true, q) := by
  unfold condO at h
  split at h
  · rename_i c q'
    cases c with
    | false => simp at h
    | true => simp only [cond_true, Option.some.injEq] at h; rw [h]
  · simp at h
theorem planO_kind {fresh : Nat} {H H' : List Ob} {p : Plan} {c : Bool} {v : AV} (h : planO fresh H p = some (c, v, H')) :
    H' = H ∨ (∃ id o o', H[id]? = some o ∧ o.solid = false ∧ o'.solid = false ∧ o'.live = true ∧ H' = H.set id o') ∨ ∃ o u, o.solid = false ∧ newOb fresh H o u = some (v, H') := by
  cases p with
  | ver id key ver x =>
    simp only [planO] at h
    split at h
    · split at h
      · simp only [Option.some.injEq, Prod.mk.injEq] at h; exact .inl h.2.2.symm
      · simp at h
    · split at h
      · split at h
        · simp only [Option.some.injEq, Prod.mk.injEq] at h; exact .inl h.2.2.symm
        · simp at h
      · simp only [Option.some.injEq, Prod.mk.injEq] at h; exact .inl h.2.2.symm
      · split at h
        · simp only [Option.some.injEq, Prod.mk.injEq] at h; exact .inl h.2.2.symm
        · simp at h
      · simp at h
  | loadO id key ver idx k off m ag =>
    simp only [planO] at h
    split at h
    · split at h
      · split at h
        · simp only [Option.some.injEq, Prod.mk.injEq] at h; exact .inl h.2.2.symm
        · obtain ⟨_, _, h2⟩ := Option.map_eq_some_iff.1 h
          simp only [Prod.mk.injEq] at h2
          exact .inl h2.2.2.symm
      · simp at h
    · split at h
      · split at h
        · split at h
          · simp only [Option.some.injEq, Prod.mk.injEq] at h; exact .inl h.2.2.symm
          · obtain ⟨_, _, h2⟩ := Option.map_eq_some_iff.1 h
            simp only [Prod.mk.injEq] at h2
            exact .inl h2.2.2.symm
        · simp at h
      · split at h
        · split at h
          · simp only [Option.some.injEq, Prod.mk.injEq] at h; exact .inl h.2.2.symm
          · obtain ⟨_, _, h2⟩ := Option.map_eq_some_iff.1 h
            simp only [Prod.mk.injEq] at h2
            exact .inl h2.2.2.symm
        · simp at h
      · split at h
        · simp only [Option.some.injEq, Prod.mk.injEq] at h; exact .inl h.2.2.symm
        · simp at h
      · simp at h
  | storeO id key ver idx k off cs =>
    simp only [planO] at h
    split at h
    · rename_i t sh len el ho
      split at h
      · obtain ⟨_, _, h2⟩ := Option.map_eq_some_iff.1 h
        simp only [Prod.mk.injEq] at h2
        exact .inr (.inl ⟨id, _, _, ho, rfl, rfl, rfl, h2.2.2.symm⟩)
      · simp at h
    · rename_i t k' len bs ho
      split at h
      · simp only [Option.some.injEq, Prod.mk.injEq] at h
        exact .inr (.inl ⟨id, _, _, ho, rfl, rfl, rfl, h.2.2.symm⟩)
      · simp at h
    · rename_i ho
      split at h
      · split at h
        · simp only [Option.some.injEq, Prod.mk.injEq] at h
          exact .inr (.inl ⟨id, _, _, ho, rfl, rfl, rfl, h.2.2.symm⟩)
        · simp at h
      · simp at h
    · simp at h
  | app id key ver t sh m el =>
    simp only [planO] at h
    split at h
    · rename_i ho
      split at h
      · simp only [Option.some.injEq, Prod.mk.injEq] at h
        exact .inr (.inl ⟨id, _, _, ho, rfl, rfl, rfl, h.2.2.symm⟩)
      · simp at h
    · rename_i ho
      split at h
      · simp only [Option.some.injEq, Prod.mk.injEq] at h
        exact .inr (.inl ⟨id, _, _, ho, rfl, rfl, rfl, h.2.2.symm⟩)
      · simp at h
    · simp at h
  | appN t sh m el =>
    simp only [planO] at h
    obtain ⟨_, h1, h2⟩ := Option.map_eq_some_iff.1 h
    simp only [Prod.mk.injEq] at h2
    obtain ⟨_, rfl⟩ := h2
    exact .inr (.inr ⟨_, _, rfl, h1⟩)
  | appF t sh len el0 m el =>
    simp only [planO] at h
    obtain ⟨_, h1, h2⟩ := Option.map_eq_some_iff.1 h
    simp only [Prod.mk.injEq] at h2
    obtain ⟨_, rfl⟩ := h2
    exact .inr (.inr ⟨_, _, rfl, h1⟩)
  | newO t sh len el =>
    simp only [planO] at h
    obtain ⟨_, h1, h2⟩ := Option.map_eq_some_iff.1 h
    simp only [Prod.mk.injEq] at h2
    obtain ⟨_, rfl⟩ := h2
    exact .inr (.inr ⟨_, _, rfl, h1⟩)
  | newC t k len cs =>
    simp only [planO] at h
    obtain ⟨_, h1, h2⟩ := Option.map_eq_some_iff.1 h
    simp only [Prod.mk.injEq] at h2
    obtain ⟨_, rfl⟩ := h2
    exact .inr (.inr ⟨_, _, rfl, h1⟩)
  | _ => simp [planO] at h
theorem planO_keep {fresh : Nat} {H H' : List Ob} {p : Plan} {v : AV} (h : condO (planO fresh H p) = some (v, H')) : KeepD H H' := by
  rcases planO_kind (condO_some h) with rfl | ⟨id, o, o', ho, hs, _, _, rfl⟩ | ⟨o, u, hs, hn⟩
  · exact .refl _
  · exact .set ho (fun e => by rw [e] at hs; cases hs)
  · exact newOb_keep hn
def PutOk : MF → Ky → AV → MF → Prop
  | .dat s f, key, v, mf' => ∃ d, dtOf s v = some d ∧ mf' = .dat s (putK f key (some d))
  | .own rid f, key, v, mf' => ∃ ver, v = .own rid key ver ∧ mf' = .own rid (putK f key (some ver))
def GetOk : MF → Ky → AV → Bool → AV → Prop
  | .dat s f, key, z, ok, v' => v' = mgetV z ok ((MF.dat s f).at key)
  | .own rid f, key, z, ok, v' => z = .nsl ∧ v' = if ok then .tup [.own rid key ((f key).getD 0), .bool (f key).isSome] else .own rid key ((f key).getD 0)
theorem mputF_some {H H' : List Ob} {id : Nat} {dk : Dk} {cnt : Nat} {mf : MF} {k v v' : AV} (h : (mputF H id dk cnt mf k v).run = some (v', H')) :
    v' = .raw undef ∧ ∃ key mf', kyOf dk k = some key ∧ H' = H.set id (.mapF dk (bif (mf.at key).isSome then cnt else cnt + 1) mf') ∧
      PutOk mf key v mf' := by
  unfold mputF at h
  split at h
  · cases h
  · rename_i key hkey
    split at h
    · rename_i s f
      split at h
      · rename_i d hd
        simp only [Tr.run, Option.some.injEq, Prod.mk.injEq] at h
        refine ⟨h.1.symm, key, _, hkey, ?_, d, hd, rfl⟩
        rw [← h.2]
        simp only [MF.at, Option.isSome_map]
      · cases h
    · rename_i rid f
      split at h
      · rename_i rid' key' ver
        cases hb : Nat.beq rid rid' with
        | false => rw [hb] at h; cases h
        | true =>
          rw [hb] at h
          simp only [cond_true, Tr.run] at h
          cases hc : kyEq key' key with
          | false => rw [hc] at h; cases h
          | true =>
            rw [hc] at h
            simp only [cond_true, Option.some.injEq, Prod.mk.injEq] at h
            obtain rfl := kyEq_iff.1 hc
            obtain rfl := Nat.eq_of_beq_eq_true hb
            refine ⟨h.1.symm, key', _, hkey, ?_, ver, rfl, rfl⟩
            rw [← h.2]
            simp only [MF.at, Option.isSome_map]
      · cases h
theorem mgetF_some {H H' : List Ob} {dk : Dk} {mf : MF} {k z v' : AV} {ok : Bool} (h : (mgetF H dk mf k z ok).run = some (v', H')) :
    H' = H ∧ ∃ key, kyOf dk k = some key ∧ GetOk mf key z ok v' := by
  unfold mgetF at h
  split at h
  · cases h
  · rename_i key hkey
    split at h
    · rename_i s f
      simp only [Tr.run] at h
      cases hf : f key with
      | none =>
        rw [hf] at h
        simp only [Option.isSome_none, cond_false, Option.some.injEq, Prod.mk.injEq] at h
        exact ⟨h.2.symm, key, hkey, by unfold GetOk; rw [← h.1]; simp only [MF.at, hf, Option.map_none]⟩
      | some d =>
        rw [hf] at h
        simp only [Option.isSome_some, cond_true, Option.getD_some, Option.some.injEq, Prod.mk.injEq] at h
        exact ⟨h.2.symm, key, hkey, by unfold GetOk; rw [← h.1]; simp only [MF.at, hf, Option.map_some]⟩
    · rename_i rid f
      split at h
      · simp only [Tr.run, Option.some.injEq, Prod.mk.injEq] at h
        exact ⟨h.2.symm, key, hkey, rfl, by rw [← h.1]; cases ok <;> rfl⟩
      · cases h
theorem doPlan_keep {fresh : Nat} {H H' : List Ob} {p : Plan} {v : AV} (h : doPlan fresh H p = some (v, H')) : KeepD H H' := by
  cases p with
  | val x => simp only [doPlan, Option.some.injEq, Prod.mk.injEq] at h; obtain ⟨_, rfl⟩ := h; exact .refl _
  | load id off m ag =>
    simp only [doPlan] at h
    split at h
    · split at h
      · split at h
        · simp only [Option.some.injEq, Prod.mk.injEq] at h; obtain ⟨_, rfl⟩ := h; exact .refl _
        · obtain ⟨c, _, h2⟩ := Option.map_eq_some_iff.1 h
          simp only [Prod.mk.injEq] at h2
          obtain ⟨_, rfl⟩ := h2; exact .refl _
      · simp at h
    · simp at h
  | new cs t => exact newOb_keep h
  | newMap => exact newOb_keep h
  | store id off cs =>
    simp only [doPlan] at h
    split at h
    · rename_i bs t ho
      split at h
      · simp only [Option.some.injEq, Prod.mk.injEq] at h; obtain ⟨_, rfl⟩ := h; exact .set ho (fun e => by cases e)
      · simp at h
    · simp at h
  | mput id k v =>
    simp only [doPlan] at h
    split at h
    · rename_i es ho
      obtain ⟨c, _, h2⟩ := Option.map_eq_some_iff.1 h
      simp only [Prod.mk.injEq] at h2
      obtain ⟨_, rfl⟩ := h2; exact .set ho (fun e => by cases e)
    · rename_i ho
      obtain ⟨_, key, mf', _, rfl, _⟩ := mputF_some h
      exact .set ho (fun e => by cases e)
    · simp at h
  | mget id k z ok =>
    simp only [doPlan] at h
    split at h
    · obtain ⟨c, _, h2⟩ := Option.map_eq_some_iff.1 h
      simp only [Prod.mk.injEq] at h2
      obtain ⟨_, rfl⟩ := h2; exact .refl _
    · obtain ⟨rfl, _⟩ := mgetF_some h; exact .refl _
    · simp at h
  | mlen id =>
    simp only [doPlan] at h
    split at h
    · simp only [Option.some.injEq, Prod.mk.injEq] at h; obtain ⟨_, rfl⟩ := h; exact .refl _
    · simp only [Option.some.injEq, Prod.mk.injEq] at h; obtain ⟨_, rfl⟩ := h; exact .refl _
    · simp at h
  | upd f args id s =>
    simp only [doPlan] at h
    split at h
    · rename_i cs t ho
      split at h
      · obtain ⟨r, _, h2⟩ := Option.bind_eq_some_iff.1 h
        obtain ⟨cs', _, _, _, _, rfl⟩ := updEnd_some h2
        exact .set ho (fun e => by cases e)
      · simp at h
    · simp at h
  | spc f args q => cases q with
    | ret x => simp only [doPlan, Option.some.injEq, Prod.mk.injEq] at h; obtain ⟨_, rfl⟩ := h; exact .refl _
    | pan => simp [doPlan, planO, condO] at h
  | call f args => simp [doPlan, planO, condO] at h
  | round id args => simp [doPlan, planO, condO] at h
  | pan => simp [doPlan, planO, condO] at h
  | vws f args id s => obtain ⟨_, _, _, _, rfl⟩ := vwRun_some (by simpa only [doPlan] using h); exact .refl _
  | ver id key ver x => exact planO_keep (by simpa only [doPlan] using h)
  | loadO id key ver idx k off m ag => exact planO_keep (by simpa only [doPlan] using h)
  | storeO id key ver idx k off cs => exact planO_keep (by simpa only [doPlan] using h)
  | app id key ver t sh m el => exact planO_keep (by simpa only [doPlan] using h)
  | appN t sh m el => exact planO_keep (by simpa only [doPlan] using h)
  | appF t sh len el0 m el => exact planO_keep (by simpa only [doPlan] using h)
  | newO t sh len el => exact planO_keep (by simpa only [doPlan] using h)
  | newC t k len cs => exact planO_keep (by simpa only [doPlan] using h)
theorem newOb_len {fresh : Nat} {H H' : List Ob} {o : Ob} {v v' : AV} (h : newOb fresh H o v = some (v', H')) : H.length ≤ H'.length := by
  unfold newOb at h
  split at h
  · simp only [Option.some.injEq, Prod.mk.injEq] at h; obtain ⟨_, rfl⟩ := h; simp
  · split at h
    · simp only [Option.some.injEq, Prod.mk.injEq] at h; obtain ⟨_, rfl⟩ := h; simp
    · simp at h
theorem planO_len {fresh : Nat} {H H' : List Ob} {p : Plan} {v : AV} (h : condO (planO fresh H p) = some (v, H')) : H.length ≤ H'.length := by
  rcases planO_kind (condO_some h) with rfl | ⟨id, o, o', ho, hs, _, _, rfl⟩ | ⟨o, u, hs, hn⟩
  · exact Nat.le_refl _
  · simp
  · exact newOb_len hn
theorem doPlan_len {fresh : Nat} {H H' : List Ob} {p : Plan} {v : AV} (h : doPlan fresh H p = some (v, H')) : H.length ≤ H'.length := by
  cases p with
  | val x => simp only [doPlan, Option.some.injEq, Prod.mk.injEq] at h; obtain ⟨_, rfl⟩ := h; exact Nat.le_refl _
  | load id off m ag =>
    simp only [doPlan] at h
    split at h
    · split at h
      · split at h
        · simp only [Option.some.injEq, Prod.mk.injEq] at h; obtain ⟨_, rfl⟩ := h; exact Nat.le_refl _
        · obtain ⟨c, _, h2⟩ := Option.map_eq_some_iff.1 h
          simp only [Prod.mk.injEq] at h2
          obtain ⟨_, rfl⟩ := h2; exact Nat.le_refl _
      · simp at h
    · simp at h
  | new cs t => exact newOb_len h
  | newMap => exact newOb_len h
  | store id off cs =>
    simp only [doPlan] at h
    split at h
    · split at h
      · simp only [Option.some.injEq, Prod.mk.injEq] at h; obtain ⟨_, rfl⟩ := h; simp
      · simp at h
    · simp at h
  | mput id k v =>
    simp only [doPlan] at h
    split at h
    · obtain ⟨c, _, h2⟩ := Option.map_eq_some_iff.1 h
      simp only [Prod.mk.injEq] at h2
      obtain ⟨_, rfl⟩ := h2; simp
    · obtain ⟨_, key, mf', _, rfl, _⟩ := mputF_some h; simp
    · simp at h
  | mget id k z ok =>
    simp only [doPlan] at h
    split at h
    · obtain ⟨c, _, h2⟩ := Option.map_eq_some_iff.1 h
      simp only [Prod.mk.injEq] at h2
      obtain ⟨_, rfl⟩ := h2; exact Nat.le_refl _
    · obtain ⟨rfl, _⟩ := mgetF_some h; exact Nat.le_refl _
    · simp at h
  | mlen id =>
    simp only [doPlan] at h
    split at h
    · simp only [Option.some.injEq, Prod.mk.injEq] at h; obtain ⟨_, rfl⟩ := h; exact Nat.le_refl _
    · simp only [Option.some.injEq, Prod.mk.injEq] at h; obtain ⟨_, rfl⟩ := h; exact Nat.le_refl _
    · simp at h
  | upd f args id s =>
    simp only [doPlan] at h
    split at h
    · split at h
      · obtain ⟨r, _, h2⟩ := Option.bind_eq_some_iff.1 h
        obtain ⟨cs', _, _, _, _, rfl⟩ := updEnd_some h2
        simp
      · simp at h
    · simp at h
  | spc f args q => cases q with
    | ret x => simp only [doPlan, Option.some.injEq, Prod.mk.injEq] at h; obtain ⟨_, rfl⟩ := h; exact Nat.le_refl _
    | pan => simp [doPlan, planO, condO] at h
  | call f args => simp [doPlan, planO, condO] at h
  | round id args => simp [doPlan, planO, condO] at h
  | pan => simp [doPlan, planO, condO] at h
  | vws f args id s => obtain ⟨_, _, _, _, rfl⟩ := vwRun_some (by simpa only [doPlan] using h); exact Nat.le_refl _
  | ver id key ver x => exact planO_len (by simpa only [doPlan] using h)
  | loadO id key ver idx k off m ag => exact planO_len (by simpa only [doPlan] using h)
  | storeO id key ver idx k off cs => exact planO_len (by simpa only [doPlan] using h)
  | app id key ver t sh m el => exact planO_len (by simpa only [doPlan] using h)
  | appN t sh m el => exact planO_len (by simpa only [doPlan] using h)
  | appF t sh len el0 m el => exact planO_len (by simpa only [doPlan] using h)
  | newO t sh len el => exact planO_len (by simpa only [doPlan] using h)
  | newC t k len cs => exact planO_len (by simpa only [doPlan] using h)
theorem doPlan_sound (hΓ : Γ.Ok Inv) (hI : Stable Inv) (h0 : Inv w0) {H : List Ob} (hm : Mem w0 ρ A w H) {a : Act} {o : Oper} (hnd : ∀ c, o.op ≠ .defer c) {p : Plan} (hp : Acts Γ.P ρ A w (Live H) (execOp a.eval o) p) {fresh : Nat} {v : AV} {H' : List Ob}
    (hd : doPlan fresh H p = some (v, H')) (hspec : ∀ f args q, p = .spc f args q → ∃ s, Γ.spec f = some s ∧ s args = some q) (hupd : ∀ f args id s, p = .upd f args id s → Γ.upd f = some s) (hvw : ∀ f args id s, p = .vws f args id s → Γ.vw f = some s) {next : Act → World → Prop} {Q : Exit → Act → World → Prop}
    (K : ∀ u w', Aft w0 ρ A w H v H' u w' → next (a.put o.dst u) w') : o.wpIn (Fr r) n Γ.P a w next Q := by
  refine ⟨about_fr o a, ?_⟩
  rw [Oper.semAt_eq _ _ _ hnd]
  cases p with
  | val v' =>
    simp only [doPlan, Option.some.injEq, Prod.mk.injEq] at hd
    obtain ⟨rfl, rfl⟩ := hd
    obtain ⟨u, w', hr, hb, hv⟩ := hp
    rw [hr]
    obtain ⟨m1, m2⟩ := hm.grow hb
    exact K u w' ⟨_, _, m1, m2, hv⟩
  | load id off m ag =>
    simp only [doPlan] at hd
    split at hd
    · rename_i cs t ho
      split at hd
      · rename_i hle
        simp only [Nat.ble_eq] at hle
        obtain ⟨hid, hone, hrun⟩ := hp
        obtain ⟨us, hl, hcell, hrv⟩ := hm.get ho hle
        have hr := hrun us hl hcell
        rw [hr]
        cases ag with
        | true =>
          simp only [if_true, Option.some.injEq, Prod.mk.injEq] at hd
          obtain ⟨rfl, rfl⟩ := hd
          exact K _ _ ⟨_, _, hm, Ext.refl _ _ _ _, .agg hrv.1 hrv.2⟩
        | false =>
          have h1 := hone rfl
          subst h1
          simp only [Bool.false_eq_true, if_false] at hd ⊢
          obtain ⟨c, hc, h2⟩ := Option.map_eq_some_iff.1 hd
          simp only [Prod.mk.injEq] at h2
          obtain ⟨rfl, rfl⟩ := h2
          match us, hl with
          | [u], _ =>
            have : ((cs.drop off).take 1)[0]? = some c := by rw [← hc]; simp [List.getElem?_drop]
            obtain ⟨u', hu', hrv'⟩ := hrv.get this
            simp only [List.getElem?_cons_zero, Option.some.injEq] at hu'
            subst hu'
            exact K _ _ ⟨_, _, hm, Ext.refl _ _ _ _, hrv'⟩
      · simp at hd
    · simp at hd
  | new cs t =>
    obtain ⟨vs, hv, hr⟩ := hp
    rw [hr]
    simp only [doPlan] at hd
    obtain ⟨rfl, hf, hnew, hold⟩ := newOb_spec hd
    obtain ⟨m1, m2⟩ := hm.new (o := .cells cs t) rfl (x := .cells vs.toArray t (0, 0)) ⟨vs, rfl, hv⟩ hf hnew hold
    refine K _ _ ⟨_, _, m1, m2, ?_⟩
    have := Rv.ptr (ρ := ρ.put fresh w.heap.size) (A := A) (w := w.alloc (.cells vs.toArray t)) (n := Live H') (id := fresh) (off := 0) ⟨_, hnew, rfl⟩
    rw [Nm.put_at] at this
    exact this
  | newMap =>
    rw [show (execOp a.eval o).run Γ.P w = _ from hp]
    simp only [doPlan] at hd
    obtain ⟨rfl, hf, hnew, hold⟩ := newOb_spec hd
    obtain ⟨m1, m2⟩ := hm.new (o := .map []) rfl (x := .map #[] 0) ⟨[], 0, rfl, .nil, .nil⟩ hf hnew hold
    refine K _ _ ⟨_, _, m1, m2, ?_⟩
    have := Rv.map (ρ := ρ.put fresh w.heap.size) (A := A) (w := w.alloc (.map #[] 0)) (n := Live H') (id := fresh) ⟨_, hnew, rfl⟩
    rw [Nm.put_at] at this
    exact this
  | mput id k v' =>
    obtain ⟨hid, d, kv, vv, hd0, hk, hv, hrun⟩ := hp
    simp only [doPlan] at hd
    split at hd
    · rename_i es ho
      obtain ⟨es', hes, h2⟩ := Option.map_eq_some_iff.1 hd
      simp only [Prod.mk.injEq] at h2
      obtain ⟨rfl, rfl⟩ := h2
      obtain ⟨h1, h2, x, h3, ents, clock, rfl, h4, h5⟩ := (hm.hp.obj id _ ho).solid rfl
      obtain ⟨q, hq, hob⟩ := putT_obj (clock := clock) hd0 hk hv hes h4 h5
      rw [hrun ents clock q h3 hq]
      obtain ⟨m1, m2⟩ := hm.upd ho rfl (o' := .map es') rfl (putO_of h3) hob
      exact K _ _ ⟨_, _, m1, m2, .raw⟩
    · rename_i dk cnt mf ho
      obtain ⟨rfl, key, mf', hkey, rfl, hmf⟩ := mputF_some hd
      obtain ⟨h1, h2, x, h3, ents, clock, rfl, h4, h5, h6, h7⟩ := (hm.hp.obj id _ ho).solid rfl
      obtain ⟨hkv, hde⟩ := kyOf_val hkey hk
      obtain rfl := hde d hd0
      obtain ⟨q, hq, hent⟩ := h7 key kv hkv
      rw [hrun ents clock q h3 hq]
      obtain ⟨ents', clock', e1, e2, e3, ⟨j, e4⟩, e5⟩ := mapF_put (clock := clock) (vv := vv) hkv h6 hq
      have hsome : (mf.at key).isSome = q.isSome := by
        cases hmk : mf.at key <;> cases q <;> rw [hmk] at hent <;> first | rfl | exact hent.elim
      have hat : ∃ a, mf'.at key = some a ∧ Rv ρ A w (Live H) a vv := by
        cases mf with
        | dat s f =>
          obtain ⟨dd, hdd, rfl⟩ := hmf
          exact ⟨_, by simp only [MF.at, putK_at, Option.map_some], dtOf_rv hdd hv⟩
        | own rid f =>
          obtain ⟨ver, rfl, rfl⟩ := hmf
          exact ⟨_, by simp only [MF.at, putK_at, Option.map_some], hv⟩
      have hne : ∀ key', key' ≠ key → mf'.at key' = mf.at key' := fun key' hk' => by
        cases mf with
        | dat s f =>
          obtain ⟨dd, hdd, rfl⟩ := hmf
          simp only [MF.at, putK_ne _ _ hk']
        | own rid f =>
          obtain ⟨ver, _, rfl⟩ := hmf
          simp only [MF.at, putK_ne _ _ hk']
      obtain ⟨m1, m2⟩ := hm.upd ho rfl (o' := .mapF dk (bif (mf.at key).isSome then cnt else cnt + 1) mf') rfl (putO_of h3) (x' := mapPut ents clock kv vv q) ⟨ents', clock', e1, by
          rw [e2, h4, hsome]; cases q <;> rfl, by
          cases mf with
          | dat s f => obtain ⟨dd, hdd, rfl⟩ := hmf; trivial
          | own rid f => obtain ⟨ver, _, rfl⟩ := hmf; exact h5, e3, fun key' kv' hk' => by
          by_cases e : key' = key
          · subst e
            obtain rfl := Option.some.inj (hk'.symm.trans hkv)
            obtain ⟨a, ha, hr⟩ := hat
            exact ⟨_, e4, by rw [ha]; exact hr⟩
          · obtain ⟨q', hq', hent'⟩ := h7 key' kv' hk'
            exact ⟨q', e5 key' kv' hk' e q' hq', by rw [hne key' e]; exact hent'⟩⟩
      exact K _ _ ⟨_, _, m1, m2, .raw⟩
    · simp at hd
  | mget id k z ok =>
    obtain ⟨hid, d, kv, zv, hd0, hk, hz, hrun⟩ := hp
    simp only [doPlan] at hd
    split at hd
    · rename_i es ho
      obtain ⟨q, hq, h2⟩ := Option.map_eq_some_iff.1 hd
      simp only [Prod.mk.injEq] at h2
      obtain ⟨rfl, rfl⟩ := h2
      obtain ⟨h1, h2, x, h3, ents, clock, rfl, h4, h5⟩ := (hm.hp.obj id _ ho).solid rfl
      have hfind := findT_run hd0 hk es ents 0 q hq h4 h5
      have tup : ∀ {p : AV} {u : Value} {b : Bool}, Rv ρ A w (Live H) p u → Rv ρ A w (Live H) (.tup [p, .bool b]) (.tuple #[u, .bool b]) := fun {p u b} h =>
        .tup (vs := [u, .bool b]) rfl fun i h1 h2 => by
          match i, h1 with
          | 0, _ => exact h
          | 1, _ => exact .bool
      cases q with
      | none =>
        rw [hrun ents clock none h3 hfind]
        refine K _ _ ⟨_, _, hm, Ext.refl _ _ _ _, ?_⟩
        cases ok
        · exact hz
        · exact tup hz
      | some v' =>
        obtain ⟨j, u, hf2, hu⟩ := hfind
        rw [hrun ents clock _ h3 hf2]
        refine K _ _ ⟨_, _, hm, Ext.refl _ _ _ _, ?_⟩
        cases ok
        · exact hu
        · exact tup hu
    · rename_i dk cnt mf ho
      obtain ⟨rfl, key, hkey, hmf⟩ := mgetF_some hd
      obtain ⟨h1, h2, x, h3, ents, clock, rfl, h4, h5, h6, h7⟩ := (hm.hp.obj id _ ho).solid rfl
      obtain ⟨hkv, hde⟩ := kyOf_val hkey hk
      obtain rfl := hde d hd0
      obtain ⟨q, hq, hent⟩ := h7 key kv hkv
      rw [hrun ents clock q h3 hq]
      have tup : ∀ {p : AV} {u : Value} {b : Bool}, Rv ρ A w (Live H') p u → Rv ρ A w (Live H') (.tup [p, .bool b]) (.tuple #[u, .bool b]) := fun {p u b} h =>
        .tup (vs := [u, .bool b]) rfl fun i h1 h2 => by
          match i, h1 with
          | 0, _ => exact h
          | 1, _ => exact .bool
      refine K _ _ ⟨_, _, hm, Ext.refl _ _ _ _, ?_⟩
      cases mf with
      | dat s f =>
        unfold GetOk at hmf
        subst hmf
        cases hmk : (MF.dat s f).at key with
        | none =>
          rw [hmk] at hent
          cases q with
          | none => (cases ok
                     · exact hz
                     · exact tup hz)
          | some p => exact hent.elim
        | some a =>
          rw [hmk] at hent
          cases q with
          | none => exact hent.elim
          | some p =>
            obtain ⟨j, u⟩ := p
            (cases ok
             · exact hent
             · exact tup hent)
      | own rid f =>
        obtain ⟨rfl, rfl⟩ := hmf
        have hzv : zv = .slice none 0 0 := by cases hz; rfl
        subst hzv
        have hcore : ∃ u, Rv ρ A w (Live H') (.own rid key ((f key).getD 0)) u ∧ mapGet ok (.slice none 0 0) q = if ok then .tuple #[u, .bool (f key).isSome] else u := by
          cases hfk : f key with
          | none =>
            have hmk : (MF.own rid f).at key = none := by simp only [MF.at, hfk, Option.map_none]
            rw [hmk] at hent
            cases q with
            | none => exact ⟨.slice none 0 0, .own h5.1 (Nat.zero_le _) rfl (fun e => (h5.2 key e).symm), by cases ok <;> rfl⟩
            | some p => exact hent.elim
          | some ver =>
            have hmk : (MF.own rid f).at key = some (.own rid key ver) := by simp only [MF.at, hfk, Option.map_some]
            rw [hmk] at hent
            cases q with
            | none => exact hent.elim
            | some p => exact ⟨p.2, hent, by cases ok <;> rfl⟩
        obtain ⟨u, hu, he⟩ := hcore
        rw [he]
        (cases ok
         · exact hu
         · exact tup hu)
    · simp at hd
  | mlen id =>
    obtain ⟨hid, hrun⟩ := hp
    simp only [doPlan] at hd
    split at hd
    · rename_i es ho
      simp only [Option.some.injEq, Prod.mk.injEq] at hd
      obtain ⟨rfl, rfl⟩ := hd
      obtain ⟨h1, h2, x, h3, ents, clock, rfl, h4, h5⟩ := (hm.hp.obj id _ ho).solid rfl
      rw [hrun ents clock h3]
      have hl : es.length = ents.length := by simpa using h4.1
      rw [← hl]
      exact K _ _ ⟨_, _, hm, Ext.refl _ _ _ _, .int⟩
    · rename_i dk cnt mf ho
      simp only [Option.some.injEq, Prod.mk.injEq] at hd
      obtain ⟨rfl, rfl⟩ := hd
      obtain ⟨h1, h2, x, h3, ents, clock, rfl, h4, h5⟩ := (hm.hp.obj id _ ho).solid rfl
      rw [hrun ents clock h3, h4]
      exact K _ _ ⟨_, _, hm, Ext.refl _ _ _ _, .int⟩
    · simp at hd
  | round id args => simp [doPlan, planO, condO] at hd
  | ver id key ver x =>
    have hO := condO_some (show condO (planO fresh H (.ver id key ver x)) = some (v, H') from hd)
    simp only [planO] at hO
    split at hO
    · rename_i sh len el ho
      split at hO
      · rename_i hk
        obtain rfl := isK0_eq hk
        simp only [Option.some.injEq, Prod.mk.injEq, Nat.beq_eq] at hO
        obtain ⟨rfl, rfl, rfl⟩ := hO
        obtain ⟨h1, h2, _⟩ := hm.ownAt ho
        obtain ⟨_, hrun⟩ := hp
        obtain ⟨u, hr, hv⟩ := hrun h1 h2
        rw [hr]
        exact K u w ⟨_, _, hm, Ext.refl _ _ _ _, hv⟩
      · simp at hO
    · split at hO
      · rename_i ho
        split at hO
        · rename_i hk
          obtain rfl := isK0_eq hk
          simp only [Option.some.injEq, Prod.mk.injEq, Nat.beq_eq] at hO
          obtain ⟨rfl, rfl, rfl⟩ := hO
          obtain ⟨h1, _, xs, h2, _⟩ := hm.ownC ho
          obtain ⟨_, hrun⟩ := hp
          obtain ⟨u, hr, hv⟩ := hrun h1 (SlS.of_row h2)
          rw [hr]
          exact K u w ⟨_, _, hm, Ext.refl _ _ _ _, hv⟩
        · simp at hO
      · rename_i ho
        simp only [Option.some.injEq, Prod.mk.injEq, Nat.beq_eq] at hO
        obtain ⟨rfl, rfl, rfl⟩ := hO
        obtain ⟨h1, h2, _⟩ := hm.rowsK ho key
        obtain ⟨_, xs, h3, _⟩ := h2
        obtain ⟨_, hrun⟩ := hp
        obtain ⟨u, hr, hv⟩ := hrun h1 (SlS.of_row h3)
        rw [hr]
        exact K u w ⟨_, _, hm, Ext.refl _ _ _ _, hv⟩
      · rename_i ho
        split at hO
        · rename_i hk
          obtain rfl := isK0_eq hk
          simp only [Option.some.injEq, Prod.mk.injEq, Nat.beq_eq] at hO
          obtain ⟨rfl, rfl, rfl⟩ := hO
          obtain ⟨h1, _, _, xs, h2, _⟩ := hm.ownW ho
          obtain ⟨_, hrun⟩ := hp
          obtain ⟨u, hr, hv⟩ := hrun h1 (SlS.of_row h2)
          rw [hr]
          exact K u w ⟨_, _, hm, Ext.refl _ _ _ _, hv⟩
        · simp at hO
      · simp at hO
  | loadO id key ver idx k off m ag =>
    have hO := condO_some (show condO (planO fresh H (.loadO id key ver idx k off m ag)) = some (v, H') from hd)
    simp only [planO] at hO
    obtain ⟨hone, pv, hpv, hrun⟩ := hp
    split at hO
    · rename_i sh len el ho
      split at hO
      · rename_i hk
        simp only [Bool.and_eq_true, Nat.beq_eq, Nat.ble_eq] at hk
        obtain ⟨hk, rfl, hle⟩ := hk
        obtain rfl := isK0_eq hk
        cases ag with
        | true =>
          simp only [if_true, Option.some.injEq, Prod.mk.injEq, Bool.and_eq_true, Nat.beq_eq, Nat.blt_eq] at hO
          obtain ⟨⟨rfl, hi⟩, rfl, rfl⟩ := hO
          obtain ⟨g, rfl, us, hl, hcell, hrv⟩ := hm.loadO ho hpv hi hle
          rw [hrun g _ rfl us hl hcell]
          exact K _ _ ⟨_, _, hm, Ext.refl _ _ _ _, .agg hrv.1 hrv.2⟩
        | false =>
          have h1 := hone rfl
          subst h1
          simp only [Bool.false_eq_true, if_false] at hO
          obtain ⟨x, hx, h2⟩ := Option.map_eq_some_iff.1 hO
          simp only [Prod.mk.injEq, Bool.and_eq_true, Nat.beq_eq, Nat.blt_eq] at h2
          obtain ⟨⟨rfl, hi⟩, rfl, rfl⟩ := h2
          obtain ⟨g, rfl, us, hl, hcell, hrv⟩ := hm.loadO ho hpv hi hle
          rw [hrun g _ rfl us hl hcell]
          match us, hl with
          | [u], _ =>
            have : (((shA (el idx) sh 0).drop off).take 1)[0]? = some x := by rw [← hx]; simp [List.getElem?_drop]
            obtain ⟨u', hu', hrv'⟩ := hrv.get this
            simp only [List.getElem?_cons_zero, Option.some.injEq] at hu'
            subst hu'
            exact K _ _ ⟨_, _, hm, Ext.refl _ _ _ _, hrv'⟩
      · simp at hO
    · split at hO
      · rename_i k' len cs ho
        split at hO
        · rename_i hk
          simp only [Bool.and_eq_true, Nat.beq_eq, Nat.ble_eq] at hk
          obtain ⟨hk, rfl, hle⟩ := hk
          obtain rfl := isK0_eq hk
          cases ag with
          | true =>
            simp only [if_true, Option.some.injEq, Prod.mk.injEq, Bool.and_eq_true, Nat.beq_eq, Nat.blt_eq] at hO
            obtain ⟨⟨rfl, hi⟩, rfl, rfl⟩ := hO
            obtain ⟨g, rfl, us, hl, hcell, hrv⟩ := hm.loadC ho hpv hi hle
            rw [hrun g _ rfl us hl hcell]
            exact K _ _ ⟨_, _, hm, Ext.refl _ _ _ _, .agg hrv.1 hrv.2⟩
          | false =>
            have h1 := hone rfl
            subst h1
            simp only [Bool.false_eq_true, if_false] at hO
            obtain ⟨x, hx, h2⟩ := Option.map_eq_some_iff.1 hO
            simp only [Prod.mk.injEq, Bool.and_eq_true, Nat.beq_eq, Nat.blt_eq] at h2
            obtain ⟨⟨rfl, hi⟩, rfl, rfl⟩ := h2
            obtain ⟨g, rfl, us, hl, hcell, hrv⟩ := hm.loadC ho hpv hi hle
            rw [hrun g _ rfl us hl hcell]
            match us, hl with
            | [u], _ =>
              have : ((cs.drop (idx * k + off)).take 1)[0]? = some x := by rw [← hx]; simp [List.getElem?_drop]
              obtain ⟨u', hu', hrv'⟩ := hrv.get this
              simp only [List.getElem?_cons_zero, Option.some.injEq] at hu'
              subst hu'
              exact K _ _ ⟨_, _, hm, Ext.refl _ _ _ _, hrv'⟩
        · simp at hO
      · rename_i sh f ho
        split at hO
        · rename_i hk
          simp only [Bool.and_eq_true, Nat.beq_eq, Nat.ble_eq] at hk
          obtain ⟨rfl, hle⟩ := hk
          cases ag with
          | true =>
            simp only [if_true, Option.some.injEq, Prod.mk.injEq, Bool.and_eq_true, Nat.beq_eq, Nat.blt_eq] at hO
            obtain ⟨⟨rfl, hi⟩, rfl, rfl⟩ := hO
            obtain ⟨g, rfl, us, hl, hcell, hrv⟩ := hm.loadR ho hpv hi hle
            rw [hrun g _ rfl us hl hcell]
            exact K _ _ ⟨_, _, hm, Ext.refl _ _ _ _, .agg hrv.1 hrv.2⟩
          | false =>
            have h1 := hone rfl
            subst h1
            simp only [Bool.false_eq_true, if_false] at hO
            obtain ⟨x, hx, h2⟩ := Option.map_eq_some_iff.1 hO
            simp only [Prod.mk.injEq, Bool.and_eq_true, Nat.beq_eq, Nat.blt_eq] at h2
            obtain ⟨⟨rfl, hi⟩, rfl, rfl⟩ := h2
            obtain ⟨g, rfl, us, hl, hcell, hrv⟩ := hm.loadR ho hpv hi hle
            rw [hrun g _ rfl us hl hcell]
            match us, hl with
            | [u], _ =>
              have : (((shA ((f key).2 idx) sh 0).drop off).take 1)[0]? = some x := by rw [← hx]; simp [List.getElem?_drop]
              obtain ⟨u', hu', hrv'⟩ := hrv.get this
              simp only [List.getElem?_cons_zero, Option.some.injEq] at hu'
              subst hu'
              exact K _ _ ⟨_, _, hm, Ext.refl _ _ _ _, hrv'⟩
        · simp at hO
      · rename_i ho
        split at hO
        · rename_i hk
          simp only [Bool.and_eq_true, Nat.beq_eq, Bool.not_eq_true'] at hk
          obtain ⟨hk, rfl, rfl, rfl, rfl⟩ := hk
          obtain rfl := isK0_eq hk
          simp only [Option.some.injEq, Prod.mk.injEq, Bool.and_eq_true, Nat.beq_eq, Nat.blt_eq] at hO
          obtain ⟨⟨rfl, hi⟩, rfl, rfl⟩ := hO
          obtain ⟨g, u, rfl, hcell, hrv⟩ := hm.loadW ho hpv hi
          rw [hrun g _ rfl [u] rfl (fun j hj => by
            have : j = 0 := by simpa using hj
            subst this
            simpa using hcell)]
          exact K _ _ ⟨_, _, hm, Ext.refl _ _ _ _, hrv⟩
        · simp at hO
      · simp at hO
  | storeO id key ver idx k off cs =>
    have hO := condO_some (show condO (planO fresh H (.storeO id key ver idx k off cs)) = some (v, H') from hd)
    simp only [planO] at hO
    obtain ⟨pv, vs, hpv, hvs, hrun⟩ := hp
    split at hO
    · rename_i t sh len el ho
      split at hO
      · rename_i hk
        simp only [Bool.and_eq_true, Nat.beq_eq, Nat.ble_eq] at hk
        obtain ⟨hk, rfl, hle⟩ := hk
        obtain rfl := isK0_eq hk
        obtain ⟨ds, hds, h2⟩ := Option.map_eq_some_iff.1 hO
        simp only [Prod.mk.injEq, Bool.and_eq_true, Nat.beq_eq, Nat.blt_eq] at h2
        obtain ⟨⟨rfl, hi⟩, rfl, rfl⟩ := h2
        obtain ⟨g, bs, rfl, hb, hfit, hput⟩ := hm.storeO ho hpv hi hvs hds hle
        obtain ⟨w', hr, hpb⟩ := hrun g _ rfl bs t hb hfit
        rw [hr]
        obtain ⟨m1, m2⟩ := hput w' hpb
        exact K _ _ ⟨_, _, m1, m2, .raw⟩
      · simp at hO
    · rename_i t k' len bs0 ho
      split at hO
      · rename_i hk
        simp only [Bool.and_eq_true, Nat.beq_eq, Nat.ble_eq] at hk
        obtain ⟨hk, rfl, hle⟩ := hk
        obtain rfl := isK0_eq hk
        simp only [Option.some.injEq, Prod.mk.injEq, Bool.and_eq_true, Nat.beq_eq, Nat.blt_eq] at hO
        obtain ⟨⟨rfl, hi⟩, rfl, rfl⟩ := hO
        obtain ⟨g, bs, rfl, hb, hfit, hput⟩ := hm.storeC ho hpv hi hvs hle
        obtain ⟨w', hr, hpb⟩ := hrun g _ rfl bs t hb hfit
        rw [hr]
        obtain ⟨m1, m2⟩ := hput w' hpb
        exact K _ _ ⟨_, _, m1, m2, .raw⟩
      · simp at hO
    · rename_i t len rid vf ho
      split at hO
      · rename_i hk
        simp only [Bool.and_eq_true, Nat.beq_eq] at hk
        obtain ⟨hk, rfl, rfl⟩ := hk
        obtain rfl := isK0_eq hk
        split at hO
        · rename_i rid' key' ver'
          simp only [Option.some.injEq, Prod.mk.injEq, Bool.and_eq_true, Nat.beq_eq, Nat.blt_eq] at hO
          obtain ⟨⟨rfl, hi, rfl, hkk⟩, rfl, rfl⟩ := hO
          obtain rfl := kyEq_iff.1 hkk
          obtain ⟨g, bs, rfl, hb, hfit, hput⟩ := hm.storeW ho hpv hi hvs
          obtain ⟨w', hr, hpb⟩ := hrun g _ rfl bs t hb hfit
          rw [hr]
          obtain ⟨m1, m2⟩ := hput w' hpb
          exact K _ _ ⟨_, _, m1, m2, .raw⟩
        · simp at hO
      · simp at hO
    · simp at hO
  | app id key ver t sh m el =>
    have hO := condO_some (show condO (planO fresh H (.app id key ver t sh m el)) = some (v, H') from hd)
    simp only [planO] at hO
    obtain ⟨sv, av, hsv, hav, hrow, tS, ty, htS, hrun⟩ := hp
    split at hO
    · rename_i t' sh' len el0 ho
      split at hO
      · rename_i hk
        simp only [Bool.and_eq_true, Nat.beq_eq] at hk
        obtain ⟨hk, rfl, hsh⟩ := hk
        obtain rfl := isK0_eq hk
        obtain rfl := eqSh_eq hsh
        simp only [Option.some.injEq, Prod.mk.injEq, Bool.and_eq_true, Nat.beq_eq, Nat.ble_eq] at hO
        obtain ⟨⟨rfl, hlen, hmm⟩, rfl, rfl⟩ := hO
        obtain ⟨h1, hown⟩ := hm.own ho
        cases hsv with
        | own hn hle hone hv =>
          have e := hv h1
          subst e
          obtain ⟨v', w', hr, ho', hg, hblk, hsame, hone'⟩ := append_rows (ty := ty) hm.bel.size htS hrow hown hav hlen hmm hm.lt
          rw [hrun, hr]
          have hob : ∀ b, (ρ.v id k0).2.ownBlock = some b → w0.heap.size ≤ b := fun b hb => by
            obtain ⟨_, xs, hx, _⟩ := hown
            exact (hx.lt b hb).1
          obtain ⟨m1, m2⟩ := hm.row (id := id) (v := v') (w' := w') (get_set_at ho) (fun i hi => get_set_ne ho i hi) (fun o e => by rw [ho] at e; cases e; rfl)
            (fun _ => ⟨by rw [h1]; exact Nat.le_add_right _ _, fun e => hsame (by rw [h1] at e; exact Nat.add_left_cancel (n := len) (by simpa using e))⟩)
            (hm.bel.trans ⟨hg.os, hg.tape, hg.output, hg.size, fun k hk => hg.block k (Nat.lt_of_lt_of_le hk hm.bel.size) (fun e => by have := hob k e.symm; omega)⟩) hg.size
            (fun k hk hb => hg.block k hk (fun e => hb _ ho e.symm)) (fun b hb => (hblk b hb).imp (fun e => ⟨_, ho, e⟩) (fun x => x)) ho'
          refine K v' w' ⟨_, _, m1, m2, .own ⟨_, get_set_at ho, rfl⟩ ?_ hone' fun _ => ?_⟩
          · rw [Nm.putV_at]; exact Nat.le_refl _
          · rw [Nm.putV_at]
      · simp at hO
    · rename_i t' sh' f ho
      split at hO
      · rename_i hk
        simp only [Bool.and_eq_true, Nat.beq_eq] at hk
        obtain ⟨rfl, hsh⟩ := hk
        obtain rfl := eqSh_eq hsh
        simp only [Option.some.injEq, Prod.mk.injEq, Bool.and_eq_true, Nat.beq_eq, Nat.ble_eq, Nat.blt_eq] at hO
        obtain ⟨⟨rfl, hlen, hmm, hpos⟩, rfl, rfl⟩ := hO
        obtain ⟨h1, hown, _⟩ := hm.rowsK ho key
        cases hsv with
        | own hn hle hone hv =>
          have e := hv h1
          subst e
          obtain ⟨v', w', hr, ho', hg, hblk, hsame, hone'⟩ := append_rows (ty := ty) hm.bel.size htS hrow hown hav hlen hmm hm.lt
          rw [hrun, hr]
          obtain ⟨m1, m2⟩ := hm.rowsApp ho hpos ho' hg hblk
          refine K v' w' ⟨_, _, m1, m2, .own ⟨_, get_set_at ho, rfl⟩ ?_ hone' fun _ => ?_⟩
          · rw [Nm.putV_at]; exact Nat.le_refl _
          · rw [Nm.putV_at]
      · simp at hO
    · simp at hO
  | appN t sh m el =>
    have hO := condO_some (show condO (planO fresh H (.appN t sh m el)) = some (v, H') from hd)
    simp only [planO] at hO
    obtain ⟨av, hav, hrow, tS, ty, htS, hrun⟩ := hp
    obtain ⟨q, hq, h2⟩ := Option.map_eq_some_iff.1 hO
    simp only [Prod.mk.injEq, Nat.ble_eq] at h2
    obtain ⟨hmm, rfl⟩ := h2
    obtain ⟨rfl, hf, hnew, hold⟩ := newOb_spec hq
    have hown : OwnR ρ A w w0.heap.size t sh 0 (fun _ _ => .int 0) (.slice none 0 0) := ⟨fun b hb => by simp [Value.ownBlock] at hb, [], World.ownsRow_nil w _ t sh.length, fun i hi => by omega⟩
    obtain ⟨v', w', hr, ho', hg, hblk, hsame, hone'⟩ := append_rows (ty := ty) hm.bel.size htS hrow hown hav (by omega) hmm hm.lt
    rw [hrun, hr]
    have hap : appEl (fun _ _ => .int 0) 0 el = el := by
      funext i
      unfold appEl
      rw [show Nat.blt i 0 = false by rw [Bool.eq_false_iff]; intro e; rw [Nat.blt_eq] at e; omega]
      rfl
    rw [hap, Nat.zero_add] at ho'
    obtain ⟨m1, m2⟩ := hm.row (id := fresh) (v := v') (w' := w') hnew hold (fun o e => by
        cases hl : o.solid with
        | false => rfl
        | true => exact absurd ⟨o, e, live_solid hl⟩ hf) (fun hl => absurd hl hf)
      (hm.bel.trans ⟨hg.os, hg.tape, hg.output, hg.size, fun k hk => hg.block k (Nat.lt_of_lt_of_le hk hm.bel.size) (fun e => by simp [Value.ownBlock] at e)⟩) hg.size
      (fun k hk _ => hg.block k hk (fun e => by simp [Value.ownBlock] at e)) (fun b hb => (hblk b hb).elim (fun e => by simp [Value.ownBlock] at e) .inr) ho'
    refine K v' w' ⟨_, _, m1, m2, .own ⟨_, hnew, rfl⟩ ?_ hone' fun _ => ?_⟩
    · rw [Nm.putV_at]; exact Nat.le_refl _
    · rw [Nm.putV_at]
  | appF t sh len el0 m el =>
    have hO := condO_some (show condO (planO fresh H (.appF t sh len el0 m el)) = some (v, H') from hd)
    simp only [planO] at hO
    obtain ⟨sv, av, hsv, hav, hrow, tS, ty, htS, hrun⟩ := hp
    obtain ⟨q, hq, h2⟩ := Option.map_eq_some_iff.1 hO
    simp only [Prod.mk.injEq, Bool.and_eq_true, Nat.ble_eq, Nat.blt_eq] at h2
    obtain ⟨⟨hll, hmm, hm0⟩, rfl⟩ := h2
    obtain ⟨rfl, hf, hnew, hold⟩ := newOb_spec hq
    obtain ⟨v', w', hr, ho', hg, hblk, hone'⟩ := append_full (ty := ty) hm.bel.size htS hrow hsv hav hll hmm hm0 hm.lt
    rw [hrun, hr]
    obtain ⟨m1, m2⟩ := hm.row (id := fresh) (v := v') (w' := w') hnew hold (fun o e => by
        cases hl : o.solid with
        | false => rfl
        | true => exact absurd ⟨o, e, live_solid hl⟩ hf) (fun hl => absurd hl hf)
      (hm.bel.trans ⟨hg.os, hg.tape, hg.output, hg.size, fun k hk => hg.block k (Nat.lt_of_lt_of_le hk hm.bel.size) (fun e => by simp at e)⟩) hg.size
      (fun k hk _ => hg.block k hk (fun e => by simp at e)) (fun b hb => .inr (hblk b hb)) ho'
    refine K v' w' ⟨_, _, m1, m2, .own ⟨_, hnew, rfl⟩ ?_ hone' fun _ => ?_⟩
    · rw [Nm.putV_at]; exact Nat.le_refl _
    · rw [Nm.putV_at]
  | newO t sh len el =>
    have hO := condO_some (show condO (planO fresh H (.newO t sh len el)) = some (v, H') from hd)
    simp only [planO] at hO
    obtain ⟨cap, cur, hpos, hlc, hcm, hcs, hcell, hrun⟩ := hp
    obtain ⟨q, hq, h2⟩ := Option.map_eq_some_iff.1 hO
    simp only [Prod.mk.injEq, true_and] at h2
    subst h2
    obtain ⟨rfl, hf, hnew, hold⟩ := newOb_spec hq
    rw [hrun]
    have hA : ∀ b, A b → (w.alloc (.cells cur t)).heap[b]? = w.heap[b]? := fun b hb => Below.heap_alloc _ _ _ (hm.lt b hb)
    have hlen : len * sh.length ≤ cur.size := by rw [hcs]; exact Nat.mul_le_mul_right _ hlc
    obtain ⟨m1, m2⟩ := hm.row (id := fresh) (t := t) (sh := sh) (len := len) (el := el) (v := .slice (some ⟨w.heap.size, 0, none⟩) len cap) (w' := w.alloc (.cells cur t)) hnew hold (fun o e => by
        cases hl : o.solid with
        | false => rfl
        | true => exact absurd ⟨o, e, live_solid hl⟩ hf) (fun hl => absurd hl hf) (hm.bel.alloc hm.bel.size _) (by simp) (fun k hk _ => Below.heap_alloc _ _ _ hk)
      (fun b hb => .inr (by simp only [Value.ownBlock, Option.some.injEq] at hb; exact Nat.le_of_eq hb))
      ⟨fun b hb hAb => by
        simp only [Value.ownBlock, Option.some.injEq] at hb
        have := hm.lt b hAb
        omega, cur.toList.take (len * sh.length), ⟨by rw [List.length_take, Array.length_toList]; exact Nat.min_eq_left hlen, .inr ⟨w.heap.size, cap, cur, rfl, hm.bel.size, heap_alloc_new w _, hlc, hcm, hcs, rfl⟩⟩, fun i hi j hj => by
        obtain ⟨u, hu, hr⟩ := hcell i hi j hj
        have hj' : j < sh.length := by simpa [shA_length] using hj
        have : (i + 1) * sh.length ≤ len * sh.length := Nat.mul_le_mul_right _ hi
        rw [Nat.add_mul] at this
        exact ⟨u, by rw [List.getElem?_take, if_pos (by omega)]; simpa using hu, hr.mono (fun _ h => h) (Nle.none _ _ fun _ h => h) (fun _ h => h) hA⟩⟩
    refine K _ _ ⟨_, _, m1, m2, .own ⟨_, hnew, rfl⟩ ?_ rfl fun _ => ?_⟩
    · rw [Nm.putV_at]; exact Nat.le_refl _
    · rw [Nm.putV_at]
  | newC t k len cs =>
    have hO := condO_some (show condO (planO fresh H (.newC t k len cs)) = some (v, H') from hd)
    simp only [planO] at hO
    obtain ⟨cap, cur, hpos, hlc, hcm, hcs, hcell, hrun⟩ := hp
    obtain ⟨q, hq, h2⟩ := Option.map_eq_some_iff.1 hO
    simp only [Prod.mk.injEq, true_and] at h2
    subst h2
    obtain ⟨rfl, hf, hnew, hold⟩ := newOb_spec hq
    rw [hrun]
    have hA : ∀ b, A b → (w.alloc (.cells cur t)).heap[b]? = w.heap[b]? := fun b hb => Below.heap_alloc _ _ _ (hm.lt b hb)
    have hlen : len * k ≤ cur.size := by rw [hcs]; exact Nat.mul_le_mul_right _ hlc
    obtain ⟨m1, m2⟩ := hm.rowC (id := fresh) (t := t) (k := k) (len := len) (cs := cs) (v := .slice (some ⟨w.heap.size, 0, none⟩) len cap) (w' := w.alloc (.cells cur t)) hnew hold (fun hl => absurd hl hf) (hm.bel.alloc hm.bel.size _) (by simp) (fun k hk _ => Below.heap_alloc _ _ _ hk)
      (fun b hb => .inr (by simp only [Value.ownBlock, Option.some.injEq] at hb; exact Nat.le_of_eq hb))
      (fun b hb hAb => by
        simp only [Value.ownBlock, Option.some.injEq] at hb
        have := hm.lt b hAb
        omega) (xs := cur.toList.take (len * k)) ⟨by rw [List.length_take, Array.length_toList]; exact Nat.min_eq_left hlen, .inr ⟨w.heap.size, cap, cur, rfl, hm.bel.size, heap_alloc_new w _, hlc, hcm, hcs, rfl⟩⟩
      (fun hext => hcell.mono (fun _ h => h.elim) (Nle.none _ _ fun _ h => h) (fun _ h => h) hA)
    refine K _ _ ⟨_, _, m1, m2, .own ⟨_, hnew, rfl⟩ ?_ rfl fun _ => ?_⟩
    · rw [Nm.putV_at]; exact Nat.le_refl _
    · rw [Nm.putV_at]
  | store id off cs =>
    simp only [doPlan] at hd
    split at hd
    · rename_i bs t ho
      split at hd
      · rename_i hle
        simp only [Nat.ble_eq] at hle
        simp only [Option.some.injEq, Prod.mk.injEq] at hd
        obtain ⟨rfl, rfl⟩ := hd
        obtain ⟨hid, vs, hv, hrun⟩ := hp
        obtain ⟨us, h1, h2, h3⟩ := hm.put ho hv hle
        obtain ⟨w', hr, hput⟩ := hrun us t h1 h2
        rw [hr]
        obtain ⟨m1, m2⟩ := h3 w' hput
        exact K _ _ ⟨_, _, m1, m2, .raw⟩
      · simp at hd
    · simp at hd
  | spc f args q =>
    cases q with
    | pan => simp [doPlan, planO, condO] at hd
    | ret v' =>
      simp only [doPlan, Option.some.injEq, Prod.mk.injEq] at hd
      obtain ⟨rfl, rfl⟩ := hd
      obtain ⟨s, hs, hq⟩ := hspec f args _ rfl
      obtain ⟨vs, hv, hr⟩ := hp
      rw [hr]
      refine ⟨fun h => by simp [Fence.wide] at h, ?_⟩
      rw [callsIn_fr]
      refine (hΓ.spec f s hs args _ hq ρ A w vs hm.lt (hI _ _ h0 hm.bel) hv).mono ?_
      rintro e w' ⟨hb, u, rfl, hu⟩
      obtain ⟨m1, m2⟩ := hm.grow hb
      exact K u w' ⟨_, _, m1, m2, hu.any⟩
  | upd f args id s =>
    simp only [doPlan] at hd
    split at hd
    · rename_i cs t ho
      split at hd
      · rename_i hb
        obtain ⟨q, hq, h2⟩ := Option.bind_eq_some_iff.1 hd
        obtain ⟨cs', rfl, hl, hsv, hsc, rfl⟩ := updEnd_some h2
        obtain ⟨hid, vs, hv, hr⟩ := hp
        obtain ⟨k1, k2, us, k3, k4⟩ := hm.hp.cells ho
        rw [hr]
        refine ⟨fun h => by simp [Fence.wide] at h, ?_⟩
        rw [callsIn_fr]
        refine (hΓ.upd f s (hupd f args id s rfl) args t cs v cs' hq hb hl hsv hsc ρ A w0 w (ρ id) vs us h0 hm.bel k1 hm.lt k2 hv k3 (k4.bnd0 hb)).mono ?_
        rintro e w' ⟨j1, j2, j3, u, us', rfl, j4, j5, j6⟩
        obtain ⟨m1, m2⟩ := hm.updG ho j1 j2 j3 j4 fun _ _ _ _ => scals_rv hsc j6
        exact K u w' ⟨_, _, m1, m2, scal_rv hsv j5⟩
      · simp at hd
    · simp at hd
  | vws f args id s =>
    obtain ⟨as, hview, hs, hsc, rfl⟩ := vwRun_some (by simpa only [doPlan] using hd)
    obtain ⟨vs, hv, hr⟩ := hp
    rw [hr]
    refine ⟨fun h => by simp [Fence.wide] at h, ?_⟩
    rw [callsIn_fr]
    refine (hΓ.spec f _ (hΓ.vw f s (hvw f args id s rfl)) as _ hs ρ (fun b => b < w.heap.size) w vs (fun _ h => h) (hI _ _ h0 hm.bel) (hm.viewL hview hv)).mono ?_
    rintro e w' ⟨hb, u, rfl, hu⟩
    obtain ⟨m1, m2⟩ := hm.grow hb
    exact K u w' ⟨_, _, m1, m2, scal_rv hsc hu⟩
  | call f args => simp [doPlan, planO, condO] at hd
  | pan => simp [doPlan, planO, condO] at hd
theorem callA_upd {f : AV} {fs : List AV} {g : FuncId} {args : List AV} {id : Nat} {s : List AV → Tr Res} {c : Bool} (h : callA Γ f fs = some (c, .upd g args id s)) : Γ.upd g = some s := by
  unfold callA at h
  split at h
  · rename_i g' cs
    split at h
    · split at h
      · obtain ⟨q', hq, h2⟩ := Option.map_eq_some_iff.1 h
        simp at h2
      · split at h <;> simp at h
    · split at h
      · obtain ⟨q', hq, h2⟩ := Option.map_eq_some_iff.1 h
        simp at h2
      · split at h
        · rename_i s' hs
          split at h
          · split at h
            · simp only [Option.some.injEq, Prod.mk.injEq, Plan.upd.injEq] at h
              obtain ⟨_, rfl, _, _, rfl⟩ := h
              exact hs
            · simp at h
          · simp at h
        · split at h <;> simp at h
  · simp at h
  · simp at h
theorem callA_spc {f : AV} {fs : List AV} {g : FuncId} {args : List AV} {q : Res} {c : Bool} (h : callA Γ f fs = some (c, .spc g args q)) : ∃ s, Γ.spec g = some s ∧ s args = some q := by
  unfold callA at h
  split at h
  · rename_i g' cs
    split at h
    · rename_i s hs
      split at h
      · obtain ⟨q', hq, h2⟩ := Option.map_eq_some_iff.1 h
        simp only [Prod.mk.injEq, Plan.spc.injEq] at h2
        obtain ⟨_, rfl, rfl, rfl⟩ := h2
        exact ⟨s, hs, hq⟩
      · split at h <;> simp at h
    · split at h
      · obtain ⟨q', hq, h2⟩ := Option.map_eq_some_iff.1 h
        simp at h2
      · split at h
        · split at h
          · split at h <;> simp at h
          · simp at h
        · split at h <;> simp at h
  · simp at h
  · simp at h
theorem callA_vw {f : AV} {fs : List AV} {g : FuncId} {args : List AV} {id : Nat} {s : List AV → Tr Res} {c : Bool} (h : callA Γ f fs = some (c, .vws g args id s)) : Γ.vw g = some s := by
  unfold callA at h
  split at h
  · rename_i g' cs
    split at h
    · split at h
      · obtain ⟨q', hq, h2⟩ := Option.map_eq_some_iff.1 h
        simp at h2
      · split at h
        · rename_i s' id' hs _
          simp only [Option.some.injEq, Prod.mk.injEq, Plan.vws.injEq] at h
          obtain ⟨_, rfl, _, _, rfl⟩ := h
          exact hs
        · simp at h
    · split at h
      · obtain ⟨q', hq, h2⟩ := Option.map_eq_some_iff.1 h
        simp at h2
      · split at h
        · split at h
          · split at h <;> simp at h
          · simp at h
        · split at h <;> simp at h
  · simp at h
  · simp at h
theorem ok1_val {x : Option AV} {c : Bool} {p : Plan} (h : ok1 x = some (c, p)) : ∃ v, p = .val v := by
  obtain ⟨v, _, h2⟩ := Option.map_eq_some_iff.1 h
  simp only [Prod.mk.injEq] at h2
  exact ⟨v, h2.2.symm⟩
theorem ok2_val {x : Option (Bool × AV)} {c : Bool} {p : Plan} (h : ok2 x = some (c, p)) : ∃ v, p = .val v := by
  obtain ⟨v, _, h2⟩ := Option.map_eq_some_iff.1 h
  simp only [Prod.mk.injEq] at h2
  exact ⟨v.2, h2.2.symm⟩
def noCall : Plan → Bool
  | .spc _ _ _ => false
  | .upd _ _ _ _ => false
  | .vws _ _ _ _ => false
  | .call _ _ => false
  | .round _ _ => false
  | _ => true
theorem ok1_no {x : Option AV} {c : Bool} {p : Plan} (h : ok1 x = some (c, p)) : noCall p = true := by
  obtain ⟨v, rfl⟩ := ok1_val h
  rfl
theorem ok2_no {x : Option (Bool × AV)} {c : Bool} {p : Plan} (h : ok2 x = some (c, p)) : noCall p = true := by
  obtain ⟨v, rfl⟩ := ok2_val h
  rfl
theorem lenO_no {P : Program} {t : TypeId} {x : AV} {p : Plan} (h : lenO P t x = some p) : noCall p = true := by
  unfold lenO at h
  split at h
  · split at h
    · simp only [Option.some.injEq] at h; subst h; rfl
    · simp at h
  · split at h
    · simp only [Option.some.injEq] at h; subst h; rfl
    · simp at h
  · simp at h
theorem idxO_no {P : Program} {t : TypeId} {x i : AV} {c : Bool} {p : Plan} (h : idxO P t x i = some (c, p)) : noCall p = true := by
  unfold idxO at h
  split at h
  · split at h
    · split at h
      · simp only [Option.some.injEq, Prod.mk.injEq] at h; obtain ⟨_, rfl⟩ := h; rfl
      · simp at h
    · simp at h
  · simp at h
theorem fldO_no {P : Program} {t : TypeId} {f : Nat} {x : AV} {p : Plan} (h : fldO P t f x = some p) : noCall p = true := by
  unfold fldO at h
  split at h
  · split at h
    · split at h
      · split at h
        · simp only [Option.some.injEq] at h; subst h; rfl
        · simp at h
      · simp at h
    · simp at h
  · simp at h
theorem appA_no {P : Program} {t u : TypeId} {x y : AV} {p : Plan} (h : appA P t u x y = some p) : noCall p = true := by
  unfold appA at h
  split at h
  · split at h
    · split at h
      · split at h
        · simp only [Option.some.injEq] at h; subst h; rfl
        · simp only [Option.some.injEq] at h; subst h; rfl
        · split at h
          · simp only [Option.some.injEq] at h; subst h; rfl
          · simp at h
        · simp at h
      · simp at h
    · simp at h
  · simp at h
theorem makeA_no {P : Program} {t : TypeId} {x y : AV} {c : Bool} {p : Plan} (h : makeA P t x y = some (c, p)) : noCall p = true := by
  unfold makeA at h
  split at h
  · split at h
    · simp only [Option.some.injEq, Prod.mk.injEq] at h; obtain ⟨_, rfl⟩ := h; rfl
    · simp at h
  · split at h
    · simp only [Option.some.injEq, Prod.mk.injEq] at h; obtain ⟨_, rfl⟩ := h; rfl
    · split at h
      · simp only [Option.some.injEq, Prod.mk.injEq] at h; obtain ⟨_, rfl⟩ := h; rfl
      · simp at h
  · split at h
    · simp only [Option.some.injEq, Prod.mk.injEq] at h; obtain ⟨_, rfl⟩ := h; rfl
    · simp at h
  · simp at h
theorem build0_no {P : Program} {t : TypeId} {c : Bool} {p : Plan} (h : build0 P t = some (c, p)) : noCall p = true := by
  obtain ⟨q, _, h2⟩ := Option.map_eq_some_iff.1 h
  simp only [Prod.mk.injEq] at h2
  obtain ⟨_, rfl⟩ := h2
  rfl
theorem map_no {f : Option Plan} {c : Bool} {p : Plan} (h : f.map (fun p => (true, p)) = some (c, p)) (hf : ∀ q, f = some q → noCall q = true) : noCall p = true := by
  obtain ⟨q, hq, h2⟩ := Option.map_eq_some_iff.1 h
  simp only [Prod.mk.injEq] at h2
  obtain ⟨_, rfl⟩ := h2
  exact hf q hq
theorem plan_no {x : Operand → AV} {op : Op} {c : Bool} {p : Plan} (h : plan Γ x op = some (c, p)) : noCall p = true ∨ ∃ cl f, op = .call cl ∧ cl.callee = .value f := by
  cases op <;> simp only [plan, reduceCtorEq] at h
  case call cl =>
    split at h
    · rename_i f hf
      exact .inr ⟨cl, f, rfl, hf⟩
    · split at h
      · split at h
        · exact .inl (map_no h fun _ => lenO_no)
        · exact .inl (ok1_no h)
      · simp at h
    · split at h
      · exact .inl (map_no h fun _ => appA_no)
      · simp at h
    · exact .inl (ok1_no h)
    · exact .inl (ok1_no h)
    · simp at h
  case slice t y lo hi mx =>
    cases mx with
    | none => exact .inl (ok2_no h)
    | some _ => exact .inl (ok2_no h)
  case fieldAddr s y f =>
    split at h
    · exact .inl (map_no h fun _ => fldO_no)
    · exact .inl (ok1_no h)
  case indexAddr t y i =>
    split at h
    · exact .inl (idxO_no h)
    · exact .inl (ok2_no h)
  case makeSlice t l c => exact .inl (makeA_no h)
  case buildSlice t len ps =>
    split at h
    · split at h
      · exact .inl (build0_no h)
      · simp at h
    · exact .inl (ok1_no h)
  all_goals
    left
    first
    | exact ok1_no h
    | exact ok2_no h
    | (simp at h; obtain ⟨_, rfl⟩ := h; rfl)
    | (obtain ⟨q, hq, h2⟩ := Option.map_eq_some_iff.1 h; simp only [Prod.mk.injEq] at h2; obtain ⟨_, rfl⟩ := h2; rfl)
    | (split at h <;> first
        | (simp at h; done)
        | exact ok1_no h
        | (simp only [Option.some.injEq, Prod.mk.injEq] at h; obtain ⟨_, rfl⟩ := h; rfl)
        | (split at h <;> first
          | (simp at h; done)
          | exact ok1_no h
          | (simp only [Option.some.injEq, Prod.mk.injEq] at h; obtain ⟨_, rfl⟩ := h; rfl)
          | (split at h <;> first
            | (simp at h; done)
            | (simp only [Option.some.injEq, Prod.mk.injEq] at h; obtain ⟨_, rfl⟩ := h; rfl))))
theorem plan_spc {x : Operand → AV} {op : Op} {c : Bool} {g : FuncId} {args : List AV} {q : Res} (h : plan Γ x op = some (c, .spc g args q)) : ∃ s, Γ.spec g = some s ∧ s args = some q := by
  rcases plan_no h with hn | ⟨cl, f, rfl, hf⟩
  · simp [noCall] at hn
  · simp only [plan, hf] at h
    exact callA_spc h
theorem plan_upd {x : Operand → AV} {op : Op} {c : Bool} {g : FuncId} {args : List AV} {id : Nat} {s : List AV → Tr Res} (h : plan Γ x op = some (c, .upd g args id s)) : Γ.upd g = some s := by
  rcases plan_no h with hn | ⟨cl, f, rfl, hf⟩
  · simp [noCall] at hn
  · simp only [plan, hf] at h
    exact callA_upd h
theorem plan_vw {x : Operand → AV} {op : Op} {c : Bool} {g : FuncId} {args : List AV} {id : Nat} {s : List AV → Tr Res} (h : plan Γ x op = some (c, .vws g args id s)) : Γ.vw g = some s := by
  rcases plan_no h with hn | ⟨cl, f, rfl, hf⟩
  · simp [noCall] at hn
  · simp only [plan, hf] at h
    exact callA_vw h
end
def Out (D : Dx) (w0 : World) (ρ : Nm) (A : Nat → Prop) (w : World) (H : List Ob) (e : Ex) (st' : St) (x : Exit) (a' : Act) (w' : World) : Prop :=
  ∃ ρ' A', Ext (Live H) ρ A w (Live st'.hp) ρ' A' w' ∧ match e with
    | .normal => x = .normal ∧ Rel D w0 ρ' A' st' a' w'
    | .exit id => x = .exit id ∧ Rel D w0 ρ' A' st' a' w'
    | .ret => x = .ret ∧ Rel D w0 ρ' A' st' a' w'
    | .pan => ∃ t v, x = .panic [{ v := .iface t v, recovered := false }] ∧ Rel D w0 ρ' A' st' a' w'
theorem Out.from {D : Dx} {w0 : World} {ρ ρ1 : Nm} {A A1 : Nat → Prop} {w w1 : World} {H H1 : List Ob} {e : Ex} {st' : St} {x : Exit} {a' : Act} {w' : World}
    (h : Ext (Live H) ρ A w (Live H1) ρ1 A1 w1) (k : Out D w0 ρ1 A1 w1 H1 e st' x a' w') : Out D w0 ρ A w H e st' x a' w' := by
  obtain ⟨ρ', A', h1, h2⟩ := k
  exact ⟨ρ', A', h.trans h1, h2⟩
section
variable {D : Dx} {Γ : Cx} {Inv : World → Prop} {cf : CallF} {w0 : World} {ρ : Nm} {A : Nat → Prop} {w : World} {r : Option Nat} {n : Nat}
theorem wantA_ok {ops : Array Oper} {tm : List AV} {a : Act} {N : Nat → Prop} (ht : Rvs ρ A w N tm a.tmps.toList) {o : Oper} {g : Bool} (h : wantA ops tm o = some g) : Region.wanted o (yielded ops a.tmps) = g := by
  unfold wantA at h
  unfold Region.wanted
  cases hg : o.guard with
  | none => simp only [hg, Option.some.injEq] at h; simp [h]
  | some jw =>
    obtain ⟨j, want⟩ := jw
    simp only [hg] at h ⊢
    unfold yielded
    cases hd : (ops[j]?).bind (·.dst) with
    | none =>
      simp only [hd, Option.some.injEq] at h
      subst h
      simp
    | some d =>
      simp only [hd] at h
      simp only [Option.bind_some]
      have hop := opd_rv ht (.tmp d)
      simp only [opd, Act.eval] at hop
      cases hx : a.tmps[d]? with
      | none =>
        have hs : a.tmps.size ≤ d := by simpa using hx
        have hl : tm.length ≤ d := by rw [ht.1]; simpa using hs
        have : getT tm d = .raw undef := by simp [getT, List.getElem?_eq_none hl]
        rw [this] at h
        simp only [undef, Option.some.injEq] at h
        subst h
        simp
      | some v =>
        have : a.tmps.getD d undef = v := by rw [Array.getD_eq_getD_getElem?, hx]; rfl
        rw [this] at hop
        split at h
        · rename_i b hb
          rw [hb] at hop
          cases hop.of_bool
          simp only [Option.some.injEq] at h
          subst h
          simp
        · rename_i vs hb
          rw [hb] at hop
          cases hop.of_raw
          simp only [Option.some.injEq] at h
          subst h
          simp
        · simp at h
theorem stepA_sound (hΓ : Γ.Ok Inv) (hI : Stable Inv) (h0 : Inv w0) (hcf : CallSound Γ.P Inv cf) {ops : Array Oper} {i : Nat} {st st' : St} {e : Bool} {a : Act} (hr : Rel D w0 ρ A st a w)
    (h : stepA Γ cf ops i st = some (e, st')) {K : Act → World → Prop} {Q : Exit → Act → World → Prop}
    (hK : e = true → ∀ a' w', Out D w0 ρ A w st.hp .normal st' .normal a' w' → K a' w') (hQ : e = false → ∀ x a' w', Out D w0 ρ A w st.hp .pan st' x a' w' → Q x a' w') :
    wpOpIn (Fr r) n Γ.P ops Q i K a w := by
  unfold stepA at h
  unfold wpOpIn
  cases ho : ops[i]? with
  | none => simp [ho] at h
  | some o =>
    simp only [ho] at h ⊢
    cases hw : wantA ops st.tm o with
    | none => simp [hw] at h
    | some g =>
      simp only [hw] at h
      rw [wantA_ok hr.tm hw]
      cases g with
      | false =>
        simp only [cond_false, Option.some.injEq, Prod.mk.injEq] at h
        obtain ⟨rfl, rfl⟩ := h
        simp only [Bool.false_eq_true, if_false]
        refine ⟨about_fr o a, hK rfl _ _ ⟨ρ, A, Ext.refl _ _ _ _, rfl, ?_, ?_, hr.mem⟩⟩
        · exact put_rel hr.tm o.dst .raw
        · rw [put_defers]; exact hr.df
      | true =>
        simp only [cond_true] at h
        simp only [if_true]
        cases hp : plan Γ (opd st.tm) o.op with
        | none => simp [hp] at h
        | some cp =>
          obtain ⟨c, p⟩ := cp
          simp only [hp] at h
          cases c with
          | false => simp at h
          | true =>
            simp only [cond_true] at h
            have hacts := plan_acts hΓ hr.tm hr.mem.lt hp rfl
            have hnd := plan_noDefer hp
            have hspec : ∀ f args q, p = .spc f args q → ∃ s, Γ.spec f = some s ∧ s args = some q := fun f args q e => plan_spc (by rw [hp, e])
            have gen : ∀ {v H}, doPlan st.hp.length st.hp p = some (v, H) → some (true, (⟨putA st.tm o.dst v, H⟩ : St)) = some (e, st') → o.wpIn (Fr r) n Γ.P a w K Q := by
              intro v H hd he
              simp only [Option.some.injEq, Prod.mk.injEq] at he
              obtain ⟨rfl, rfl⟩ := he
              refine doPlan_sound hΓ hI h0 hr.mem hnd hacts hd hspec (fun f args id s e => plan_upd (by rw [hp, e])) (fun f args id s e => plan_vw (by rw [hp, e])) fun u w' ⟨ρ', A', m1, m2, hv⟩ => hK rfl _ _ ⟨ρ', A', m2, rfl, ?_, ?_, m1⟩
              · exact put_rel (m2.rvs hr.tm) o.dst hv
              · rw [put_defers]; exact hr.df.keep (doPlan_keep hd) m2.nam
            split at h
            · simp only [Option.some.injEq, Prod.mk.injEq] at h
              obtain ⟨rfl, rfl⟩ := h
              obtain ⟨t, v, hrun⟩ := hacts
              refine ⟨about_fr o a, ?_⟩
              rw [Oper.semAt_eq _ _ _ hnd, hrun]
              exact hQ rfl _ _ _ ⟨ρ, A, Ext.refl _ _ _ _, t, v, rfl, hr⟩
            · rename_i f args
              simp only [Option.some.injEq, Prod.mk.injEq] at h
              obtain ⟨rfl, rfl⟩ := h
              obtain ⟨s, hs, hq⟩ := hspec f args _ rfl
              obtain ⟨vs, hv, hrun⟩ := hacts
              refine ⟨about_fr o a, ?_⟩
              rw [Oper.semAt_eq _ _ _ hnd, hrun]
              refine ⟨fun h => by simp [Fence.wide] at h, ?_⟩
              rw [callsIn_fr]
              refine (hΓ.spec f s hs args _ hq ρ A w vs hr.mem.lt (hI _ _ h0 hr.mem.bel) hv).mono ?_
              rintro e w' ⟨hb, t, u, rfl⟩
              obtain ⟨m1, m2⟩ := hr.mem.grow hb
              exact hQ rfl _ _ _ ⟨_, _, m2, t, u, rfl, m2.rvs hr.tm, hr.df, m1⟩
            · rename_i f args
              obtain ⟨vs, hv, hrun⟩ := hacts
              refine ⟨about_fr o a, ?_⟩
              rw [Oper.semAt_eq _ _ _ hnd, hrun]
              refine ⟨fun h => by simp [Fence.wide] at h, ?_⟩
              rw [callsIn_fr]
              split at h
              · simp at h
              · rename_i v H hc
                simp only [Option.some.injEq, Prod.mk.injEq] at h
                obtain ⟨rfl, rfl⟩ := h
                refine (hcf.fn f args st.hp _ H hc w0 ρ A w vs h0 hr.mem hv).mono ?_
                rintro e w' ⟨ρ', A', m1, m2, u, rfl, hu⟩
                refine hK rfl _ _ ⟨ρ', A', m2, rfl, put_rel (m2.rvs hr.tm) o.dst hu, ?_, m1⟩
                rw [put_defers]; exact hr.df.keep (hcf.keep _ _ _ _ _ hc) m2.nam
              · rename_i H hc
                simp only [Option.some.injEq, Prod.mk.injEq] at h
                obtain ⟨rfl, rfl⟩ := h
                refine (hcf.fn f args st.hp _ H hc w0 ρ A w vs h0 hr.mem hv).mono ?_
                rintro e w' ⟨ρ', A', m1, m2, t, u, rfl⟩
                exact hQ rfl _ _ _ ⟨ρ', A', m2, t, u, rfl, m2.rvs hr.tm, hr.df.keep (hcf.keep _ _ _ _ _ hc) m2.nam, m1⟩
            · rename_i id args
              obtain ⟨hid, vs, hv, hrun⟩ := hacts
              refine ⟨about_fr o a, ?_⟩
              rw [Oper.semAt_eq _ _ _ hnd, hrun]
              split at h
              · rename_i v H hc
                simp only [Option.some.injEq, Prod.mk.injEq] at h
                obtain ⟨rfl, rfl⟩ := h
                obtain ⟨fn, tmps, asg, body, hy, hround⟩ := hcf.rnd id args st.hp _ H hc w0 ρ A w vs h0 hr.mem hv hid
                rw [hy, Oper.uponIn_round]
                refine ⟨fun h => by simp [Fence.wide] at h, (hround r (n - 1)).mono ?_⟩
                rintro e w' ⟨ρ', A', m1, m2, u, rfl, hu⟩
                refine hK rfl _ _ ⟨ρ', A', m2, rfl, put_rel (m2.rvs hr.tm) o.dst hu, ?_, m1⟩
                rw [put_defers]; exact hr.df.keep (hcf.rkeep _ _ _ _ _ hc) m2.nam
              · simp at h
            · split at h
              · simp at h
              · rename_i v H hd
                exact gen hd h
theorem stepA_keep (hcf : CallSound Γ.P Inv cf) {ops : Array Oper} {i : Nat} {st st' : St} {e : Bool} (h : stepA Γ cf ops i st = some (e, st')) : KeepD st.hp st'.hp := by
  unfold stepA at h
  cases ho : ops[i]? with
  | none => simp [ho] at h
  | some o =>
    simp only [ho] at h
    cases hw : wantA ops st.tm o with
    | none => simp [hw] at h
    | some g =>
      simp only [hw] at h
      cases g with
      | false => simp only [cond_false, Option.some.injEq, Prod.mk.injEq] at h; obtain ⟨_, rfl⟩ := h; exact .refl _
      | true =>
        simp only [cond_true] at h
        cases hp : plan Γ (opd st.tm) o.op with
        | none => simp [hp] at h
        | some cp =>
          obtain ⟨c, p⟩ := cp
          simp only [hp] at h
          cases c with
          | false => simp at h
          | true =>
            simp only [cond_true] at h
            split at h
            · simp only [Option.some.injEq, Prod.mk.injEq] at h; obtain ⟨_, rfl⟩ := h; exact .refl _
            · simp only [Option.some.injEq, Prod.mk.injEq] at h; obtain ⟨_, rfl⟩ := h; exact .refl _
            · split at h
              · simp at h
              · rename_i hc; simp only [Option.some.injEq, Prod.mk.injEq] at h; obtain ⟨_, rfl⟩ := h; exact hcf.keep _ _ _ _ _ hc
              · rename_i hc; simp only [Option.some.injEq, Prod.mk.injEq] at h; obtain ⟨_, rfl⟩ := h; exact hcf.keep _ _ _ _ _ hc
            · split at h
              · rename_i hc; simp only [Option.some.injEq, Prod.mk.injEq] at h; obtain ⟨_, rfl⟩ := h; exact hcf.rkeep _ _ _ _ _ hc
              · simp at h
            · split at h
              · simp at h
              · rename_i hd; simp only [Option.some.injEq, Prod.mk.injEq] at h; obtain ⟨_, rfl⟩ := h; exact doPlan_keep hd
theorem runIdx_keep (hcf : CallSound Γ.P Inv cf) {ops : Array Oper} : ∀ (l : List Nat) {st st' : St} {e : Ex}, runIdx Γ cf ops l st = some (e, st') → KeepD st.hp st'.hp := by
  intro l
  induction l with
  | nil => intro st st' e h; simp only [runIdx, Option.some.injEq, Prod.mk.injEq] at h; obtain ⟨_, rfl⟩ := h; exact .refl _
  | cons i l ih =>
    intro st st' e h
    simp only [runIdx] at h
    split at h
    · rename_i st1 hs; exact (stepA_keep hcf hs).trans (ih h)
    · rename_i st1 hs; simp only [Option.some.injEq, Prod.mk.injEq] at h; obtain ⟨_, rfl⟩ := h; exact stepA_keep hcf hs
    · simp at h
theorem stepA_len (hcf : CallSound Γ.P Inv cf) {ops : Array Oper} {i : Nat} {st st' : St} {e : Bool} (h : stepA Γ cf ops i st = some (e, st')) : st.hp.length ≤ st'.hp.length := by
  unfold stepA at h
  cases ho : ops[i]? with
  | none => simp [ho] at h
  | some o =>
    simp only [ho] at h
    cases hw : wantA ops st.tm o with
    | none => simp [hw] at h
    | some g =>
      simp only [hw] at h
      cases g with
      | false => simp only [cond_false, Option.some.injEq, Prod.mk.injEq] at h; obtain ⟨_, rfl⟩ := h; exact Nat.le_refl _
      | true =>
        simp only [cond_true] at h
        cases hp : plan Γ (opd st.tm) o.op with
        | none => simp [hp] at h
        | some cp =>
          obtain ⟨c, p⟩ := cp
          simp only [hp] at h
          cases c with
          | false => simp at h
          | true =>
            simp only [cond_true] at h
            split at h
            · simp only [Option.some.injEq, Prod.mk.injEq] at h; obtain ⟨_, rfl⟩ := h; exact Nat.le_refl _
            · simp only [Option.some.injEq, Prod.mk.injEq] at h; obtain ⟨_, rfl⟩ := h; exact Nat.le_refl _
            · split at h
              · simp at h
              · rename_i hc; simp only [Option.some.injEq, Prod.mk.injEq] at h; obtain ⟨_, rfl⟩ := h; exact hcf.len _ _ _ _ _ hc
              · rename_i hc; simp only [Option.some.injEq, Prod.mk.injEq] at h; obtain ⟨_, rfl⟩ := h; exact hcf.len _ _ _ _ _ hc
            · split at h
              · rename_i hc; simp only [Option.some.injEq, Prod.mk.injEq] at h; obtain ⟨_, rfl⟩ := h; exact hcf.rlen _ _ _ _ _ hc
              · simp at h
            · split at h
              · simp at h
              · rename_i hd; simp only [Option.some.injEq, Prod.mk.injEq] at h; obtain ⟨_, rfl⟩ := h; exact doPlan_len hd
theorem runIdx_len (hcf : CallSound Γ.P Inv cf) {ops : Array Oper} : ∀ (l : List Nat) {st st' : St} {e : Ex}, runIdx Γ cf ops l st = some (e, st') → st.hp.length ≤ st'.hp.length := by
  intro l
  induction l with
  | nil => intro st st' e h; simp only [runIdx, Option.some.injEq, Prod.mk.injEq] at h; obtain ⟨_, rfl⟩ := h; exact Nat.le_refl _
  | cons i l ih =>
    intro st st' e h
    simp only [runIdx] at h
    split at h
    · rename_i st1 hs; exact Nat.le_trans (stepA_len hcf hs) (ih h)
    · rename_i st1 hs; simp only [Option.some.injEq, Prod.mk.injEq] at h; obtain ⟨_, rfl⟩ := h; exact stepA_len hcf hs
    · simp at h
theorem runIdx_sound (hΓ : Γ.Ok Inv) (hI : Stable Inv) (h0 : Inv w0) (hcf : CallSound Γ.P Inv cf) {ops : Array Oper} {e : Ex} {st' : St} : ∀ (l : List Nat) (st : St) (ρ : Nm) (A : Nat → Prop) (w : World) (a : Act) (Q : Exit → Act → World → Prop),
    Rel D w0 ρ A st a w → runIdx Γ cf ops l st = some (e, st') → (∀ x a' w', Out D w0 ρ A w st.hp e st' x a' w' → Q x a' w') → wpOpsIn (Fr r) n Γ.P ops Q l a w := by
  intro l
  induction l with
  | nil =>
    intro st ρ A w a Q hr h hQ
    simp only [runIdx, Option.some.injEq, Prod.mk.injEq] at h
    obtain ⟨rfl, rfl⟩ := h
    exact hQ _ _ _ ⟨ρ, A, Ext.refl _ _ _ _, rfl, hr⟩
  | cons i l ih =>
    intro st ρ A w a Q hr h hQ
    simp only [runIdx] at h
    rw [wpOpsIn_cons]
    split at h
    · rename_i st1 hs
      refine stepA_sound hΓ hI h0 hcf hr hs (fun _ a' w' ho => ?_) (fun he => by cases he)
      obtain ⟨ρ', A', hext, _, hr'⟩ := ho
      exact ih st1 ρ' A' w' a' Q hr' h fun x a2 w2 ho2 => hQ _ _ _ (Out.from hext ho2)
    · rename_i st1 hs
      simp only [Option.some.injEq, Prod.mk.injEq] at h
      obtain ⟨rfl, rfl⟩ := h
      exact stepA_sound hΓ hI h0 hcf hr hs (fun he => by cases he) (fun _ x a' w' ho => hQ _ _ _ ho)
    · simp at h
end
open Go.RowKit
theorem wpIn_loop_ghost {F : Fence} {n : Nat} {P : Program} {Q : Exit → Act → World → Prop} {a : Act} {w : World} {c : Code} (I : Nat → Act → World → Prop) (n₀ : Nat) (h₀ : I n₀ a w)
    (round : ∀ k a w, I k a w → c.wpIn F n P (Exit.then (fun a' w' => ∃ k', k' < k ∧ I k' a' w') Q) a w) : (Code.loop c).wpIn F n P Q a w := by
  refine wpIn_loop (fun a w => ∃ k, I k a w) (fun a w => leastOf (fun k => I k a w)) ⟨n₀, h₀⟩ ?_
  intro a w hI
  refine wpIn_mono (round _ a w (leastOf_spec hI).1) ?_
  intro e a' w' hq
  cases e with
  | normal =>
    obtain ⟨k', hlt, hI'⟩ := hq
    exact show (∃ k, I k a' w') ∧ leastOf (fun k => I k a' w') < leastOf (fun k => I k a w) from ⟨⟨k', hI'⟩, Nat.lt_of_le_of_lt ((leastOf_spec ⟨k', hI'⟩).2 k' hI') hlt⟩
  | exit id => exact hq
  | goto l => exact hq
  | ret => exact hq
  | panic ch => exact hq
  | outgrown => exact hq
def cutBack (keep : List Nat) (m : Nat) (st : St) : Option (List AV × List Ob) :=
  if Nat.beq st.hp.length m then some (keep.map (getT st.tm), st.hp)
  else if Nat.ble m st.hp.length && bnds m (keep.map (getT st.tm)) && (st.hp.take m).all (bndOb m) && noDfr m st.hp then some (keep.map (getT st.tm), st.hp.take m)
  else none
def loops : Code → List (Nat × Code)
  | .seq a b => loops a ++ loops b
  | .cond _ a b => loops a ++ loops b
  | .block id (.loop body) => (id, body) :: loops body
  | .block _ c => loops c
  | _ => []
def SumOk (Γ : Cx) (cf : CallF) (df : DrawF) (lp : Nat → LK) (nt : Nat) (body : Code) (keep : List Nat) (f : List AV → List Ob → Option (Ex × List AV × List Ob)) : Prop :=
  ∃ μ : List AV → List Ob → Nat, ∀ vs H R, vs.length = keep.length → f vs H = some R →
    ∃ e st1 vs1 H1, runC Γ cf df lp body ⟨mkF nt keep vs, H⟩ = some (e, st1) ∧ cutBack keep H.length st1 = some (vs1, H1) ∧
      match e with
      | .normal => f vs1 H1 = some R ∧ μ vs1 H1 < μ vs H
      | e => R = (e, vs1, H1)
def LoopsOk (Γ : Cx) (cf : CallF) (df : DrawF) (lp : Nat → LK) (nt : Nat) (c : Code) : Prop :=
  ∀ p ∈ loops c, ∀ keep f, lp p.1 = .sum keep f → keep.Nodup ∧ (∀ k ∈ keep, k < nt) ∧ SumOk Γ cf df lp nt p.2 keep f
def DrawSound (P : Program) (Inv : World → Prop) (df : DrawF) : Prop :=
  ∀ ops st e st', df ops st = some (e, st') → ∀ D w0 ρ A w a r n id, Inv w0 → Rel D w0 ρ A st a w → (Code.region id ops true).wpIn (Fr r) n P (Out D w0 ρ A w st.hp e st') a w
section
variable {D : Dx} {Γ : Cx} {Inv : World → Prop} {cf : CallF} {df : DrawF} {lp : Nat → LK} {w0 : World} {ρ : Nm} {A : Nat → Prop} {w : World} {r : Option Nat} {n : Nat}
theorem setAll_length (is : List Nat) : ∀ (tm vs : List AV), (setAll tm is vs).length = tm.length := by
  induction is with
  | nil => intro tm vs; simp [setAll]
  | cons i is ih => intro tm vs; cases vs with
    | nil => simp [setAll]
    | cons v vs => simp [setAll, ih]
theorem mkF_length (nt : Nat) (keep : List Nat) (vs : List AV) : (mkF nt keep vs).length = nt := by simp [mkF, setAll_length]
theorem setAll_rel {N : Nat → Prop} {vals : List Value} : ∀ (is : List Nat) (tm vs : List AV), Rvs ρ A w N tm vals → vs.length = is.length →
    (∀ i (h1 : i < is.length) (h2 : i < vs.length), ∀ v, vals[is[i]]? = some v → Rv ρ A w N vs[i] v) → Rvs ρ A w N (setAll tm is vs) vals := by
  intro is
  induction is with
  | nil => intro tm vs h _ _; simpa [setAll] using h
  | cons i is ih =>
    intro tm vs h hl hv
    cases vs with
    | nil => simp at hl
    | cons v vs =>
      simp only [setAll]
      refine ih _ _ ?_ (by simpa using hl) (fun j h1 h2 u hu => hv (j + 1) (by simpa using h1) (by simpa using h2) u hu)
      refine ⟨by simp [h.1], fun j h1 h2 => ?_⟩
      simp only [List.length_set] at h1
      simp only [List.getElem_set]
      by_cases e : i = j
      · subst e
        simp only [if_true]
        exact hv 0 (by simp) (by simp) _ (List.getElem?_eq_getElem h2)
      · simp only [e, if_false]
        exact h.2 j h1 h2
theorem junk_rel {N : Nat → Prop} (vals : List Value) : Rvs ρ A w N (List.replicate vals.length .junk) vals :=
  ⟨by simp, fun i h1 h2 => by simp only [List.getElem_replicate]; exact .junk⟩
theorem mkF_rel {N : Nat → Prop} {vals : List Value} {tm : List AV} {keep : List Nat} {vs : List AV} (hv : Rvs ρ A w N tm vals) (hk : vs = keep.map (getT tm)) : Rvs ρ A w N (mkF tm.length keep vs) vals := by
  unfold mkF
  rw [hv.1]
  refine setAll_rel keep _ vs (junk_rel vals) (by simp [hk]) ?_
  intro i h1 h2 v hx
  subst hk
  simp only [List.getElem_map, getT]
  have hlt : keep[i] < vals.length := (List.getElem?_eq_some_iff.1 hx).1
  have hlt' : keep[i] < tm.length := by rw [hv.1]; exact hlt
  rw [List.getElem?_eq_getElem hlt']
  have := hv.2 keep[i] hlt' hlt
  rw [List.getElem?_eq_getElem hlt, Option.some.injEq] at hx
  subst hx
  exact this
theorem live_take {H : List Ob} {m : Nat} {id : Nat} : Live (H.take m) id ↔ Live H id ∧ id < m := by
  unfold Live
  simp only [List.getElem?_take]
  constructor
  · rintro ⟨o, h, hl⟩
    split at h
    · rename_i hlt; exact ⟨⟨o, h, hl⟩, hlt⟩
    · simp at h
  · rintro ⟨⟨o, h, hl⟩, hlt⟩
    exact ⟨o, by rw [if_pos hlt]; exact h, hl⟩
theorem noDfr_keep {m : Nat} {H : List Ob} (h : noDfr m H = true) : KeepD H (H.take m) := by
  intro id hid
  have hlt : id < m := by
    rcases Nat.lt_or_ge id m with h' | h'
    · exact h'
    · exfalso
      have hd : (H.drop m)[id - m]? = some .dfr := by rw [List.getElem?_drop]; rw [show m + (id - m) = id by omega]; exact hid
      have := List.all_eq_true.1 h _ (List.mem_of_getElem? hd)
      simp [isDfr] at this
  rw [List.getElem?_take, if_pos hlt]; exact hid
theorem cutBack_keep {keep : List Nat} {m : Nat} {st : St} {vs : List AV} {H : List Ob} (hc : cutBack keep m st = some (vs, H)) : KeepD st.hp H := by
  unfold cutBack at hc
  split at hc
  · simp only [Option.some.injEq, Prod.mk.injEq] at hc; obtain ⟨_, rfl⟩ := hc; exact .refl _
  · split at hc
    · rename_i hcond
      simp only [Bool.and_eq_true] at hcond
      simp only [Option.some.injEq, Prod.mk.injEq] at hc
      obtain ⟨_, rfl⟩ := hc
      exact noDfr_keep hcond.2
    · simp at hc
theorem Mem.take {H : List Ob} (h : Mem w0 ρ A w H) {m : Nat} (hb : (H.take m).all (bndOb m) = true) : Mem w0 ρ A w (H.take m) := by
  have hlv : ∀ id, Upto (Live H) m id → Live (H.take m) id := fun id hi => live_take.2 hi
  have hget : ∀ id o, (H.take m)[id]? = some o → H[id]? = some o := fun id o ho => by
    rw [List.getElem?_take] at ho
    split at ho
    · exact ho
    · simp at ho
  refine ⟨⟨fun id o ho => ?_, fun i j o p b hi hj => h.hp.inj i j o p b (hget i o hi) (hget j p hj)⟩, h.bel, h.lt, h.bs⟩
  have hbo := List.all_eq_true.1 hb o (List.mem_of_getElem? ho)
  exact (h.hp.obj id o (hget id o ho)).map fun x hx => (hx.bnd hbo).mono hlv (Nle.refl _ _) (fun _ h => h) (fun _ _ => rfl)
theorem cutBack_rel {keep : List Nat} {m : Nat} {st : St} {a : Act} {vs : List AV} {H : List Ob} (h : Rel D w0 ρ A st a w) (hc : cutBack keep m st = some (vs, H)) :
    Rel D w0 ρ A ⟨mkF st.tm.length keep vs, H⟩ a w ∧ (∀ id, Live st.hp id → id < m → Live H id) ∧ H.length = m ∧ vs.length = keep.length := by
  have hkd := cutBack_keep hc
  unfold cutBack at hc
  split at hc
  · rename_i he
    simp only [Nat.beq_eq] at he
    simp only [Option.some.injEq, Prod.mk.injEq] at hc
    obtain ⟨rfl, rfl⟩ := hc
    exact ⟨⟨mkF_rel h.tm rfl, h.df, h.mem⟩, fun _ h _ => h, he, by simp⟩
  · split at hc
    · rename_i hcond
      simp only [Bool.and_eq_true, Nat.ble_eq] at hcond
      obtain ⟨⟨⟨hle, hb1⟩, hb2⟩, hnd⟩ := hcond
      simp only [Option.some.injEq, Prod.mk.injEq] at hc
      obtain ⟨rfl, rfl⟩ := hc
      have hlv : ∀ id, Upto (Live st.hp) m id → Live (st.hp.take m) id := fun id hi => live_take.2 hi
      refine ⟨⟨?_, h.df.keep hkd (Nle.refl _ _), h.mem.take hb2⟩, fun id h1 h2 => live_take.2 ⟨h1, h2⟩, by simp; omega, by simp⟩
      have hk := h.tm
      unfold mkF
      rw [hk.1]
      refine setAll_rel keep _ _ (junk_rel _) (by simp) ?_
      intro i h1 h2 v hx
      have hlt : keep[i] < a.tmps.toList.length := (List.getElem?_eq_some_iff.1 hx).1
      have hlt' : keep[i] < st.tm.length := by rw [hk.1]; exact hlt
      have hr := hk.2 keep[i] hlt' hlt
      have hbi := bnds_get hb1 i h2
      simp only [List.getElem_map, getT, List.getElem?_eq_getElem hlt', Option.getD_some] at hbi ⊢
      rw [List.getElem?_eq_getElem hlt, Option.some.injEq] at hx
      subst hx
      exact (hr.bnd hbi).mono hlv (Nle.refl _ _) (fun _ h => h) (fun _ _ => rfl)
    · simp at hc
theorem inBlk_out {id : Nat} {H : List Ob} {e : Ex} {st' : St} {x : Option (Ex × St)} {e0 : Ex} {st0 : St} (hx : x = some (e0, st0)) (h : inBlk id x = some (e, st')) {y : Exit} {a' : Act} {w' : World}
    (ho : Out D w0 ρ A w H e0 st0 y a' w') : Exit.inBlock id (Out D w0 ρ A w H e st') y a' w' := by
  subst hx
  obtain ⟨ρ', A', h1, h2⟩ := ho
  cases e0 with
  | normal =>
    simp only [inBlk, Option.some.injEq, Prod.mk.injEq] at h
    obtain ⟨rfl, rfl⟩ := h
    obtain ⟨rfl, h3⟩ := h2
    exact ⟨ρ', A', h1, rfl, h3⟩
  | exit i =>
    obtain ⟨rfl, h3⟩ := h2
    simp only [inBlk] at h
    by_cases hi : i = id
    · simp only [hi, if_true, Option.some.injEq, Prod.mk.injEq] at h
      obtain ⟨rfl, rfl⟩ := h
      simp only [Exit.inBlock, hi, if_true]
      exact ⟨ρ', A', h1, rfl, h3⟩
    · simp only [hi, if_false, Option.some.injEq, Prod.mk.injEq] at h
      obtain ⟨rfl, rfl⟩ := h
      simp only [Exit.inBlock, hi, if_false]
      exact ⟨ρ', A', h1, rfl, h3⟩
  | ret =>
    simp only [inBlk, Option.some.injEq, Prod.mk.injEq] at h
    obtain ⟨rfl, rfl⟩ := h
    obtain ⟨rfl, h3⟩ := h2
    exact ⟨ρ', A', h1, rfl, h3⟩
  | pan =>
    simp only [inBlk, Option.some.injEq, Prod.mk.injEq] at h
    obtain ⟨rfl, rfl⟩ := h
    obtain ⟨t, v, rfl, h3⟩ := h2
    exact ⟨ρ', A', h1, t, v, rfl, h3⟩
theorem putA_length (tm : List AV) (dst : Option Tmp) (v : AV) : (putA tm dst v).length = tm.length := by cases dst <;> simp [putA]
theorem stepA_length {ops : Array Oper} {i : Nat} {st st' : St} {e : Bool} (h : stepA Γ cf ops i st = some (e, st')) : st'.tm.length = st.tm.length := by
  unfold stepA at h
  cases ho : ops[i]? with
  | none => simp [ho] at h
  | some o =>
    simp only [ho] at h
    cases hw : wantA ops st.tm o with
    | none => simp [hw] at h
    | some g =>
      simp only [hw] at h
      cases g with
      | false => simp only [cond_false, Option.some.injEq, Prod.mk.injEq] at h; obtain ⟨_, rfl⟩ := h; simp [putA_length]
      | true =>
        simp only [cond_true] at h
        cases hp : plan Γ (opd st.tm) o.op with
        | none => simp [hp] at h
        | some cp =>
          obtain ⟨c, p⟩ := cp
          simp only [hp] at h
          cases c with
          | false => simp at h
          | true =>
            simp only [cond_true] at h
            split at h
            · simp only [Option.some.injEq, Prod.mk.injEq] at h; obtain ⟨_, rfl⟩ := h; rfl
            · simp only [Option.some.injEq, Prod.mk.injEq] at h; obtain ⟨_, rfl⟩ := h; rfl
            · split at h
              · simp at h
              · simp only [Option.some.injEq, Prod.mk.injEq] at h; obtain ⟨_, rfl⟩ := h; simp [putA_length]
              · simp only [Option.some.injEq, Prod.mk.injEq] at h; obtain ⟨_, rfl⟩ := h; rfl
            · split at h
              · simp only [Option.some.injEq, Prod.mk.injEq] at h; obtain ⟨_, rfl⟩ := h; simp [putA_length]
              · simp at h
            · split at h
              · simp at h
              · simp only [Option.some.injEq, Prod.mk.injEq] at h; obtain ⟨_, rfl⟩ := h; simp [putA_length]
theorem runIdx_length {ops : Array Oper} : ∀ (l : List Nat) {st st' : St} {e : Ex}, runIdx Γ cf ops l st = some (e, st') → st'.tm.length = st.tm.length := by
  intro l
  induction l with
  | nil => intro st st' e h; simp only [runIdx, Option.some.injEq, Prod.mk.injEq] at h; obtain ⟨_, rfl⟩ := h; rfl
  | cons i l ih =>
    intro st st' e h
    simp only [runIdx] at h
    split at h
    · rename_i st1 hs; rw [ih h, stepA_length hs]
    · rename_i st1 hs; simp only [Option.some.injEq, Prod.mk.injEq] at h; obtain ⟨_, rfl⟩ := h; exact stepA_length hs
    · simp at h
def DrawLen (df : DrawF) : Prop := ∀ ops st e st', df ops st = some (e, st') → st'.tm.length = st.tm.length
theorem inBlk_length {id : Nat} {x : Option (Ex × St)} {e : Ex} {st' : St} (h : inBlk id x = some (e, st')) : ∃ e0, x = some (e0, st') := by
  unfold inBlk at h
  split at h
  · rename_i i st
    split at h <;> (simp only [Option.some.injEq, Prod.mk.injEq] at h; obtain ⟨_, rfl⟩ := h; exact ⟨_, rfl⟩)
  · exact ⟨_, h⟩
theorem iterN_length {g : St → Option (Ex × St)} (hg : ∀ st e st', g st = some (e, st') → st'.tm.length = st.tm.length) : ∀ (k : Nat) {st st' : St} {e : Ex}, iterN g k st = some (e, st') → st'.tm.length = st.tm.length := by
  intro k
  induction k with
  | zero => intro st st' e h; simp [iterN] at h
  | succ k ih =>
    intro st st' e h
    simp only [iterN] at h
    split at h
    · rename_i st1 h1; rw [ih h, hg _ _ _ h1]
    · exact hg _ _ _ h
theorem applyG_length {g : Gh} {st st' : St} {c : Bool} (h : applyG st g = some (c, st')) : st'.tm.length = st.tm.length := by
  cases g with
  | frz s => obtain ⟨q, _, h2⟩ := Option.map_eq_some_iff.1 h; simp only [Prod.mk.injEq] at h2; obtain ⟨_, rfl⟩ := h2; simp
  | nil s t sh => obtain ⟨q, _, h2⟩ := Option.map_eq_some_iff.1 h; simp only [Prod.mk.injEq] at h2; obtain ⟨_, rfl⟩ := h2; simp
  | frzC s off =>
    simp only [applyG] at h
    split at h
    · obtain ⟨q, _, h2⟩ := Option.map_eq_some_iff.1 h; simp only [Prod.mk.injEq] at h2; obtain ⟨_, rfl⟩ := h2; rfl
    · simp at h
  | nilC s off t sh =>
    simp only [applyG] at h
    split at h
    · obtain ⟨q, _, h2⟩ := Option.map_eq_some_iff.1 h; simp only [Prod.mk.injEq] at h2; obtain ⟨_, rfl⟩ := h2; rfl
    · simp at h
  | mapD s dk sh =>
    simp only [applyG] at h
    split at h
    · split at h
      · simp only [Option.some.injEq, Prod.mk.injEq] at h; obtain ⟨_, rfl⟩ := h; rfl
      · simp at h
    · simp at h
  | mapR s dk t sh =>
    simp only [applyG] at h
    split at h
    · split at h
      · simp only [Option.some.injEq, Prod.mk.injEq] at h; obtain ⟨_, rfl⟩ := h; rfl
      · simp at h
    · simp at h
  | rowW s t sh =>
    simp only [applyG] at h
    split at h
    · split at h
      · split at h
        · simp only [Option.some.injEq, Prod.mk.injEq] at h; obtain ⟨_, rfl⟩ := h; rfl
        · simp at h
      · simp at h
    · simp at h
  | row s sh => obtain ⟨q, _, h2⟩ := Option.map_eq_some_iff.1 h; simp only [Prod.mk.injEq] at h2; obtain ⟨_, rfl⟩ := h2; simp
theorem applyGs_length : ∀ {gs : List Gh} {st st' : St} {c : Bool}, applyGs gs st = some (c, st') → st'.tm.length = st.tm.length
  | [], st, st', c, h => by simp only [applyGs, Option.some.injEq, Prod.mk.injEq] at h; obtain ⟨_, rfl⟩ := h; rfl
  | g :: gs, st, st', c, h => by
    simp only [applyGs] at h
    split at h
    · rename_i c1 st1 h1
      split at h
      · rename_i c2 st2 h2
        simp only [Option.some.injEq, Prod.mk.injEq] at h
        obtain ⟨_, rfl⟩ := h
        rw [applyGs_length h2, applyG_length h1]
      · simp at h
    · simp at h
theorem forgetSt_length (l : LK) (st : St) : (forgetSt l st).tm.length = st.tm.length := by cases l <;> simp [forgetSt, mkF_length]
theorem preSt_length {l : LK} {st st' : St} {c : Bool} (h : preSt l st = some (c, st')) : st'.tm.length = st.tm.length := by
  unfold preSt at h
  split at h
  · exact applyGs_length h
  · simp only [Option.some.injEq, Prod.mk.injEq] at h
    obtain ⟨_, rfl⟩ := h
    exact forgetSt_length _ _
theorem region_run {df : DrawF} {l : LK} {ops : Array Oper} {draw : Bool} {st st' : St} {e : Ex}
    {lq : LK} (h : (match preSt l st with | some (c, st1) => bif c then postC lq (if draw then df ops st1 else runIdx Γ cf ops (List.range ops.size) st1) else none | none => none) = some (e, st')) :
    ∃ st1, preSt l st = some (true, st1) ∧ postC lq (if draw then df ops st1 else runIdx Γ cf ops (List.range ops.size) st1) = some (e, st') := by
  split at h
  · rename_i c st1 h1
    cases c with
    | false => simp at h
    | true => exact ⟨st1, h1, h⟩
  · simp at h
theorem postSt_length {l : LK} {st st' : St} {c : Bool} (h : postSt l st = some (c, st')) : st'.tm.length = st.tm.length := by
  unfold postSt at h
  split at h
  · exact applyGs_length h
  · simp only [Option.some.injEq, Prod.mk.injEq] at h
    obtain ⟨_, rfl⟩ := h
    rfl
theorem postC_run {l : LK} {r : Option (Ex × St)} {e : Ex} {st' : St} (h : postC l r = some (e, st')) : (∃ st2, r = some (.normal, st2) ∧ e = .normal ∧ postSt l st2 = some (true, st')) ∨ (e ≠ .normal ∧ r = some (e, st')) := by
  unfold postC at h
  split at h
  · rename_i st2
    split at h
    · rename_i c st3 h3
      cases c with
      | false => cases h
      | true =>
        simp only [cond_true, Option.some.injEq, Prod.mk.injEq] at h
        obtain ⟨rfl, rfl⟩ := h
        exact .inl ⟨st2, rfl, rfl, h3⟩
    · cases h
  · rename_i hn
    exact .inr ⟨fun e0 => by subst e0; exact hn _ h, h⟩
theorem rfEnd_length {m : Nat} {tm : List AV} {H : List Ob} {e : Ex} {st' : St} (h : rfEnd m tm H = some (e, st')) : st'.tm.length = tm.length ∧ st'.tm = tm := by
  unfold rfEnd at h
  split at h <;> first | (simp only [Option.some.injEq, Prod.mk.injEq] at h; obtain ⟨_, rfl⟩ := h; exact ⟨rfl, rfl⟩) | simp at h
theorem runC_length (hdf : DrawLen df) : ∀ (c : Code) {st st' : St} {e : Ex}, runC Γ cf df lp c st = some (e, st') → st'.tm.length = st.tm.length
  | .skip, st, st', e, h => by simp only [runC, Option.some.injEq, Prod.mk.injEq] at h; obtain ⟨_, rfl⟩ := h; rfl
  | .region _ ops draw, st, st', e, h => by
    simp only [runC] at h
    obtain ⟨st1, h1, h⟩ := region_run h
    have key : ∀ {e2 : Ex} {st2 : St}, (if draw then df ops st1 else runIdx Γ cf ops (List.range ops.size) st1) = some (e2, st2) → st2.tm.length = st.tm.length := fun {e2 st2} h => by
      split at h
      · rw [hdf _ _ _ _ h, preSt_length h1]
      · rw [runIdx_length _ h, preSt_length h1]
    rcases postC_run h with ⟨st2, h2, _, h3⟩ | ⟨_, h2⟩
    · rw [postSt_length h3, key h2]
    · exact key h2
  | .seq a b, st, st', e, h => by
    simp only [runC] at h
    split at h
    · rename_i st1 h1; rw [runC_length hdf b h, runC_length hdf a h1]
    · exact runC_length hdf a h
  | .cond c a b, st, st', e, h => by
    simp only [runC] at h
    split at h
    · rename_i t ht
      cases t with
      | true => exact runC_length hdf a h
      | false => exact runC_length hdf b h
    · simp at h
  | .block id (.loop body), st, st', e, h => by
    simp only [runC] at h
    split at h
    · obtain ⟨e0, h0⟩ := inBlk_length h
      exact iterN_length (fun st e st' => runC_length hdf body) _ h0
    · simp at h
    · simp at h
    · split at h
      · obtain ⟨e0, h0⟩ := inBlk_length h
        simp only [Option.some.injEq, Prod.mk.injEq] at h0
        obtain ⟨_, rfl⟩ := h0
        simp [mkF_length]
      · simp at h
  | .block id .skip, st, st', e, h => by simp only [runC] at h; obtain ⟨e0, h0⟩ := inBlk_length h; simp only [Option.some.injEq, Prod.mk.injEq] at h0; obtain ⟨_, rfl⟩ := h0; rfl
  | .block id (.region i ops d), st, st', e, h => by rw [runC] at h; obtain ⟨e0, h0⟩ := inBlk_length h; exact runC_length hdf (.region i ops d) h0; all_goals simp
  | .block id (.seq a b), st, st', e, h => by rw [runC] at h; obtain ⟨e0, h0⟩ := inBlk_length h; exact runC_length hdf (.seq a b) h0; all_goals simp
  | .block id (.cond c a b), st, st', e, h => by rw [runC] at h; obtain ⟨e0, h0⟩ := inBlk_length h; exact runC_length hdf (.cond c a b) h0; all_goals simp
  | .block id (.block i c), st, st', e, h => by rw [runC] at h; obtain ⟨e0, h0⟩ := inBlk_length h; exact runC_length hdf (.block i c) h0; all_goals simp
  | .block id (.exit i), st, st', e, h => by rw [runC] at h; obtain ⟨e0, h0⟩ := inBlk_length h; exact runC_length hdf (.exit i) h0; all_goals simp
  | .block id .ret, st, st', e, h => by rw [runC] at h; obtain ⟨e0, h0⟩ := inBlk_length h; exact runC_length hdf .ret h0; all_goals simp
  | .block id (.rangeFunc f p a b), st, st', e, h => by rw [runC] at h; obtain ⟨e0, h0⟩ := inBlk_length h; exact runC_length hdf (.rangeFunc f p a b) h0; all_goals simp
  | .block id (.scope c), st, st', e, h => by rw [runC] at h; obtain ⟨e0, h0⟩ := inBlk_length h; exact runC_length hdf (.scope c) h0; all_goals simp
  | .block id (.label l), st, st', e, h => by rw [runC] at h; obtain ⟨e0, h0⟩ := inBlk_length h; exact runC_length hdf (.label l) h0; all_goals simp
  | .block id (.goto l), st, st', e, h => by rw [runC] at h; obtain ⟨e0, h0⟩ := inBlk_length h; exact runC_length hdf (.goto l) h0; all_goals simp
  | .block id (.refuse l), st, st', e, h => by rw [runC] at h; obtain ⟨e0, h0⟩ := inBlk_length h; exact runC_length hdf (.refuse l) h0; all_goals simp
  | .exit id, st, st', e, h => by simp only [runC, Option.some.injEq, Prod.mk.injEq] at h; obtain ⟨_, rfl⟩ := h; rfl
  | .ret, st, st', e, h => by simp only [runC, Option.some.injEq, Prod.mk.injEq] at h; obtain ⟨_, rfl⟩ := h; rfl
  | .loop _, st, st', e, h => by simp [runC] at h
  | .rangeFunc g ps asg body, st, st', e, h => by
    simp only [runC] at h
    cases hr : inRnd lp with
    | true => simp [hr] at h
    | false =>
      simp only [hr, cond_false] at h
      split at h
      · rename_i gf cs hg
        cases hi : Γ.inl gf with
        | false => simp [hi] at h
        | true =>
          simp only [hi, cond_true] at h
          split at h
          · exact (rfEnd_length h).1
          · simp at h
      · simp at h
  | .scope _, st, st', e, h => by simp [runC] at h
  | .label _, st, st', e, h => by simp [runC] at h
  | .goto _, st, st', e, h => by simp [runC] at h
  | .refuse _, st, st', e, h => by simp [runC] at h
end
open Go.RowKit
section
variable {D : Dx} {Γ : Cx} {Inv : World → Prop} {cf : CallF} {df : DrawF} {lp : Nat → LK} {w0 : World} {r : Option Nat} {n : Nat}
theorem cutBack_mem {ρ : Nm} {A : Nat → Prop} {w : World} {keep : List Nat} {m : Nat} {st : St} {vs : List AV} {H : List Ob} (h : Mem w0 ρ A w st.hp) (hc : cutBack keep m st = some (vs, H)) :
    Mem w0 ρ A w H ∧ (∀ id, Live st.hp id → id < m → Live H id) := by
  unfold cutBack at hc
  split at hc
  · simp only [Option.some.injEq, Prod.mk.injEq] at hc
    obtain ⟨_, rfl⟩ := hc
    exact ⟨h, fun _ h _ => h⟩
  · split at hc
    · rename_i hcond
      simp only [Bool.and_eq_true] at hcond
      simp only [Option.some.injEq, Prod.mk.injEq] at hc
      obtain ⟨_, rfl⟩ := hc
      exact ⟨h.take hcond.1.2, fun id h1 h2 => live_take.2 ⟨h1, h2⟩⟩
    · simp at hc
theorem cutBack_len {keep : List Nat} {m : Nat} {st : St} {vs : List AV} {H : List Ob} (hc : cutBack keep m st = some (vs, H)) : H.length = m := by
  unfold cutBack at hc
  split at hc
  · rename_i he
    simp only [Nat.beq_eq] at he
    simp only [Option.some.injEq, Prod.mk.injEq] at hc
    obtain ⟨_, rfl⟩ := hc
    exact he
  · split at hc
    · rename_i hcond
      simp only [Bool.and_eq_true, Nat.ble_eq] at hcond
      simp only [Option.some.injEq, Prod.mk.injEq] at hc
      obtain ⟨_, rfl⟩ := hc
      simp; omega
    · simp at hc
theorem live_lt {H : List Ob} {id : Nat} (h : Live H id) : id < H.length := by
  obtain ⟨o, ho, _⟩ := h
  exact (List.getElem?_eq_some_iff.1 ho).1
def csz : Code → Nat
  | .seq a b => csz a + csz b + 1
  | .cond _ a b => csz a + csz b + 1
  | .block _ c => csz c + 1
  | .loop c => csz c + 1
  | _ => 1
theorem csz_pos (c : Code) : 0 < csz c := by cases c <;> simp [csz]
theorem runC_block {id : Nat} {c : Code} (h : ∀ b, c ≠ .loop b) (st : St) : runC Γ cf df lp (.block id c) st = inBlk id (runC Γ cf df lp c st) := by
  cases c <;> first | rfl | exact absurd rfl (h _)
theorem frzA_keep {H H' : List Ob} {v v' : AV} {c : Bool} (h : frzA H v = some (c, v', H')) : KeepD H H' ∧ H.length ≤ H'.length := by
  unfold frzA at h
  split at h
  · split at h
    · rename_i t sh len el ho
      split at h
      · simp only [Option.some.injEq, Prod.mk.injEq] at h
        obtain ⟨_, _, rfl⟩ := h
        exact ⟨.set ho (fun e => by cases e), by simp⟩
      · simp at h
    · simp at h
  · simp at h
theorem nilA'_keep {H H' : List Ob} {t : TypeId} {sh : List Sh} {v v' : AV} (h : nilA' H t sh v = some (v', H')) : KeepD H H' ∧ H.length ≤ H'.length := by
  unfold nilA' at h
  split at h
  · simp only [Option.some.injEq, Prod.mk.injEq] at h
    obtain ⟨_, rfl⟩ := h
    exact ⟨.append _ _, by simp⟩
  · simp at h
theorem cellAt_some {st : St} {slot off pid i : Nat} {cs : List AV} {t : TypeId} {v : AV} (h : cellAt st slot off = some (pid, i, cs, t, v)) : ∃ o, getT st.tm slot = .ptr pid o ∧ st.hp[pid]? = some (.cells cs t) ∧ cs[i]? = some v := by
  unfold cellAt at h
  split at h
  · rename_i pid' o hs
    split at h
    · rename_i cs' t' ho
      obtain ⟨v', hv, h2⟩ := Option.map_eq_some_iff.1 h
      simp only [Prod.mk.injEq] at h2
      obtain ⟨rfl, rfl, rfl, rfl, rfl⟩ := h2
      exact ⟨o, hs, ho, hv⟩
    · simp at h
  · simp at h
theorem frzA_get {H H' : List Ob} {v v' : AV} {c : Bool} (h : frzA H v = some (c, v', H')) {pid : Nat} {cs : List AV} {t : TypeId} (ho : H[pid]? = some (.cells cs t)) : H'[pid]? = some (.cells cs t) := by
  unfold frzA at h
  split at h
  · split at h
    · rename_i t' sh len el ho'
      split at h
      · simp only [Option.some.injEq, Prod.mk.injEq] at h
        obtain ⟨_, _, rfl⟩ := h
        rw [get_set_ne ho' _ (fun e => by rw [e, ho'] at ho; cases ho)]
        exact ho
      · simp at h
    · simp at h
  · simp at h
theorem nilA'_get {H H' : List Ob} {t' : TypeId} {sh : List Sh} {v v' : AV} (h : nilA' H t' sh v = some (v', H')) {pid : Nat} {cs : List AV} {t : TypeId} (ho : H[pid]? = some (.cells cs t)) : H'[pid]? = some (.cells cs t) := by
  unfold nilA' at h
  split at h
  · simp only [Option.some.injEq, Prod.mk.injEq] at h
    obtain ⟨_, rfl⟩ := h
    rw [List.getElem?_append_left (List.getElem?_eq_some_iff.1 ho).1]
    exact ho
  · simp at h
theorem applyG_keep {g : Gh} {st st' : St} {c : Bool} (h : applyG st g = some (c, st')) : KeepD st.hp st'.hp ∧ st.hp.length ≤ st'.hp.length := by
  cases g with
  | frz s =>
    obtain ⟨⟨c', v', H'⟩, hq, h2⟩ := Option.map_eq_some_iff.1 h
    simp only [Prod.mk.injEq] at h2
    obtain ⟨_, rfl⟩ := h2
    exact frzA_keep hq
  | nil s t sh =>
    obtain ⟨⟨v', H'⟩, hq, h2⟩ := Option.map_eq_some_iff.1 h
    simp only [Prod.mk.injEq] at h2
    obtain ⟨_, rfl⟩ := h2
    exact nilA'_keep hq
  | frzC s off =>
    simp only [applyG] at h
    split at h
    · rename_i pid i cs ty v hc
      obtain ⟨o, _, ho, _⟩ := cellAt_some hc
      obtain ⟨⟨c', v', H'⟩, hq, h2⟩ := Option.map_eq_some_iff.1 h
      simp only [Prod.mk.injEq] at h2
      obtain ⟨_, rfl⟩ := h2
      obtain ⟨k1, k2⟩ := frzA_keep hq
      exact ⟨k1.trans (.set (frzA_get hq ho) (fun e => by cases e)), by simpa using k2⟩
    · simp at h
  | nilC s off t sh =>
    simp only [applyG] at h
    split at h
    · rename_i pid i cs ty v hc
      obtain ⟨o, _, ho, _⟩ := cellAt_some hc
      obtain ⟨⟨v', H'⟩, hq, h2⟩ := Option.map_eq_some_iff.1 h
      simp only [Prod.mk.injEq] at h2
      obtain ⟨_, rfl⟩ := h2
      obtain ⟨k1, k2⟩ := nilA'_keep hq
      exact ⟨k1.trans (.set (nilA'_get hq ho) (fun e => by cases e)), by simpa using k2⟩
    · simp at h
  | mapD s dk sh =>
    simp only [applyG] at h
    split at h
    · split at h
      · rename_i ho
        simp only [Option.some.injEq, Prod.mk.injEq] at h
        obtain ⟨_, rfl⟩ := h
        exact ⟨.set ho (fun e => by cases e), by simp⟩
      · simp at h
    · simp at h
  | mapR s dk t sh =>
    simp only [applyG] at h
    split at h
    · split at h
      · rename_i ho
        simp only [Option.some.injEq, Prod.mk.injEq] at h
        obtain ⟨_, rfl⟩ := h
        exact ⟨(KeepD.set ho (fun e => by cases e)).trans (.append _ _), by simp⟩
      · simp at h
    · simp at h
  | rowW s t' sh =>
    simp only [applyG] at h
    split at h
    · split at h
      · rename_i ho
        split at h
        · simp only [Option.some.injEq, Prod.mk.injEq] at h
          obtain ⟨_, rfl⟩ := h
          exact ⟨(KeepD.set ho (fun e => by cases e)).trans (.append _ _), by simp⟩
        · simp at h
      · simp at h
    · simp at h
  | row s sh =>
    obtain ⟨q, _, h2⟩ := Option.map_eq_some_iff.1 h
    simp only [Prod.mk.injEq] at h2
    obtain ⟨_, rfl⟩ := h2
    exact ⟨.refl _, Nat.le_refl _⟩
theorem applyGs_keep : ∀ {gs : List Gh} {st st' : St} {c : Bool}, applyGs gs st = some (c, st') → KeepD st.hp st'.hp ∧ st.hp.length ≤ st'.hp.length
  | [], st, st', c, h => by simp only [applyGs, Option.some.injEq, Prod.mk.injEq] at h; obtain ⟨_, rfl⟩ := h; exact ⟨.refl _, Nat.le_refl _⟩
  | g :: gs, st, st', c, h => by
    simp only [applyGs] at h
    split at h
    · rename_i c1 st1 h1
      split at h
      · rename_i c2 st2 h2
        simp only [Option.some.injEq, Prod.mk.injEq] at h
        obtain ⟨_, rfl⟩ := h
        have k1 := applyG_keep h1
        have k2 := applyGs_keep h2
        exact ⟨k1.1.trans k2.1, Nat.le_trans k1.2 k2.2⟩
      · simp at h
    · simp at h
theorem preSt_keep {l : LK} {st st' : St} {c : Bool} (h : preSt l st = some (c, st')) : KeepD st.hp st'.hp ∧ st.hp.length ≤ st'.hp.length := by
  unfold preSt at h
  split at h
  · exact applyGs_keep h
  · simp only [Option.some.injEq, Prod.mk.injEq] at h
    obtain ⟨_, rfl⟩ := h
    have : (forgetSt l st).hp = st.hp := by cases l <;> rfl
    rw [this]
    exact ⟨.refl _, Nat.le_refl _⟩
theorem postSt_keep {l : LK} {st st' : St} {c : Bool} (h : postSt l st = some (c, st')) : KeepD st.hp st'.hp ∧ st.hp.length ≤ st'.hp.length := by
  unfold postSt at h
  split at h
  · exact applyGs_keep h
  · simp only [Option.some.injEq, Prod.mk.injEq] at h
    obtain ⟨_, rfl⟩ := h
    exact ⟨.refl _, Nat.le_refl _⟩
theorem frzA_sound {ρ : Nm} {A : Nat → Prop} {w : World} {H H' : List Ob} (hm : Mem w0 ρ A w H) {v v' : AV} (h : frzA H v = some (true, v', H')) :
    ∃ A', Mem w0 ρ A' w H' ∧ Ext (Live H) ρ A w (Live H') ρ A' w ∧ ∀ {n : Nat → Prop} {u : Value}, Rv ρ A w n v u → Rv ρ A' w (Live H') v' u := by
  unfold frzA at h
  split at h
  · rename_i id key ver
    split at h
    · rename_i t sh len el ho
      split at h
      · rename_i hk
        obtain rfl := isK0_eq hk
        simp only [Option.some.injEq, Prod.mk.injEq, Nat.beq_eq] at h
        obtain ⟨rfl, rfl, rfl⟩ := h
        obtain ⟨m1, x1, r1⟩ := hm.freeze ho
        refine ⟨_, m1, x1, fun hr => ?_⟩
        cases hr with
        | own hn hle hone hv =>
          rw [hv (hm.own ho).1]
          exact r1.any
      · simp at h
    · simp at h
  · simp at h
theorem nilA'_sound {ρ : Nm} {A : Nat → Prop} {w : World} {H H' : List Ob} (hm : Mem w0 ρ A w H) {t : TypeId} {sh : List Sh} {v v' : AV} (h : nilA' H t sh v = some (v', H')) :
    ∃ ρ', Mem w0 ρ' A w H' ∧ Ext (Live H) ρ A w (Live H') ρ' A w ∧ ∀ {n : Nat → Prop} {u : Value}, Rv ρ A w n v u → Rv ρ' A w (Live H') v' u := by
  unfold nilA' at h
  split at h
  · simp only [Option.some.injEq, Prod.mk.injEq] at h
    obtain ⟨rfl, rfl⟩ := h
    have hnew : (H ++ [.own t sh 0 zeroEl])[H.length]? = some (.own t sh 0 zeroEl) := by simp
    have hfr : ¬ Live H H.length := by rintro ⟨o, ho, _⟩; simp at ho
    obtain ⟨m1, x1⟩ := hm.row (id := H.length) (t := t) (sh := sh) (len := 0) (el := zeroEl) (v := .slice none 0 0) (w' := w) hnew (fun i hne => by
        rcases Nat.lt_or_ge i H.length with h' | h'
        · exact List.getElem?_append_left h'
        · rw [List.getElem?_eq_none h', List.getElem?_eq_none (by simp; omega)]) (fun o ho => by simp at ho) (fun hl => absurd hl hfr) hm.bel (Nat.le_refl _) (fun _ _ _ => rfl) (fun b hb => by simp [Value.ownBlock] at hb)
      ⟨fun b hb => by simp [Value.ownBlock] at hb, [], World.ownsRow_nil w _ t sh.length, fun i hi => by omega⟩
    refine ⟨_, m1, x1, fun hr => ?_⟩
    cases hr
    refine .own ⟨_, hnew, rfl⟩ ?_ rfl fun _ => ?_
    · rw [Nm.putV_at]; exact Nat.le_refl _
    · rw [Nm.putV_at]
  · simp at h
theorem Rvs.put {ρ : Nm} {A : Nat → Prop} {w : World} {n : Nat → Prop} {cs : List AV} {vs : List Value} (h : Rvs ρ A w n cs vs) {i : Nat} {c : AV} (hc : ∀ u, vs[i]? = some u → Rv ρ A w n c u) : Rvs ρ A w n (cs.set i c) vs :=
  ⟨by simp [h.1], fun j h1 h2 => by
    simp only [List.length_set] at h1
    rw [List.getElem_set]
    split
    · rename_i e; subst e; exact hc _ (List.getElem?_eq_getElem h2)
    · exact h.2 j h1 h2⟩
theorem getT_rv {ρ : Nm} {A : Nat → Prop} {w : World} {n : Nat → Prop} {tm : List AV} {vs : List Value} (h : Rvs ρ A w n tm vs) {i : Nat} {u : Value} (hu : vs[i]? = some u) : Rv ρ A w n (getT tm i) u := by
  obtain ⟨hi, rfl⟩ := List.getElem?_eq_some_iff.1 hu
  have hi' : i < tm.length := by rw [h.1]; exact hi
  simp only [getT, List.getElem?_eq_getElem hi', Option.getD_some]
  exact h.2 i hi' hi
theorem mapNew {ρ : Nm} {A : Nat → Prop} {w : World} {H : List Ob} (hm : Mem w0 ρ A w H) {id : Nat} (ho : H[id]? = some (.map [])) {mf : MF} (hmf : MFN ρ (Live H) mf) (hnone : ∀ key, mf.at key = none) (dk : Dk) :
    Mem w0 ρ A w (H.set id (.mapF dk 0 mf)) ∧ Ext (Live H) ρ A w (Live (H.set id (.mapF dk 0 mf))) ρ A w := by
  obtain ⟨h1, h2, x, h3, ents, clock, rfl, h4, h5⟩ := (hm.hp.obj id _ ho).solid rfl
  have he : ents = [] := by have := h4.1; simpa using this.symm
  subst he
  exact hm.upd ho rfl (o' := .mapF dk 0 mf) rfl (w' := w) (x' := .map #[] clock) ⟨rfl, rfl, rfl, rfl, h3, fun _ _ => rfl⟩
    ⟨[], clock, rfl, rfl, hmf, fun e he => by simp at he, fun key kv _ => ⟨none, rfl, by rw [hnone]; trivial⟩⟩
theorem rowsNew {ρ : Nm} {A : Nat → Prop} {w : World} {H : List Ob} (hm : Mem w0 ρ A w H) (t : TypeId) (sh : List Sh) :
    ∃ ρ' : Nm, Mem w0 ρ' A w (H ++ [.rows t sh fun _ => (0, zeroEl)]) ∧ Ext (Live H) ρ A w (Live (H ++ [.rows t sh fun _ => (0, zeroEl)])) ρ' A w ∧ ∀ key, ρ'.v H.length key = (0, .slice none 0 0) := by
  have hat : ∀ key, ({ ρ with v := fun i k => if i = H.length then (0, Value.slice none 0 0) else ρ.v i k } : Nm).v H.length key = (0, .slice none 0 0) := fun key => if_pos rfl
  have hfr : ¬ Live H H.length := by rintro ⟨o, ho, _⟩; simp at ho
  obtain ⟨m1, x1⟩ := hm.turn (id := H.length) (o' := .rows t sh fun _ => (0, zeroEl)) (H' := H ++ [.rows t sh fun _ => (0, zeroEl)]) (ρ' := { ρ with v := fun i k => if i = H.length then (0, Value.slice none 0 0) else ρ.v i k }) (w' := w) (by simp) (fun i hne => by
      rcases Nat.lt_or_ge i H.length with h' | h'
      · exact List.getElem?_append_left h'
      · rw [List.getElem?_eq_none h', List.getElem?_eq_none (by simp; omega)]) rfl (fun i hi => ⟨rfl, fun k => if_neg hi⟩) rfl (fun hl => absurd hl hfr) hm.bel (Nat.le_refl _) (fun _ _ _ => rfl) (fun b hb => by
      obtain ⟨key, hk⟩ := hb
      rw [hat] at hk
      simp [Value.ownBlock] at hk) (fun _ => ⟨fun key => by
      rw [hat]
      exact ⟨rfl, ⟨fun b hb => by simp [Value.ownBlock] at hb, [], World.ownsRow_nil w _ t sh.length, fun i hi => by simp at hi⟩, fun _ => rfl⟩, fun k1 k2 b e1 _ => by rw [hat] at e1; simp [Value.ownBlock] at e1⟩)
  exact ⟨_, m1, x1, hat⟩
theorem wrapNew {ρ : Nm} {A : Nat → Prop} {w : World} {H : List Ob} (hm : Mem w0 ρ A w H) {id : Nat} {t : TypeId} {len : Nat} (ho : H[id]? = some (.ownC t 1 len (List.replicate len .nsl))) {rid : Nat} (hmf : MFN ρ (Live H) (.own rid fun _ => none)) (hv : ∀ key, ρ.v rid key = (0, .slice none 0 0)) :
    ∃ ρ' : Nm, Mem w0 ρ' A w (H.set id (.ownW t len rid fun _ => 0)) ∧ Ext (Live H) ρ A w (Live (H.set id (.ownW t len rid fun _ => 0))) ρ' A w := by
  obtain ⟨h1, h2, xs, h3, h4⟩ := hm.ownC ho
  have hl := hmf.1
  refine ⟨_, hm.rowW (v := (ρ.v id k0).2) (get_set_at ho) (fun i hi => get_set_ne ho i hi) (fun _ => ⟨Nat.le_of_eq h1, fun _ => rfl⟩) hm.bel (Nat.le_refl _) (fun _ _ _ => rfl) (fun b hb => .inl ⟨_, ho, hb⟩) h2 h3 hmf fun hext => ?_⟩
  refine ⟨by simpa [wCells] using h4.1, fun i hc hv' => ?_⟩
  have hi : i < len := by simpa [wCells] using hc
  obtain ⟨u, hu, hr⟩ := h4.get (show (List.replicate len AV.nsl)[i]? = some .nsl by rw [List.getElem?_replicate, if_pos hi])
  rw [List.getElem?_eq_getElem hv', Option.some.injEq] at hu
  subst hu
  have hg : (wCells len rid fun _ => 0)[i] = .own rid (.int (i : Int)) 0 := by
    have := wCells_get (rid := rid) (vf := fun _ => 0) hi
    rw [List.getElem?_eq_getElem hc, Option.some.injEq] at this
    exact this
  have hx : ∀ {u : Value}, Rv ρ A w (Live H) .nsl u → u = .slice none 0 0 := fun h => by cases h; rfl
  rw [hg, hx hr]
  refine .own (hext.ids _ hl) (Nat.zero_le _) rfl fun e => ?_
  have hk := (hext.nam _ hl).2 (.int (i : Int))
  rw [hv] at hk
  have := hk.2 e
  rw [this]
theorem applyG_sound {ρ : Nm} {A : Nat → Prop} {w : World} {st st' : St} {a : Act} (hr : Rel D w0 ρ A st a w) {g : Gh} (h : applyG st g = some (true, st')) :
    ∃ ρ' A', Rel D w0 ρ' A' st' a w ∧ Ext (Live st.hp) ρ A w (Live st'.hp) ρ' A' w := by
  have hkp := (applyG_keep h).1
  have cell : ∀ {ρ1 : Nm} {A1 : Nat → Prop} {H1 : List Ob} {pid i : Nat} {cs : List AV} {ty : TypeId} {v v' : AV}, Mem w0 ρ1 A1 w H1 → Ext (Live st.hp) ρ A w (Live H1) ρ1 A1 w → st.hp[pid]? = some (.cells cs ty) → H1[pid]? = some (.cells cs ty) → cs[i]? = some v →
      (∀ {n : Nat → Prop} {u : Value}, Rv ρ A w n v u → Rv ρ1 A1 w (Live H1) v' u) → Mem w0 ρ1 A1 w (H1.set pid (.cells (cs.set i v') ty)) ∧ Ext (Live st.hp) ρ A w (Live (H1.set pid (.cells (cs.set i v') ty))) ρ1 A1 w := by
    intro ρ1 A1 H1 pid i cs ty v v' hm1 hx ho ho1 hc hv
    obtain ⟨_, _, us, k3, k4⟩ := hr.mem.hp.cells ho
    have hne := (hx.nam pid ⟨_, ho, rfl⟩).1
    have hput : PutO w w (ρ1 pid) (.cells us.toArray ty (0, 0)) := ⟨rfl, rfl, rfl, rfl, by rw [hne]; exact k3, fun _ _ => rfl⟩
    have hob : ObjR ρ1 A1 w (Live H1) (.cells (cs.set i v') ty) (.cells us.toArray ty (0, 0)) := by
      refine ⟨us, rfl, (hx.rvs k4).put fun u hu => ?_⟩
      obtain ⟨u', hu', hr'⟩ := k4.get hc
      rw [hu'] at hu
      obtain rfl := Option.some.inj hu
      exact hv hr'
    obtain ⟨m1, x1⟩ := hm1.upd ho1 rfl (o' := .cells (cs.set i v') ty) rfl hput hob
    exact ⟨m1, hx.trans x1⟩
  cases g with
  | frz s =>
    obtain ⟨⟨c', v', H'⟩, hq, h2⟩ := Option.map_eq_some_iff.1 h
    simp only [Prod.mk.injEq] at h2
    obtain ⟨rfl, rfl⟩ := h2
    obtain ⟨A', m1, x1, r1⟩ := frzA_sound hr.mem hq
    exact ⟨ρ, A', ⟨(x1.rvs hr.tm).put fun u hu => r1 (getT_rv hr.tm hu), hr.df.keep hkp x1.nam, m1⟩, x1⟩
  | nil s t sh =>
    obtain ⟨⟨v', H'⟩, hq, h2⟩ := Option.map_eq_some_iff.1 h
    simp only [Prod.mk.injEq] at h2
    obtain ⟨_, rfl⟩ := h2
    obtain ⟨ρ', m1, x1, r1⟩ := nilA'_sound hr.mem hq
    exact ⟨ρ', A, ⟨(x1.rvs hr.tm).put fun u hu => r1 (getT_rv hr.tm hu), hr.df.keep hkp x1.nam, m1⟩, x1⟩
  | frzC s off =>
    simp only [applyG] at h
    split at h
    · rename_i pid i cs ty v hc
      obtain ⟨o, _, ho, hcv⟩ := cellAt_some hc
      obtain ⟨⟨c', v', H'⟩, hq, h2⟩ := Option.map_eq_some_iff.1 h
      simp only [Prod.mk.injEq] at h2
      obtain ⟨rfl, rfl⟩ := h2
      obtain ⟨A', m1, x1, r1⟩ := frzA_sound hr.mem hq
      obtain ⟨m2, x2⟩ := cell m1 x1 ho (frzA_get hq ho) hcv r1
      exact ⟨ρ, A', ⟨x2.rvs hr.tm, hr.df.keep hkp x2.nam, m2⟩, x2⟩
    · simp at h
  | nilC s off t sh =>
    simp only [applyG] at h
    split at h
    · rename_i pid i cs ty v hc
      obtain ⟨o, _, ho, hcv⟩ := cellAt_some hc
      obtain ⟨⟨v', H'⟩, hq, h2⟩ := Option.map_eq_some_iff.1 h
      simp only [Prod.mk.injEq] at h2
      obtain ⟨_, rfl⟩ := h2
      obtain ⟨ρ', m1, x1, r1⟩ := nilA'_sound hr.mem hq
      obtain ⟨m2, x2⟩ := cell m1 x1 ho (nilA'_get hq ho) hcv r1
      exact ⟨ρ', A, ⟨x2.rvs hr.tm, hr.df.keep hkp x2.nam, m2⟩, x2⟩
    · simp at h
  | mapD s dk sh =>
    simp only [applyG] at h
    split at h
    · rename_i id hs
      split at h
      · rename_i ho
        simp only [Option.some.injEq, Prod.mk.injEq, true_and] at h
        subst h
        obtain ⟨m1, x1⟩ := mapNew (mf := .dat sh fun _ => none) hr.mem ho trivial (fun _ => rfl) dk
        exact ⟨ρ, A, ⟨x1.rvs hr.tm, hr.df.keep hkp x1.nam, m1⟩, x1⟩
      · simp at h
    · simp at h
  | mapR s dk t sh =>
    simp only [applyG] at h
    split at h
    · rename_i id hs
      split at h
      · rename_i ho
        simp only [Option.some.injEq, Prod.mk.injEq, true_and] at h
        subst h
        obtain ⟨ρ', m1, x1, hv⟩ := rowsNew hr.mem t sh
        have hlt : id < st.hp.length := (List.getElem?_eq_some_iff.1 ho).1
        have ho' : (st.hp ++ [Ob.rows t sh fun _ => (0, zeroEl)])[id]? = some (.map []) := by rw [List.getElem?_append_left hlt]; exact ho
        obtain ⟨m2, x2⟩ := mapNew (mf := .own st.hp.length fun _ => none) m1 ho' ⟨⟨.rows t sh fun _ => (0, zeroEl), by simp, rfl⟩, fun key _ => by rw [hv]⟩ (fun _ => rfl) dk
        rw [List.set_append_left _ _ hlt] at m2 x2
        exact ⟨ρ', A, ⟨(x1.trans x2).rvs hr.tm, hr.df.keep hkp (x1.trans x2).nam, m2⟩, x1.trans x2⟩
      · simp at h
    · simp at h
  | rowW s t' sh =>
    simp only [applyG] at h
    split at h
    · rename_i id key ver hs
      split at h
      · rename_i t k len cs ho
        split at h
        · rename_i hk
          simp only [Bool.and_eq_true, Nat.beq_eq] at hk
          obtain ⟨_, rfl⟩ := hk
          simp only [Option.some.injEq, Prod.mk.injEq] at h
          obtain ⟨hn, rfl⟩ := h
          obtain rfl := nslB_eq hn
          obtain ⟨ρ', m1, x1, hv⟩ := rowsNew hr.mem t' sh
          have hlt : id < st.hp.length := (List.getElem?_eq_some_iff.1 ho).1
          have ho' : (st.hp ++ [Ob.rows t' sh fun _ => (0, zeroEl)])[id]? = some (.ownC t 1 len (List.replicate len .nsl)) := by rw [List.getElem?_append_left hlt]; exact ho
          obtain ⟨ρ2, m2, x2⟩ := wrapNew m1 ho' (rid := st.hp.length) ⟨⟨.rows t' sh fun _ => (0, zeroEl), by simp, rfl⟩, fun key _ => by rw [hv]⟩ hv
          rw [List.set_append_left _ _ hlt] at m2 x2
          exact ⟨ρ2, A, ⟨(x1.trans x2).rvs hr.tm, hr.df.keep hkp (x1.trans x2).nam, m2⟩, x1.trans x2⟩
        · simp at h
      · simp at h
    · simp at h
  | row s sh =>
    obtain ⟨q, hq, h2⟩ := Option.map_eq_some_iff.1 h
    simp only [Prod.mk.injEq, true_and] at h2
    subst h2
    exact ⟨ρ, A, ⟨hr.tm.put fun u hu => castRow_rv hq (getT_rv hr.tm hu), hr.df, hr.mem⟩, Ext.refl _ _ _ _⟩
theorem applyGs_sound : ∀ {gs : List Gh} {ρ : Nm} {A : Nat → Prop} {w : World} {st st' : St} {a : Act}, Rel D w0 ρ A st a w → applyGs gs st = some (true, st') →
    ∃ ρ' A', Rel D w0 ρ' A' st' a w ∧ Ext (Live st.hp) ρ A w (Live st'.hp) ρ' A' w
  | [], ρ, A, w, st, st', a, hr, h => by simp only [applyGs, Option.some.injEq, Prod.mk.injEq, true_and] at h; subst h; exact ⟨ρ, A, hr, Ext.refl _ _ _ _⟩
  | g :: gs, ρ, A, w, st, st', a, hr, h => by
    simp only [applyGs] at h
    split at h
    · rename_i c1 st1 h1
      split at h
      · rename_i c2 st2 h2
        simp only [Option.some.injEq, Prod.mk.injEq, Bool.and_eq_true] at h
        obtain ⟨⟨rfl, rfl⟩, rfl⟩ := h
        obtain ⟨ρ1, A1, r1, x1⟩ := applyG_sound hr h1
        obtain ⟨ρ2, A2, r2, x2⟩ := applyGs_sound r1 h2
        exact ⟨ρ2, A2, r2, x1.trans x2⟩
      · simp at h
    · simp at h
theorem preSt_sound {ρ : Nm} {A : Nat → Prop} {w : World} {st st' : St} {a : Act} (hr : Rel D w0 ρ A st a w) {l : LK} (h : preSt l st = some (true, st')) :
    ∃ ρ' A', Rel D w0 ρ' A' st' a w ∧ Ext (Live st.hp) ρ A w (Live st'.hp) ρ' A' w := by
  unfold preSt at h
  split at h
  · exact applyGs_sound hr h
  · simp only [Option.some.injEq, Prod.mk.injEq, true_and] at h
    subst h
    refine ⟨ρ, A, ?_, ?_⟩
    · cases l <;> first | exact hr | exact ⟨mkF_rel hr.tm rfl, hr.df, hr.mem⟩
    · have : (forgetSt l st).hp = st.hp := by cases l <;> rfl
      rw [this]
      exact Ext.refl _ _ _ _
theorem postSt_sound {ρ : Nm} {A : Nat → Prop} {w : World} {st st' : St} {a : Act} (hr : Rel D w0 ρ A st a w) {l : LK} (h : postSt l st = some (true, st')) :
    ∃ ρ' A', Rel D w0 ρ' A' st' a w ∧ Ext (Live st.hp) ρ A w (Live st'.hp) ρ' A' w := by
  unfold postSt at h
  split at h
  · exact applyGs_sound hr h
  · simp only [Option.some.injEq, Prod.mk.injEq, true_and] at h
    subst h
    exact ⟨ρ, A, hr, Ext.refl _ _ _ _⟩
def DrawKeep (df : DrawF) : Prop := ∀ ops st e st', df ops st = some (e, st') → KeepD st.hp st'.hp ∧ st.hp.length ≤ st'.hp.length
theorem iterN_keep {g : St → Option (Ex × St)} {nt : Nat} (hg : ∀ st e st', st.tm.length = nt → g st = some (e, st') → KeepD st.hp st'.hp ∧ st.hp.length ≤ st'.hp.length ∧ st'.tm.length = nt) : ∀ (k : Nat) {st st' : St} {e : Ex}, st.tm.length = nt → iterN g k st = some (e, st') →
    KeepD st.hp st'.hp ∧ st.hp.length ≤ st'.hp.length := by
  intro k
  induction k with
  | zero => intro st st' e _ h; simp [iterN] at h
  | succ k ih =>
    intro st st' e hl h
    simp only [iterN] at h
    split at h
    · rename_i st1 h1
      obtain ⟨a1, a2, a3⟩ := hg _ _ _ hl h1
      obtain ⟨b1, b2⟩ := ih a3 h
      exact ⟨a1.trans b1, Nat.le_trans a2 b2⟩
    · obtain ⟨a1, a2, _⟩ := hg _ _ _ hl h
      exact ⟨a1, a2⟩
theorem rfEnd_keep {m : Nat} {tm : List AV} {H : List Ob} {e : Ex} {st' : St} (h : rfEnd m tm H = some (e, st')) : KeepD H st'.hp ∧ H.length ≤ st'.hp.length := by
  unfold rfEnd at h
  split at h <;> first
    | (rename_i ho; simp only [Option.some.injEq, Prod.mk.injEq] at h; obtain ⟨_, rfl⟩ := h; exact ⟨.set ho (fun e => by cases e), by simp⟩)
    | simp at h
theorem runC_keep (hcf : CallSound Γ.P Inv cf) (hdk : DrawKeep df) (hdl : DrawLen df) {nt : Nat} : ∀ (m : Nat) (c : Code), csz c ≤ m → LoopsOk Γ cf df lp nt c → ∀ (st : St) (e : Ex) (st' : St), st.tm.length = nt → runC Γ cf df lp c st = some (e, st') →
    KeepD st.hp st'.hp ∧ st.hp.length ≤ st'.hp.length := by
  intro m
  induction m with
  | zero => intro c hc; have := csz_pos c; omega
  | succ m ih =>
    intro c hc hlp st e st' hlen h
    cases c with
    | skip => simp only [runC, Option.some.injEq, Prod.mk.injEq] at h; obtain ⟨_, rfl⟩ := h; exact ⟨.refl _, Nat.le_refl _⟩
    | exit id => simp only [runC, Option.some.injEq, Prod.mk.injEq] at h; obtain ⟨_, rfl⟩ := h; exact ⟨.refl _, Nat.le_refl _⟩
    | ret => simp only [runC, Option.some.injEq, Prod.mk.injEq] at h; obtain ⟨_, rfl⟩ := h; exact ⟨.refl _, Nat.le_refl _⟩
    | region id ops draw =>
      simp only [runC] at h
      obtain ⟨st1, h1, h⟩ := region_run h
      obtain ⟨k1, k2⟩ := preSt_keep h1
      have key : ∀ {e2 : Ex} {st2 : St}, (if draw then df ops st1 else runIdx Γ cf ops (List.range ops.size) st1) = some (e2, st2) → KeepD st.hp st2.hp ∧ st.hp.length ≤ st2.hp.length := fun {e2 st2} h => by
        split at h
        · have := hdk _ _ _ _ h
          exact ⟨k1.trans this.1, Nat.le_trans k2 this.2⟩
        · exact ⟨k1.trans (runIdx_keep hcf _ h), Nat.le_trans k2 (runIdx_len hcf _ h)⟩
      rcases postC_run h with ⟨st2, h2, _, h3⟩ | ⟨_, h2⟩
      · obtain ⟨j1, j2⟩ := key h2
        obtain ⟨i1, i2⟩ := postSt_keep h3
        exact ⟨j1.trans i1, Nat.le_trans j2 i2⟩
      · exact key h2
    | seq x y =>
      have hx : LoopsOk Γ cf df lp nt x := fun p hp => hlp p (by simp [loops, hp])
      have hy : LoopsOk Γ cf df lp nt y := fun p hp => hlp p (by simp [loops, hp])
      simp only [csz] at hc
      simp only [runC] at h
      split at h
      · rename_i st1 h1
        obtain ⟨a1, a2⟩ := ih x (by omega) hx st _ _ hlen h1
        obtain ⟨b1, b2⟩ := ih y (by omega) hy st1 _ _ (by rw [runC_length hdl x h1, hlen]) h
        exact ⟨a1.trans b1, Nat.le_trans a2 b2⟩
      · exact ih x (by omega) hx st _ _ hlen h
    | cond o x y =>
      have hx : LoopsOk Γ cf df lp nt x := fun p hp => hlp p (by simp [loops, hp])
      have hy : LoopsOk Γ cf df lp nt y := fun p hp => hlp p (by simp [loops, hp])
      simp only [csz] at hc
      simp only [runC] at h
      split at h
      · rename_i t ht
        cases t with
        | true => exact ih x (by omega) hx st _ _ hlen h
        | false => exact ih y (by omega) hy st _ _ hlen h
      · simp at h
    | block id c =>
      by_cases hl : ∃ b, c = .loop b
      · obtain ⟨body, rfl⟩ := hl
        have hlb : LoopsOk Γ cf df lp nt body := fun p hp => hlp p (by simp [loops, hp])
        simp only [csz] at hc
        simp only [runC] at h
        split at h
        · rename_i k hk
          obtain ⟨e0, he0⟩ := inBlk_length h
          exact iterN_keep (fun st e st' hl h => by
            obtain ⟨a1, a2⟩ := ih body (by omega) hlb st e st' hl h
            exact ⟨a1, a2, by rw [runC_length hdl body h, hl]⟩) k hlen he0
        · simp at h
        · simp at h
        · rename_i keep f hk
          split at h
          · rename_i e0 vs0 H0 hf
            obtain ⟨_, _, μ, hsum⟩ := hlp (id, body) (by simp [loops]) keep f hk
            obtain ⟨e1, he1⟩ := inBlk_length h
            simp only [Option.some.injEq, Prod.mk.injEq] at he1
            obtain ⟨_, rfl⟩ := he1
            have key : ∀ (k : Nat) (vs : List AV) (H : List Ob), μ vs H ≤ k → vs.length = keep.length → f vs H = some (e0, vs0, H0) → KeepD H H0 ∧ H.length ≤ H0.length := by
              intro k
              induction k with
              | zero =>
                intro vs H hm hv hf1
                obtain ⟨e1, st1, vs1, H1, hrun, hcut, hres⟩ := hsum vs H _ hv hf1
                obtain ⟨a1, a2⟩ := ih body (by omega) hlb _ _ _ (by simp [mkF_length]) hrun
                have hl1 := cutBack_len hcut
                cases e1 with
                | normal => obtain ⟨_, hlt⟩ := hres; omega
                | exit i => simp only [Prod.mk.injEq] at hres; obtain ⟨rfl, rfl, rfl⟩ := hres; exact ⟨a1.trans (cutBack_keep hcut), by omega⟩
                | ret => simp only [Prod.mk.injEq] at hres; obtain ⟨rfl, rfl, rfl⟩ := hres; exact ⟨a1.trans (cutBack_keep hcut), by omega⟩
                | pan => simp only [Prod.mk.injEq] at hres; obtain ⟨rfl, rfl, rfl⟩ := hres; exact ⟨a1.trans (cutBack_keep hcut), by omega⟩
              | succ k ihk =>
                intro vs H hm hv hf1
                obtain ⟨e1, st1, vs1, H1, hrun, hcut, hres⟩ := hsum vs H _ hv hf1
                obtain ⟨a1, a2⟩ := ih body (by omega) hlb _ _ _ (by simp [mkF_length]) hrun
                have hl1 := cutBack_len hcut
                cases e1 with
                | normal =>
                  obtain ⟨hf2, hlt⟩ := hres
                  have hv1 : vs1.length = keep.length := by
                    unfold cutBack at hcut
                    split at hcut
                    · simp only [Option.some.injEq, Prod.mk.injEq] at hcut; obtain ⟨rfl, _⟩ := hcut; simp
                    · split at hcut
                      · simp only [Option.some.injEq, Prod.mk.injEq] at hcut; obtain ⟨rfl, _⟩ := hcut; simp
                      · simp at hcut
                  obtain ⟨b1, b2⟩ := ihk vs1 H1 (by omega) hv1 hf2
                  exact ⟨(a1.trans (cutBack_keep hcut)).trans b1, by omega⟩
                | exit i => simp only [Prod.mk.injEq] at hres; obtain ⟨rfl, rfl, rfl⟩ := hres; exact ⟨a1.trans (cutBack_keep hcut), by omega⟩
                | ret => simp only [Prod.mk.injEq] at hres; obtain ⟨rfl, rfl, rfl⟩ := hres; exact ⟨a1.trans (cutBack_keep hcut), by omega⟩
                | pan => simp only [Prod.mk.injEq] at hres; obtain ⟨rfl, rfl, rfl⟩ := hres; exact ⟨a1.trans (cutBack_keep hcut), by omega⟩
            exact key _ _ _ (Nat.le_refl _) (by simp) hf
          · simp at h
      · have hne : ∀ b, c ≠ .loop b := fun b e => hl ⟨b, e⟩
        have hlc : LoopsOk Γ cf df lp nt c := fun p hp => hlp p (by
          cases c <;> first | exact absurd rfl (hne _) | (simp only [loops] at hp ⊢; exact hp))
        simp only [csz] at hc
        rw [runC_block hne] at h
        obtain ⟨e0, he0⟩ := inBlk_length h
        exact ih c (by omega) hlc st _ _ hlen he0
    | rangeFunc g ps asg body =>
      simp only [runC] at h
      cases hr : inRnd lp with
      | true => simp [hr] at h
      | false =>
        simp only [hr, cond_false] at h
        split at h
        · rename_i gf cs hg
          cases hi : Γ.inl gf with
          | false => simp [hi] at h
          | true =>
            simp only [hi, cond_true] at h
            split at h
            · rename_i v H hc
              obtain ⟨a1, a2⟩ := rfEnd_keep h
              have hk := hcf.keep _ _ _ _ _ hc
              have hln := hcf.len _ _ _ _ _ hc
              simp only [List.length_append, List.length_cons, List.length_nil] at hln
              exact ⟨((KeepD.append _ _).trans hk).trans a1, by omega⟩
            · simp at h
        · simp at h
    | loop b => simp [runC] at h
    | scope x => simp [runC] at h
    | label l => simp [runC] at h
    | goto l => simp [runC] at h
    | refuse l => simp [runC] at h
theorem runC_sound (hΓ : Γ.Ok Inv) (hI : Stable Inv) (h0 : Inv w0) (hcf : CallSound Γ.P Inv cf) (hdf : DrawSound Γ.P Inv df) (hdl : DrawLen df) (hdk : DrawKeep df) (hrd : inRnd lp = false → r = none) {nt : Nat} : ∀ (m : Nat) (c : Code), csz c ≤ m → LoopsOk Γ cf df lp nt c →
    ∀ (st : St) (ρ : Nm) (A : Nat → Prop) (w : World) (a : Act) (e : Ex) (st' : St), Rel D w0 ρ A st a w → st.tm.length = nt → D.m0 ≤ st.hp.length → runC Γ cf df lp c st = some (e, st') →
      c.wpIn (Fr r) n Γ.P (Out D w0 ρ A w st.hp e st') a w := by
  intro m
  induction m with
  | zero => intro c hc; have := csz_pos c; omega
  | succ m ih =>
    intro c hc hlp st ρ A w a e st' hr hlen hm0 h
    cases c with
    | skip =>
      simp only [runC, Option.some.injEq, Prod.mk.injEq] at h
      obtain ⟨rfl, rfl⟩ := h
      exact wpIn_skip ⟨ρ, A, Ext.refl _ _ _ _, rfl, hr⟩
    | region id ops draw =>
      simp only [runC] at h
      obtain ⟨st1, h1, h⟩ := region_run h
      obtain ⟨ρ1, A1, hr1, hx1⟩ := preSt_sound hr h1
      have key : ∀ {e2 : Ex} {st2 : St}, (if draw then df ops st1 else runIdx Γ cf ops (List.range ops.size) st1) = some (e2, st2) → (Code.region id ops draw).wpIn (Fr r) n Γ.P (Out D w0 ρ A w st.hp e2 st2) a w := fun {e2 st2} h => by
        cases draw with
        | true => exact wpIn_mono (hdf ops _ e2 st2 h D w0 ρ1 A1 w a r n id h0 hr1) fun _ _ _ ho => Out.from hx1 ho
        | false => exact wpIn_region (runIdx_sound hΓ hI h0 hcf _ _ ρ1 A1 w a _ hr1 h fun _ _ _ ho => Out.from hx1 ho)
      rcases postC_run h with ⟨st2, h2, rfl, h3⟩ | ⟨_, h2⟩
      · refine wpIn_mono (key h2) ?_
        rintro x' a1 w1 ⟨ρ2, A2, hext, rfl, hr2⟩
        obtain ⟨ρ3, A3, hr3, hx3⟩ := postSt_sound hr2 h3
        exact ⟨ρ3, A3, hext.trans hx3, rfl, hr3⟩
      · exact key h2
    | seq x y =>
      have hx : LoopsOk Γ cf df lp nt x := fun p hp => hlp p (by simp [loops, hp])
      have hy : LoopsOk Γ cf df lp nt y := fun p hp => hlp p (by simp [loops, hp])
      simp only [csz] at hc
      simp only [runC] at h
      split at h
      · rename_i st1 h1
        refine wpIn_seq (wpIn_mono (ih x (by omega) hx st ρ A w a _ _ hr hlen hm0 h1) ?_)
        rintro x' a1 w1 ⟨ρ1, A1, hext, rfl, hr1⟩
        refine wpIn_mono (ih y (by omega) hy st1 ρ1 A1 w1 a1 _ _ hr1 (by rw [runC_length hdl x h1, hlen]) (Nat.le_trans hm0 (runC_keep hcf hdk hdl _ x (Nat.le_refl _) hx _ _ _ hlen h1).2) h) ?_
        exact fun _ _ _ ho => Out.from hext ho
      · rename_i hne
        refine wpIn_seq (wpIn_mono (ih x (by omega) hx st ρ A w a _ _ hr hlen hm0 h) ?_)
        intro x' a1 w1 ho
        cases e with
        | normal => exact absurd h (hne _)
        | exit i => obtain ⟨ρ1, A1, hext, rfl, hr1⟩ := ho; exact ⟨ρ1, A1, hext, rfl, hr1⟩
        | ret => obtain ⟨ρ1, A1, hext, rfl, hr1⟩ := ho; exact ⟨ρ1, A1, hext, rfl, hr1⟩
        | pan => obtain ⟨ρ1, A1, hext, t, v, rfl, hr1⟩ := ho; exact ⟨ρ1, A1, hext, t, v, rfl, hr1⟩
    | cond o x y =>
      have hx : LoopsOk Γ cf df lp nt x := fun p hp => hlp p (by simp [loops, hp])
      have hy : LoopsOk Γ cf df lp nt y := fun p hp => hlp p (by simp [loops, hp])
      simp only [csz] at hc
      simp only [runC] at h
      split at h
      · rename_i t ht
        have hb := opd_rv hr.tm o
        rw [ht] at hb
        refine wpIn_cond hb.of_bool ?_
        cases t with
        | true => exact ih x (by omega) hx st ρ A w a _ _ hr hlen hm0 h
        | false => exact ih y (by omega) hy st ρ A w a _ _ hr hlen hm0 h
      · simp at h
    | block id c =>
      by_cases hl : ∃ b, c = .loop b
      · obtain ⟨body, rfl⟩ := hl
        have hlb : LoopsOk Γ cf df lp nt body := fun p hp => hlp p (by simp [loops, hp])
        simp only [csz] at hc
        simp only [runC] at h
        refine wpIn_block ?_
        split at h
        · rename_i k hk
          obtain ⟨e0, he0⟩ := inBlk_length h
          refine wpIn_loop_ghost (fun j a' w' => ∃ st1 ρ1 A1, Rel D w0 ρ1 A1 st1 a' w' ∧ st1.tm.length = nt ∧ D.m0 ≤ st1.hp.length ∧ Ext (Live st.hp) ρ A w (Live st1.hp) ρ1 A1 w' ∧ iterN (runC Γ cf df lp body) j st1 = some (e0, st')) k
            ⟨st, ρ, A, hr, hlen, hm0, Ext.refl _ _ _ _, he0⟩ ?_
          rintro j a' w' ⟨st1, ρ1, A1, hr1, hl1, hm1, hext, hit⟩
          cases j with
          | zero => simp [iterN] at hit
          | succ j =>
            simp only [iterN] at hit
            split at hit
            · rename_i st2 h2
              refine wpIn_mono (ih body (by omega) hlb st1 ρ1 A1 w' a' _ _ hr1 hl1 hm1 h2) ?_
              rintro x' a2 w2 ⟨ρ2, A2, hext2, rfl, hr2⟩
              exact ⟨j, Nat.lt_succ_self j, st2, ρ2, A2, hr2, by rw [runC_length hdl body h2, hl1], Nat.le_trans hm1 (runC_keep hcf hdk hdl _ body (Nat.le_refl _) hlb _ _ _ hl1 h2).2, hext.trans hext2, hit⟩
            · rename_i hne
              refine wpIn_mono (ih body (by omega) hlb st1 ρ1 A1 w' a' _ _ hr1 hl1 hm1 hit) ?_
              intro x' a2 w2 ho
              have := inBlk_out he0 h (Out.from hext ho)
              cases e0 with
              | normal => exact absurd hit (hne _)
              | exit i => obtain ⟨ρ2, A2, hext2, rfl, hr2⟩ := ho; exact this
              | ret => obtain ⟨ρ2, A2, hext2, rfl, hr2⟩ := ho; exact this
              | pan => obtain ⟨ρ2, A2, hext2, t, v, rfl, hr2⟩ := ho; exact this
        · simp at h
        · simp at h
        · rename_i keep f hk
          split at h
          · rename_i e0 vs0 H0 hf
            obtain ⟨_, _, μ, hsum⟩ := hlp (id, body) (by simp [loops]) keep f hk
            have hstart : Rel D w0 ρ A ⟨mkF nt keep (keep.map (getT st.tm)), st.hp⟩ a w := ⟨by rw [← hlen]; exact mkF_rel hr.tm rfl, hr.df, hr.mem⟩
            rw [hlen] at h
            refine wpIn_loop_ghost (fun j a' w' => ∃ vs H ρ1 A1, f vs H = some (e0, vs0, H0) ∧ μ vs H = j ∧ vs.length = keep.length ∧ H.length = st.hp.length ∧ Rel D w0 ρ1 A1 ⟨mkF nt keep vs, H⟩ a' w' ∧
              Ext (Live st.hp) ρ A w (Live H) ρ1 A1 w') (μ (keep.map (getT st.tm)) st.hp) ⟨_, _, ρ, A, hf, rfl, by simp, rfl, hstart, Ext.refl _ _ _ _⟩ ?_
            rintro j a' w' ⟨vs, H, ρ1, A1, hf1, hμ, hvl, hHl, hr1, hext⟩
            obtain ⟨e1, st1, vs1, H1, hrun, hcut, hres⟩ := hsum vs H _ hvl hf1
            have hl1 : st1.tm.length = nt := by rw [runC_length hdl body hrun]; simp [mkF_length]
            refine wpIn_mono (ih body (by omega) hlb ⟨mkF nt keep vs, H⟩ ρ1 A1 w' a' _ _ hr1 (by simp [mkF_length]) (by simp only; omega) hrun) ?_
            intro x' a2 w2 ho
            obtain ⟨ρ2, A2, hext2, ho2⟩ := ho
            have hcutExt : ∀ (hm : Mem w0 ρ2 A2 w2 st1.hp), Mem w0 ρ2 A2 w2 H1 ∧ Ext (Live st.hp) ρ A w (Live H1) ρ2 A2 w2 := by
              intro hm
              obtain ⟨hm1, hlv⟩ := cutBack_mem hm hcut
              refine ⟨hm1, hext.trans ⟨fun id hi => hlv id (hext2.ids id hi) (live_lt hi), hext2.nam, hext2.imm, hext2.keep, hext2.late, hext2.size, hext2.bse⟩⟩
            cases e1 with
            | normal =>
              obtain ⟨rfl, hr2⟩ := ho2
              obtain ⟨hf2, hlt⟩ := hres
              obtain ⟨hr3, _, hH3, hv3⟩ := cutBack_rel hr2 hcut
              rw [hl1] at hr3
              obtain ⟨_, hx⟩ := hcutExt hr2.mem
              exact ⟨_, hμ ▸ hlt, vs1, H1, ρ2, A2, hf2, rfl, hv3, by rw [hH3]; exact hHl, hr3, hx⟩
            | exit i =>
              obtain ⟨rfl, hr2⟩ := ho2
              simp only [Prod.mk.injEq] at hres
              obtain ⟨rfl, rfl, rfl⟩ := hres
              obtain ⟨hr3, _, hH3, hv3⟩ := cutBack_rel hr2 hcut
              rw [hl1] at hr3
              obtain ⟨_, hx⟩ := hcutExt hr2.mem
              exact inBlk_out (e0 := .exit i) rfl h ⟨ρ2, A2, hx, rfl, hr3⟩
            | ret =>
              obtain ⟨rfl, hr2⟩ := ho2
              simp only [Prod.mk.injEq] at hres
              obtain ⟨rfl, rfl, rfl⟩ := hres
              obtain ⟨hr3, _, hH3, hv3⟩ := cutBack_rel hr2 hcut
              rw [hl1] at hr3
              obtain ⟨_, hx⟩ := hcutExt hr2.mem
              exact inBlk_out (e0 := .ret) rfl h ⟨ρ2, A2, hx, rfl, hr3⟩
            | pan =>
              obtain ⟨t, v, rfl, hr2⟩ := ho2
              simp only [Prod.mk.injEq] at hres
              obtain ⟨rfl, rfl, rfl⟩ := hres
              obtain ⟨hr3, _, hH3, hv3⟩ := cutBack_rel hr2 hcut
              rw [hl1] at hr3
              obtain ⟨_, hx⟩ := hcutExt hr2.mem
              exact inBlk_out (e0 := .pan) rfl h ⟨ρ2, A2, hx, t, v, rfl, hr3⟩
          · simp at h
      · have hne : ∀ b, c ≠ .loop b := fun b e => hl ⟨b, e⟩
        have hlc : LoopsOk Γ cf df lp nt c := fun p hp => hlp p (by
          cases c <;> first | exact absurd rfl (hne _) | (simp only [loops] at hp ⊢; exact hp))
        simp only [csz] at hc
        rw [runC_block hne] at h
        obtain ⟨e0, he0⟩ := inBlk_length h
        refine wpIn_block (wpIn_mono (ih c (by omega) hlc st ρ A w a _ _ hr hlen hm0 he0) ?_)
        intro x' a1 w1 ho
        exact inBlk_out he0 h ho
    | exit id =>
      simp only [runC, Option.some.injEq, Prod.mk.injEq] at h
      obtain ⟨rfl, rfl⟩ := h
      exact wpIn_exit ⟨ρ, A, Ext.refl _ _ _ _, rfl, hr⟩
    | ret =>
      simp only [runC, Option.some.injEq, Prod.mk.injEq] at h
      obtain ⟨rfl, rfl⟩ := h
      exact wpIn_ret ⟨ρ, A, Ext.refl _ _ _ _, rfl, hr⟩
    | loop b => simp [runC] at h
    | rangeFunc g ps asg body =>
      simp only [runC] at h
      cases hri : inRnd lp with
      | true => simp [hri] at h
      | false =>
      have hrn := hrd hri
      subst hrn
      simp only [hri, cond_false] at h
      split at h
      case h_2 => simp at h
      rename_i gf cs hg
      cases hi : Γ.inl gf with
      | false => simp [hi] at h
      | true =>
      simp only [hi, cond_true] at h
      split at h
      case h_2 => simp at h
      rename_i v H hc
      have hgv := opd_rv hr.tm g
      rw [hg] at hgv
      obtain ⟨us, hus, hurv⟩ := hgv.of_fn
      obtain ⟨fnb, hb1, hb2, hb3⟩ := hΓ.body gf (.inr hi)
      refine wpIn_rangeFunc fun fn _ => ?_
      obtain ⟨m1, x1⟩ := hr.mem.new (o := .dfr) rfl (x := .deferred (some [])) rfl (fresh := st.hp.length) (H' := st.hp ++ [.dfr]) (by rintro ⟨o, ho, _⟩; simp at ho) (by simp)
        (fun i hne => by
          rcases Nat.lt_or_ge i st.hp.length with h' | h'
          · exact List.getElem?_append_left h'
          · rw [List.getElem?_eq_none h', List.getElem?_eq_none (by simp; omega)])
      obtain ⟨m2, x2⟩ := m1.new (o := .loop st.tm ps asg body st.hp.length .ready) rfl
        (x := .loop { state := .ready, pending := none, fn := fn, tmps := a.tmps.toList.toArray, params := ps, assign := asg, body := body, defers := w.heap.size })
        ⟨⟨.dfr, by simp, rfl⟩, fn, a.tmps.toList, by simp [LS.state, LS.pending, Nm.put_at], x1.rvs hr.tm⟩ (fresh := st.hp.length + 1) (H' := st.hp ++ [.dfr, .loop st.tm ps asg body st.hp.length .ready])
        (by rintro ⟨o, ho, _⟩; simp at ho) (by simp) (fun i hne => by
          rcases Nat.lt_or_ge i (st.hp.length + 1) with h' | h'
          · rw [show st.hp ++ [.dfr, .loop st.tm ps asg body st.hp.length .ready] = (st.hp ++ [.dfr]) ++ [.loop st.tm ps asg body st.hp.length .ready] by simp]
            exact List.getElem?_append_left (by simpa using h')
          · rw [List.getElem?_eq_none (by simp; omega), List.getElem?_eq_none (by simp; omega)])
      have hsz : (w.alloc (.deferred (some []))).heap.size = w.heap.size + 1 := by simp
      generalize hW2 : (w.alloc (.deferred (some []))).alloc (.loop { state := .ready, pending := none, fn := fn, tmps := a.tmps.toList.toArray, params := ps, assign := asg, body := body, defers := w.heap.size }) = W2 at *
      generalize hρ2 : (ρ.put st.hp.length w.heap.size).put (st.hp.length + 1) (w.alloc (.deferred (some []))).heap.size = ρ2 at *
      have hρl : ρ2 (st.hp.length + 1) = w.heap.size + 1 := by rw [← hρ2, Nm.put_at]; simp
      have hρd : ρ2 st.hp.length = w.heap.size := by rw [← hρ2, Nm.put_ne _ _ (by omega), Nm.put_at]
      have hlive1 : Live (st.hp ++ [.dfr, .loop st.tm ps asg body st.hp.length .ready]) (st.hp.length + 1) := ⟨.loop st.tm ps asg body st.hp.length .ready, by simp, rfl⟩
      have hliveD : (st.hp ++ [.dfr, .loop st.tm ps asg body st.hp.length .ready])[st.hp.length]? = some .dfr := by simp
      have hargs : Rvs ρ2 A W2 (Live (st.hp ++ [.dfr, .loop st.tm ps asg body st.hp.length .ready])) (.yld (st.hp.length + 1) :: cs) (.func (.yield (w.heap.size + 1)) #[] #[] :: us) :=
        .cons (by rw [← hρl]; exact .yld hlive1) (x2.rvs (x1.rvs hurv))
      have hcall := hcf.fn gf _ _ _ H hc w0 ρ2 A W2 _ h0 m2 hargs
      refine ⟨w.heap.size + 1, [{ target := .collected w.heap.size, args := #[] }], W2, { target := .fn (.func gf) us.toArray, args := #[.func (.yield (w.heap.size + 1)) #[] #[]] }, W2, gf, (.func (.yield (w.heap.size + 1)) #[] #[] :: us).toArray, W2, ?_, ?_, ?_, ?_, ?_, ?_⟩
      · rw [← hW2]
        have := run_enterLoop_outer (P := Γ.P) (w := w) fn a.tmps ps asg body
        simpa using this
      · simp only [resolve, hus]
        simp [Act.eval, Deferred.ofValue]
      · intro f' _; trivial
      · simp only [invoke]
        have : (#[Value.func (.yield (w.heap.size + 1)) #[] #[]] ++ us.toArray) = (.func (.yield (w.heap.size + 1)) #[] #[] :: us).toArray := by simp
        rw [this]
        exact callFunc_enter hb1 hb2 hb3 _ _
      · intro h; simp [Fence.wide] at h
      · rw [callsIn_fr]
        refine hcall.mono ?_
        rintro e' w3 ⟨ρ3, A3, m3, x3, u, rfl, hu⟩
        have hkd := hcf.keep _ _ _ _ _ hc
        have fin : ∀ (t : List AV) (ps' : Array Tmp) (asg' body' : Code) (blk : Nat) (s0 : LS), H[st.hp.length + 1]? = some (.loop t ps' asg' body' blk s0) → s0.state ≠ .busy →
            ∃ w4, (Instr.endLoop (w.heap.size + 1)).run Γ.P w3 = .ok s0.pending w4 ∧
              ∃ ρ4 A4, Ext (Live st.hp) ρ A w (Live (H.set (st.hp.length + 1) (.loop t ps' asg' body' blk (.over s0.pending)))) ρ4 A4 w4 ∧
                Rel D w0 ρ4 A4 ⟨st.tm, H.set (st.hp.length + 1) (.loop t ps' asg' body' blk (.over s0.pending))⟩ { a with defers := [{ target := .collected w.heap.size, args := #[] }] ++ a.defers } w4 := by
          intro t ps' asg' body' blk s0 hl hnb
          obtain ⟨k1, k2, x, k3, hblk, fn', vs', rfl, hvs'⟩ := (m3.hp.obj _ _ hl).solid rfl
          have hρ3 : ρ3 (st.hp.length + 1) = w.heap.size + 1 := (x3.nam _ hlive1).1.trans hρl
          have k3' := k3
          rw [hρ3] at k3'
          have hend := run_endLoop (P := Γ.P) k3' hnb
          refine ⟨_, hend, ?_⟩
          have hput := putO_of (w := w3) (b := ρ3 (st.hp.length + 1)) (x := .loop { state := .exhausted, pending := s0.pending, fn := fn', tmps := vs'.toArray, params := ps', assign := asg', body := body', defers := ρ3 blk }) k3
          obtain ⟨m4, x4⟩ := m3.upd hl rfl (o' := .loop t ps' asg' body' blk (.over s0.pending)) rfl hput ⟨hblk, fn', vs', rfl, hvs'⟩
          rw [hρ3] at m4 x4
          have hall := ((x1.trans x2).trans x3).trans x4
          refine ⟨ρ3, A3, hall, hall.rvs hr.tm, ?_, m4⟩
          have hdn : (H.set (st.hp.length + 1) (.loop t ps' asg' body' blk (.over s0.pending)))[st.hp.length]? = some .dfr := by
            rw [get_set_eq hl, if_neg (by omega)]
            exact hkd _ hliveD
          have hρd3 : ρ3 st.hp.length = w.heap.size := (x3.nam _ ⟨_, hliveD, rfl⟩).1.trans hρd
          obtain ⟨ids, hds, hnd, hids⟩ := hr.df
          refine ⟨st.hp.length :: ids, ?_, ?_, ?_⟩
          · simp only [List.map_cons, hρd3, List.cons_append, List.nil_append, List.cons.injEq, true_and]
            rw [hds]
            congr 1
            exact List.map_congr_left fun id hid => by rw [(hall.nam id ⟨_, (hids id hid).1, rfl⟩).1]
          · rw [List.nodup_cons]
            refine ⟨fun hm => ?_, hnd⟩
            have := (hids _ hm).1
            simp at this
          · intro id hid
            rcases List.mem_cons.1 hid with rfl | hid
            · exact ⟨hdn, hm0⟩
            · refine ⟨?_, (hids id hid).2⟩
              have h1 : (st.hp ++ [.dfr, .loop st.tm ps asg body st.hp.length .ready])[id]? = some .dfr := KeepD.append _ _ id (hids id hid).1
              have h2 := hkd id h1
              have hne : id ≠ st.hp.length + 1 := fun e => by rw [e, hl] at h2; cases h2
              rw [get_set_eq hl, if_neg hne]; exact h2
        show ∃ jump w4, _ ∧ _
        unfold rfEnd at h
        split at h
        · rename_i t ps' asg' body' blk hl
          simp only [Option.some.injEq, Prod.mk.injEq] at h
          obtain ⟨rfl, rfl⟩ := h
          obtain ⟨w4, hend, ρ4, A4, hx, hrel⟩ := fin _ _ _ _ _ _ hl (by simp [LS.state])
          exact ⟨none, w4, hend, ρ4, A4, hx, rfl, hrel⟩
        · rename_i t ps' asg' body' blk hl
          simp only [Option.some.injEq, Prod.mk.injEq] at h
          obtain ⟨rfl, rfl⟩ := h
          obtain ⟨w4, hend, ρ4, A4, hx, hrel⟩ := fin _ _ _ _ _ _ hl (by simp [LS.state])
          exact ⟨some .ret, w4, hend, wpIn_ret ⟨ρ4, A4, hx, rfl, hrel⟩⟩
        · rename_i t ps' asg' body' blk i hl
          simp only [Option.some.injEq, Prod.mk.injEq] at h
          obtain ⟨rfl, rfl⟩ := h
          obtain ⟨w4, hend, ρ4, A4, hx, hrel⟩ := fin _ _ _ _ _ _ hl (by simp [LS.state])
          exact ⟨some (.exit i), w4, hend, wpIn_exit ⟨ρ4, A4, hx, rfl, hrel⟩⟩
        · simp at h
    | scope x => simp [runC] at h
    | label l => simp [runC] at h
    | goto l => simp [runC] at h
    | refuse l => simp [runC] at h
end
open Go.RowKit
section
variable {D : Dx} {Γ : Cx} {Inv : World → Prop} {cf : CallF} {df : DrawF} {lp : Nat → LK} {w0 : World}
theorem resultA_run {ρ : Nm} {A : Nat → Prop} {w : World} {st : St} {a : Act} (htm : Rvs ρ A w (Live st.hp) st.tm a.tmps.toList) (hmem : Mem w0 ρ A w st.hp) {v : ResultVar} {x : AV} (h : resultA Γ.P st v = some x) :
    ∃ u, ((match v with | .tmp t => pure (a.tmps.getD t undef) | .cell b t => do loadVar t (← asAddr (a.tmps.getD b undef))) : Sem Value).run Γ.P w = .ok u w ∧ Rv ρ A w (Live st.hp) x u := by
  cases v with
  | tmp t =>
    simp only [resultA, Option.some.injEq] at h
    subst h
    exact ⟨_, rfl, by have := opd_rv htm (.tmp t); simpa [opd, Act.eval] using this⟩
  | cell b t =>
    simp only [resultA] at h
    have hb := opd_rv htm (.tmp b)
    simp only [opd, Act.eval] at hb
    split at h
    · rename_i id off hx
      rw [hx] at hb
      obtain ⟨hb, hid⟩ := hb.of_ptr
      split at h
      · rename_i k hg hk
        obtain ⟨⟨y, H⟩, hy, rfl⟩ := Option.map_eq_some_iff.1 h
        simp only [doPlan] at hy
        split at hy
        · rename_i cs ct ho
          split at hy
          · rename_i hle
            simp only [Nat.ble_eq] at hle
            simp only [if_true, Option.some.injEq, Prod.mk.injEq] at hy
            obtain ⟨rfl, rfl⟩ := hy
            obtain ⟨us, hl, hcell, hrv⟩ := hmem.get ho hle
            have := run_loadVar (P := Γ.P) (us := us) hg (by rw [hl]; exact hk) (by simp) hcell
            simp only [if_true] at this
            exact ⟨.agg us.toArray, by simp [hb, asAddr, this], .agg hrv.1 hrv.2⟩
          · simp at hy
        · simp at hy
      · rename_i hg hk
        obtain ⟨⟨y, H⟩, hy, rfl⟩ := Option.map_eq_some_iff.1 h
        simp only [doPlan] at hy
        split at hy
        · rename_i cs ct ho
          split at hy
          · rename_i hle
            simp only [Nat.ble_eq] at hle
            simp only [Bool.false_eq_true, if_false] at hy
            obtain ⟨c, hc, h2⟩ := Option.map_eq_some_iff.1 hy
            simp only [Prod.mk.injEq] at h2
            obtain ⟨rfl, rfl⟩ := h2
            obtain ⟨us, hl, hcell, hrv⟩ := hmem.get ho hle
            have := run_loadVar (P := Γ.P) (us := us) hg (by rw [hl]; exact hk) (fun _ => hl) hcell
            simp only [Bool.false_eq_true, if_false] at this
            match us, hl with
            | [u], _ =>
              have hc' : ((cs.drop off).take 1)[0]? = some c := by rw [← hc]; simp [List.getElem?_drop]
              obtain ⟨u', hu', hrv'⟩ := hrv.get hc'
              simp only [List.getElem?_cons_zero, Option.some.injEq] at hu'
              subst hu'
              exact ⟨u, by simp [hb, asAddr, this], hrv'⟩
          · simp at hy
        · simp at hy
      · simp at h
    · simp at h
theorem resultsA_run {ρ : Nm} {A : Nat → Prop} {w : World} {st : St} {a : Act} (htm : Rvs ρ A w (Live st.hp) st.tm a.tmps.toList) (hmem : Mem w0 ρ A w st.hp) : ∀ (l : List ResultVar) {xs : List AV}, resultsA Γ.P st l = some xs →
    ∃ us, (l.mapM fun v => (match v with | .tmp t => pure (a.tmps.getD t undef) | .cell b t => do loadVar t (← asAddr (a.tmps.getD b undef)) : Sem Value)).run Γ.P w = .ok us w ∧ Rvs ρ A w (Live st.hp) xs us := by
  intro l
  induction l with
  | nil => intro xs h; simp only [resultsA, Option.some.injEq] at h; subst h; exact ⟨[], by simp, .nil⟩
  | cons v l ih =>
    intro xs h
    simp only [resultsA] at h
    split at h
    · rename_i y ys hy hys
      simp only [Option.some.injEq] at h
      subst h
      obtain ⟨u, hu, hru⟩ := resultA_run htm hmem hy
      obtain ⟨us, hus, hrus⟩ := ih hys
      refine ⟨u :: us, ?_, .cons hru hrus⟩
      simp only [List.mapM_cons, Sem.run_bind, hu, Result.andThen_ok, hus, Sem.run_pure]
    · simp at h
theorem results_run {ρ : Nm} {A : Nat → Prop} {w : World} {st : St} {a : Act} (htm : Rvs ρ A w (Live st.hp) st.tm a.tmps.toList) (hmem : Mem w0 ρ A w st.hp) {fn : Func} {xs : List AV} (h : resultsA Γ.P st fn.results.toList = some xs) :
    ∃ u, (results fn a.tmps).run Γ.P w = .ok u w ∧ Rv ρ A w (Live st.hp) (packA xs) u := by
  obtain ⟨us, hus, hrus⟩ := resultsA_run htm hmem _ h
  have hrun : (results fn a.tmps).run Γ.P w = .ok (if h : us.toArray.size = 1 then us.toArray[0] else .tuple us.toArray) w := by
    have e : (results fn a.tmps).run Γ.P w = (((fn.results.toList.mapM fun v => (match v with | .tmp t => pure (a.tmps.getD t undef) | .cell b t => do loadVar t (← asAddr (a.tmps.getD b undef)) : Sem Value)).run Γ.P w).andThen
        fun a w' => .ok a.toArray w').andThen fun vs w' => .ok (if h : vs.size = 1 then vs[0] else .tuple vs) w' := by
      unfold results
      simp only [Array.mapM_eq_mapM_toList, Sem.run_bind, Sem.run_map, Sem.run_pure]
      rfl
    rw [e, hus]
    rfl
  refine ⟨_, hrun, ?_⟩
  have hl := hrus.1
  match xs, us, hrus, hl with
  | [], [], hrus, _ => exact .tup hrus.1 hrus.2
  | [x], [u], hrus, _ => exact hrus.2 0 (by simp) (by simp)
  | x :: y :: xs, u :: v :: us, hrus, _ => simpa [packA] using Rv.tup hrus.1 hrus.2
  | [], _ :: _, _, hl => simp at hl
  | _ :: _, [], _, hl => simp at hl
  | [_], _ :: _ :: _, _, hl => simp at hl
  | _ :: _ :: _, [_], _, hl => simp at hl
theorem freeD_get (m : Nat) (H : List Ob) (i : Nat) : (freeD m H)[i]? = H[i]? ∨ ((freeD m H)[i]? = some .dfx ∧ H[i]? = some .dfr ∧ m ≤ i) := by
  unfold freeD
  cases hn : noDfr m H with
  | true => left; rfl
  | false =>
    simp only [cond_false]
    rcases Nat.lt_or_ge i m with h' | h'
    · left
      rcases Nat.lt_or_ge i (H.take m).length with h2 | h2
      · rw [List.getElem?_append_left h2, List.getElem?_take, if_pos h']
      · have hl : H.length ≤ i := by simp at h2; omega
        rw [List.getElem?_eq_none (by simp; omega), List.getElem?_eq_none hl]
    · rcases Nat.lt_or_ge i H.length with h2 | h2
      · have hl : (H.take m).length = m := by simp; omega
        rw [List.getElem?_append_right (by omega), hl, List.getElem?_map, List.getElem?_drop, show m + (i - m) = i by omega, List.getElem?_eq_getElem h2]
        simp only [Option.map_some]
        cases hd : isDfr H[i] with
        | false => left; rfl
        | true =>
          right
          refine ⟨rfl, ?_, h'⟩
          congr 1
          cases ho : H[i] <;> simp [ho, isDfr] at hd
          rfl
      · left
        rw [List.getElem?_eq_none (by simp; omega), List.getElem?_eq_none h2]
theorem freeD_live (m : Nat) (H : List Ob) (i : Nat) : Live (freeD m H) i ↔ Live H i := by
  unfold Live
  rcases freeD_get m H i with h | ⟨h1, h2, _⟩
  · rw [h]
  · rw [h1, h2]
    constructor
    · rintro _; exact ⟨_, rfl, rfl⟩
    · rintro _; exact ⟨_, rfl, rfl⟩
theorem freeD_len (m : Nat) (H : List Ob) : (freeD m H).length = H.length := by
  unfold freeD
  cases noDfr m H with
  | true => rfl
  | false => simp; omega
theorem Mem.free {ρ : Nm} {A : Nat → Prop} {w : World} {H : List Ob} (h : Mem w0 ρ A w H) (m : Nat) : Mem w0 ρ A w (freeD m H) := by
  have hlv : ∀ id, Live H id → Live (freeD m H) id := fun id => (freeD_live m H id).2
  have hback : ∀ i o, (freeD m H)[i]? = some o → ∃ o', H[i]? = some o' ∧ ∀ b, blk ρ i o b → blk ρ i o' b := fun i o ho => by
    rcases freeD_get m H i with h1 | ⟨h1, h2, _⟩
    · rw [h1] at ho; exact ⟨o, ho, fun _ h => h⟩
    · rw [h1] at ho; cases ho; exact ⟨_, h2, fun _ h => h⟩
  refine ⟨⟨fun i o ho => ?_, fun i j o p b hi hj hb hc => ?_⟩, h.bel, h.lt, h.bs⟩
  · rcases freeD_get m H i with h1 | ⟨h1, h2, _⟩
    · rw [h1] at ho
      exact (h.hp.obj i o ho).map fun x hx => hx.mono hlv (Nle.refl _ _) (fun _ h => h) (fun _ _ => rfl)
    · rw [h1] at ho
      cases ho
      obtain ⟨k1, k2, x, k3, _⟩ := (h.hp.obj i _ h2).solid rfl
      exact ORel.of_solid rfl ⟨k1, k2, x, k3, trivial⟩
  · obtain ⟨o', ho', hob⟩ := hback i o hi
    obtain ⟨p', hp', hpb⟩ := hback j p hj
    exact h.hp.inj i j o' p' b ho' hp' (hob b hb) (hpb b hc)
theorem freeD_mask {m : Nat} {H : List Ob} {id : Nat} (h : H[id]? = some .dfr) (hm : m ≤ id) : (freeD m H)[id]? = some .dfx := by
  unfold freeD
  have hlt := (List.getElem?_eq_some_iff.1 h).1
  have hn : noDfr m H = false := by
    unfold noDfr
    rw [List.all_eq_false]
    refine ⟨.dfr, ?_, by simp [isDfr]⟩
    have : (H.drop m)[id - m]? = some .dfr := by rw [List.getElem?_drop, show m + (id - m) = id by omega]; exact h
    exact List.mem_of_getElem? this
  rw [hn]
  simp only [cond_false]
  have hl : (H.take m).length = m := by simp; omega
  rw [List.getElem?_append_right (by omega), hl, List.getElem?_map, List.getElem?_drop, show m + (id - m) = id by omega, h]
  rfl
theorem leaves_marks {n : Nat} {P : Program} {fn : Func} {tmps : Array Value} {R : Ending → World → Prop} {u : FrameMode} (hu : u ≠ .run) {ρ : Nm} {A : Nat → Prop} {H : List Ob} : ∀ (ids : List Nat) (w : World), Mem w0 ρ A w H →
    ids.Nodup → (∀ id ∈ ids, H[id]? = some .dfx ∧ w.heap[ρ id]? = some (.deferred (some []))) →
    (∀ w', Mem w0 ρ A w' H → Ext (Live H) ρ A w (Live H) ρ A w' → LeavesIn (Fr none) n P fn tmps R [] u w') →
    LeavesInM (Fr none) n P fn tmps R (ids.map fun id => ({ target := .collected (ρ id), args := #[] } : Deferred)) u w := by
  intro ids
  induction ids with
  | nil => intro w hm _ _ hK; exact hK w hm (Ext.refl _ _ _ _)
  | cons id ids ih =>
    intro w hm hnd hid hK
    rw [List.nodup_cons] at hnd
    obtain ⟨h1, h2⟩ := hid id (by simp)
    refine ⟨hu, .inl ⟨ρ id, _, rfl, run_takeDeferred h2, ?_⟩⟩
    have hput := putO_of (w := w) (b := ρ id) (x := .deferred none) h2
    obtain ⟨m1, x1⟩ := hm.upd h1 rfl (o' := .dfx) rfl hput trivial
    have hset : H.set id .dfx = H := by
      apply List.ext_getElem?
      intro i
      rw [get_set_eq h1]
      by_cases e : i = id
      · subst e; rw [if_pos rfl, h1]
      · rw [if_neg e]
    rw [hset] at m1 x1
    refine ih _ m1 hnd.2 (fun j hj => ?_) (fun w' hm' hx => hK w' hm' (x1.trans hx))
    obtain ⟨k1, k2⟩ := hid j (by simp [hj])
    have hne : ρ j ≠ ρ id := fun e => by
      have : j = id := hm.hp.inj j id _ _ (ρ j) k1 h1 rfl e
      subst this; exact hnd.1 hj
    exact ⟨k1, by rw [hput.other _ hne]; exact k2⟩
theorem leaves_of {n : Nat} {P : Program} {fn : Func} {R : Ending → World → Prop} {u : FrameMode} (hu : u ≠ .run) {m : Nat} {ρ : Nm} {A : Nat → Prop} {w : World} {st : St} {a : Act} (hr : Rel ⟨[], m⟩ w0 ρ A st a w)
    (hK : ∀ w', Mem w0 ρ A w' (freeD m st.hp) → Ext (Live st.hp) ρ A w (Live (freeD m st.hp)) ρ A w' → LeavesIn (Fr none) n P fn a.tmps R [] u w') : LeavesInM (Fr none) n P fn a.tmps R a.defers u w := by
  obtain ⟨ids, hds, hnd, hids⟩ := hr.df
  rw [hds, List.append_nil]
  have hx0 : Ext (Live st.hp) ρ A w (Live (freeD m st.hp)) ρ A w := ⟨fun id h => (freeD_live m _ id).2 h, Nle.refl _ _, fun _ h => h, fun _ _ => rfl, fun _ h => .inl h, Nat.le_refl _, rfl⟩
  refine leaves_marks hu ids w (hr.mem.free m) hnd (fun id hid => ?_) (fun w' hm' hx => hK w' hm' (hx0.trans hx))
  obtain ⟨h1, h2⟩ := hids id hid
  constructor
  · rcases freeD_get m st.hp id with h | ⟨h, _, _⟩
    · exfalso
      rw [h1] at h
      have hmask := freeD_mask (m := m) h1 h2
      rw [hmask] at h; cases h
    · exact h
  · obtain ⟨_, _, x, h3, rfl⟩ := (hr.mem.hp.obj id _ h1).solid rfl
    exact h3
theorem runFn_sound (hΓ : Γ.Ok Inv) (hI : Stable Inv) (h0 : Inv w0) (hcf : CallSound Γ.P Inv cf) (hdf : DrawSound Γ.P Inv df) (hdl : DrawLen df) (hdk : DrawKeep df) {f : FuncId} {fn : Func} (hfn : Γ.P.funcs[f]? = some fn)
    {c : Code} (hb : fn.body = some c) (hlp : LoopsOk Γ cf df lp fn.ntmps c) {args : List AV} {H : List Ob} {q : Res} {H' : List Ob} (hargs : args.length ≤ fn.ntmps)
    (h : runFn Γ cf df lp fn args H = some (q, H')) {ρ : Nm} {A : Nat → Prop} {w : World} {vs : List Value} (hm : Mem w0 ρ A w H) (hv : Rvs ρ A w (Live H) args vs) :
    Calls Γ.P f vs.toArray w (EndRel w0 ρ A w H q H') := by
  rw [← callsIn_fr (r := none) (n := 0)]
  simp only [runFn, hb] at h
  have hlen : vs.length = args.length := hv.1.symm
  have hrel : Rel ⟨[], H.length⟩ w0 ρ A ⟨frame0 fn args, H⟩ { tmps := vs.toArray ++ Array.replicate (fn.ntmps - vs.toArray.size) undef, defers := [] } w := by
    refine ⟨?_, ⟨[], rfl, .nil, fun _ h => by cases h⟩, hm⟩
    have : (vs.toArray ++ Array.replicate (fn.ntmps - vs.toArray.size) undef).toList = vs ++ List.replicate (fn.ntmps - args.length) undef := by simp [hlen]
    rw [this]
    exact hv.append (.replicate .raw _)
  have hl0 : (frame0 fn args).length = fn.ntmps := by simp [frame0]; omega
  refine callsIn_of_wp_marks hfn hb trivial ?_ rfl
  cases hrun : runC Γ cf df lp c ⟨frame0 fn args, H⟩ with
  | none => simp [hrun, leaveA] at h
  | some es =>
    obtain ⟨e, st⟩ := es
    rw [hrun] at h
    refine wpIn_mono (runC_sound hΓ hI h0 hcf hdf hdl hdk (fun _ => rfl) _ c (Nat.le_refl _) hlp _ ρ A w _ e st hrel hl0 (Nat.le_refl _) hrun) ?_
    intro x a' w' ho
    obtain ⟨ρ', A', hext, ho⟩ := ho
    have fin : ∀ {xs : List AV}, Rel ⟨[], H.length⟩ w0 ρ' A' st a' w' → resultsA Γ.P ⟨st.tm, freeD H.length st.hp⟩ fn.results.toList = some xs →
        LeavesInM (Fr none) 0 Γ.P fn a'.tmps (EndRel w0 ρ A w H (.ret (packA xs)) (freeD H.length st.hp)) a'.defers .returning w' := by
      intro xs hr hxs
      refine leaves_of (fun h => by cases h) hr fun w2 hm2 hx2 => ?_
      obtain ⟨u, hu, hru⟩ := results_run (st := ⟨st.tm, freeD H.length st.hp⟩) (a := a') (hx2.rvs hr.tm) hm2 hxs
      exact ⟨u, hu, ρ', A', hm2, hext.trans hx2, u, rfl, hru⟩
    cases e with
    | exit id => simp [leaveA] at h
    | pan =>
      simp only [leaveA, Option.some.injEq, Prod.mk.injEq] at h
      obtain ⟨rfl, rfl⟩ := h
      obtain ⟨t, v, rfl, hr'⟩ := ho
      refine leaves_of (fun h => by cases h) hr' fun w2 hm2 hx2 => ?_
      exact ⟨ρ', A', hm2, hext.trans hx2, t, v, rfl⟩
    | normal =>
      simp only [leaveA] at h
      obtain ⟨xs, hxs, h2⟩ := Option.map_eq_some_iff.1 h
      simp only [Prod.mk.injEq] at h2
      obtain ⟨rfl, rfl⟩ := h2
      obtain ⟨rfl, hr⟩ := ho
      exact fin hr hxs
    | ret =>
      simp only [leaveA] at h
      obtain ⟨xs, hxs, h2⟩ := Option.map_eq_some_iff.1 h
      simp only [Prod.mk.injEq] at h2
      obtain ⟨rfl, rfl⟩ := h2
      obtain ⟨rfl, hr⟩ := ho
      exact fin hr hxs
def SpecHolds (P : Program) (Inv : World → Prop) (f : FuncId) (s : List AV → Option Res) : Prop :=
  ∀ args r, s args = some r → ∀ ρ A w vs, (∀ b, A b → b < w.heap.size) → Inv w → Rvs ρ A w None_ args vs →
    Calls P f vs.toArray w fun e w' => Below w.heap.size w w' ∧ match r with
      | .ret v => ∃ u, e = .returned u ∧ Rv ρ (Grow A w w') w' None_ v u
      | .pan => ∃ t u, e = .panicked [{ v := .iface t u, recovered := false }]
def okRes : Res → Bool
  | .ret v => bnd 0 v
  | .pan => true
inductive Ct where
  | any
  | row (sh : List Sh)
  | tup (l : List Ct)
  | agg (l : List Ct)
  | aut
def castL (f : Ct → AV → Option (Bool × AV)) : List Ct → List AV → Option (Bool × List AV)
  | [], [] => some (true, [])
  | c :: cs, v :: vs => match f c v, castL f cs vs with
    | some (b, u), some (b', us) => some (b && b', u :: us)
    | _, _ => none
  | _, _ => none
def castO (sh : List Sh) (H : List Ob) : AV → Option (Bool × AV)
  | .own id key ver => match Evl.ownAt H id with
    | some (sh', len, el) => if isK0 key && eqSh sh' sh then some (Nat.beq len ver, .isz len sh el) else none
    | none => none
  | v => (castRow sh v).map fun p => (true, .isz p.1 sh p.2)
def castU (H : List Ob) : AV → Option (Bool × AV)
  | .own id key ver => match Evl.ownAt H id with
    | some (sh, len, el) => if isK0 key then some (Nat.beq len ver, .isz len sh el) else none
    | none => none
  | v => if bnd 0 v then some (true, v) else none
def castA (H : List Ob) : Nat → Ct → AV → Option (Bool × AV)
  | 0, _, _ => none
  | _ + 1, .any, v => if bnd 0 v then some (true, v) else none
  | _ + 1, .row sh, v => castO sh H v
  | d + 1, .tup l, .tup vs => (castL (castA H d) l vs).map fun p => (p.1, .tup p.2)
  | d + 1, .agg l, .agg vs => (castL (castA H d) l vs).map fun p => (p.1, .agg p.2)
  | d + 1, .aut, .tup vs => (castL (castA H d) (vs.map fun _ => .aut) vs).map fun p => (p.1, .tup p.2)
  | d + 1, .aut, .agg vs => (castL (castA H d) (vs.map fun _ => .aut) vs).map fun p => (p.1, .agg p.2)
  | _ + 1, .aut, v => castU H v
  | _ + 1, _, _ => none
def castR (ct : Ct) (H : List Ob) : Res → Option (Bool × Res)
  | .ret v => (castA H 9 ct v).map fun p => (p.1, .ret p.2)
  | .pan => some (true, .pan)
abbrev Fin (ρ : Nm) (A : Nat → Prop) (w : World) : Nat → Prop := fun b => A b ∨ (ρ.base ≤ b ∧ b < w.heap.size)
section
variable {ρ : Nm} {A : Nat → Prop} {w : World} {H : List Ob}
theorem Rv.fin {a : AV} {u : Value} {n : Nat → Prop} (h : Rv ρ A w n a u) : Rv ρ (Fin ρ A w) w n a u := h.mono (fun _ h => h) (Nle.refl _ _) (fun _ h => .inl h) (fun _ _ => rfl)
theorem Mem.thaw (h : Mem w0 ρ A w H) {id : Nat} {sh : List Sh} {len : Nat} {el : Nat → Nat → Dt} (ho : Evl.ownAt H id = some (sh, len, el)) {n : Nat → Prop} {u : Value} (hv : Rv ρ A w n (.own id k0 len) u) : Rv ρ (Fin ρ A w) w None_ (.isz len sh el) u := by
  cases hv with
  | own hn hle hone hv =>
    obtain ⟨h1, _, _⟩ := h.ownAt ho
    rw [hv h1]
    unfold Evl.ownAt at ho
    split at ho
    · rename_i t sh' len' el' hH
      simp only [Option.some.injEq, Prod.mk.injEq] at ho
      obtain ⟨rfl, rfl, rfl⟩ := ho
      obtain ⟨_, _, hr⟩ := h.freeze hH
      refine hr.mono (fun _ h => h) (Nle.none _ _ fun _ h => h) (fun b hb => hb.imp (fun x => x) fun e => ?_) (fun _ _ => rfl)
      obtain ⟨_, _, xs, hx, _⟩ := h.own hH
      rw [h.bs]
      exact hx.lt b e
    · rename_i t sh' len' el' hH
      simp only [Option.some.injEq, Prod.mk.injEq] at ho
      obtain ⟨rfl, rfl, rfl⟩ := ho
      obtain ⟨_, _, h3⟩ := h.hp.obj id _ hH
      exact h3.fin
    · simp at ho
theorem castO_rv (h : Mem w0 ρ A w H) {sh : List Sh} {a b : AV} {u : Value} {n : Nat → Prop} (hc : castO sh H a = some (true, b)) (hr : Rv ρ A w n a u) : Rv ρ (Fin ρ A w) w None_ b u := by
  unfold castO at hc
  split at hc
  · rename_i id key ver
    split at hc
    · rename_i sh' len el ho
      split at hc
      · rename_i hk
        simp only [Bool.and_eq_true] at hk
        obtain rfl := isK0_eq hk.1
        obtain rfl := eqSh_eq hk.2
        simp only [Option.some.injEq, Prod.mk.injEq, Nat.beq_eq] at hc
        obtain ⟨rfl, rfl⟩ := hc
        exact h.thaw ho hr
      · simp at hc
    · simp at hc
  · obtain ⟨⟨m, el⟩, hp, h2⟩ := Option.map_eq_some_iff.1 hc
    simp only [Prod.mk.injEq, true_and] at h2
    subst h2
    exact ((castRow_rv hp hr).bnd0 rfl).fin
theorem castU_rv (h : Mem w0 ρ A w H) {a b : AV} {u : Value} {n : Nat → Prop} (hc : castU H a = some (true, b)) (hr : Rv ρ A w n a u) : Rv ρ (Fin ρ A w) w None_ b u := by
  unfold castU at hc
  split at hc
  · split at hc
    · rename_i sh' len el ho
      split at hc
      · rename_i hk
        obtain rfl := isK0_eq hk
        simp only [Option.some.injEq, Prod.mk.injEq, Nat.beq_eq] at hc
        obtain ⟨rfl, rfl⟩ := hc
        exact h.thaw ho hr
      · simp at hc
    · simp at hc
  · split at hc
    · rename_i hb
      simp only [Option.some.injEq, Prod.mk.injEq, true_and] at hc
      subst hc
      exact (hr.bnd0 hb).fin
    · simp at hc
theorem castL_rv {f : Ct → AV → Option (Bool × AV)} {n : Nat → Prop} (hf : ∀ c a b u, f c a = some (true, b) → Rv ρ A w n a u → Rv ρ (Fin ρ A w) w None_ b u) : ∀ {l : List Ct} {vs us : List AV} {xs : List Value}, castL f l vs = some (true, us) → Rvs ρ A w n vs xs → Rvs ρ (Fin ρ A w) w None_ us xs
  | [], [], us, xs, h, hr => by
    simp only [castL, Option.some.injEq, Prod.mk.injEq, true_and] at h
    subst h
    cases hr.nil_inv
    exact .nil
  | [], _ :: _, us, xs, h, hr => by simp [castL] at h
  | _ :: _, [], us, xs, h, hr => by simp [castL] at h
  | c :: l, v :: vs, us, xs, h, hr => by
    simp only [castL] at h
    split at h
    · rename_i b u b' us' h1 h2
      simp only [Option.some.injEq, Prod.mk.injEq, Bool.and_eq_true] at h
      obtain ⟨⟨rfl, rfl⟩, rfl⟩ := h
      obtain ⟨x, xs', rfl, hx, hxs⟩ := hr.cons_inv
      exact .cons (hf _ _ _ _ h1 hx) (castL_rv hf h2 hxs)
    · simp at h
theorem castA_rv (h : Mem w0 ρ A w H) {n : Nat → Prop} : ∀ (d : Nat) (c : Ct) (a b : AV) (u : Value), castA H d c a = some (true, b) → Rv ρ A w n a u → Rv ρ (Fin ρ A w) w None_ b u
  | 0, _, _, _, _, hc, _ => by simp [castA] at hc
  | d + 1, c, a, b, u, hc, hr => by
    unfold castA at hc
    split at hc
    · rename_i h1; cases h1
    · split at hc
      · rename_i hb
        simp only [Option.some.injEq, Prod.mk.injEq, true_and] at hc
        subst hc
        exact (hr.bnd0 hb).fin
      · simp at hc
    · exact castO_rv h hc hr
    · rename_i h1
      obtain rfl : _ = d := by simpa using h1.symm
      obtain ⟨⟨p, us⟩, hp, h2⟩ := Option.map_eq_some_iff.1 hc
      simp only [Prod.mk.injEq] at h2
      obtain ⟨rfl, rfl⟩ := h2
      obtain ⟨xs, rfl, hxs⟩ := hr.of_tup
      have := castL_rv (castA_rv h _) hp hxs
      exact .tup this.1 this.2
    · rename_i h1
      obtain rfl : _ = d := by simpa using h1.symm
      obtain ⟨⟨p, us⟩, hp, h2⟩ := Option.map_eq_some_iff.1 hc
      simp only [Prod.mk.injEq] at h2
      obtain ⟨rfl, rfl⟩ := h2
      obtain ⟨xs, rfl, hxs⟩ := hr.of_agg
      have := castL_rv (castA_rv h _) hp hxs
      exact .agg this.1 this.2
    · rename_i h1
      obtain rfl : _ = d := by simpa using h1.symm
      obtain ⟨⟨p, us⟩, hp, h2⟩ := Option.map_eq_some_iff.1 hc
      simp only [Prod.mk.injEq] at h2
      obtain ⟨rfl, rfl⟩ := h2
      obtain ⟨xs, rfl, hxs⟩ := hr.of_tup
      have := castL_rv (castA_rv h _) hp hxs
      exact .tup this.1 this.2
    · rename_i h1
      obtain rfl : _ = d := by simpa using h1.symm
      obtain ⟨⟨p, us⟩, hp, h2⟩ := Option.map_eq_some_iff.1 hc
      simp only [Prod.mk.injEq] at h2
      obtain ⟨rfl, rfl⟩ := h2
      obtain ⟨xs, rfl, hxs⟩ := hr.of_agg
      have := castL_rv (castA_rv h _) hp hxs
      exact .agg this.1 this.2
    · exact castU_rv h hc hr
    · simp at hc
end
theorem spec_of_runC (hΓ : Γ.Ok Inv) (hI : Stable Inv) (hcf : CallSound Γ.P Inv cf) (hdf : DrawSound Γ.P Inv df) (hdl : DrawLen df) (hdk : DrawKeep df) {f : FuncId} {fn : Func} (hfn : Γ.P.funcs[f]? = some fn)
    {c : Code} (hb : fn.body = some c) (hlp : LoopsOk Γ cf df lp fn.ntmps c) {s : List AV → Option Res} (ct : Ct)
    (h : ∀ args r, s args = some r → args.length ≤ fn.ntmps ∧ ∃ q H', runFn Γ cf df lp fn args [] = some (q, H') ∧ castR ct H' q = some (true, r)) : SpecHolds Γ.P Inv f s := by
  intro args r hs ρ A w vs hA hi hv
  obtain ⟨hl, q, H', hrun, hcast⟩ := h args r hs
  have hm : Mem w { ρ with base := w.heap.size } A w [] := ⟨⟨fun id o ho => by simp at ho, fun i j o p b hi => by simp at hi⟩, Below.refl _ _, hA, rfl⟩
  refine (runFn_sound hΓ hI hi hcf hdf hdl hdk hfn hb hlp hl hrun hm (hv.mono (fun _ h => h.elim) (Nle.none _ _ fun _ h => h) (fun _ h => h) (fun _ _ => rfl))).mono ?_
  rintro e w' ⟨ρ', A', hm', hext, hres⟩
  refine ⟨hm'.bel, ?_⟩
  cases q with
  | ret v =>
    obtain ⟨⟨p, v'⟩, hp, h2⟩ := Option.map_eq_some_iff.1 hcast
    simp only [Prod.mk.injEq] at h2
    obtain ⟨rfl, rfl⟩ := h2
    obtain ⟨u, rfl, hu⟩ := hres
    refine ⟨u, rfl, (castA_rv hm' _ _ _ _ _ hp hu).mono (fun _ h => h) (Nle.none _ _ fun _ h => h) (fun b hb => ?_) (fun _ _ => rfl)⟩
    rcases hb with hb | ⟨hb1, hb2⟩
    · exact (hext.late b hb).imp id (fun hl => ⟨hl, hm'.lt b hb⟩)
    · exact .inr ⟨by rw [hm'.bs] at hb1; exact hb1, hb2⟩
  | pan =>
    simp only [castR, Option.some.injEq, Prod.mk.injEq, true_and] at hcast
    subst hcast
    exact hres
theorem spec_of_run (hΓ : Γ.Ok Inv) (hI : Stable Inv) (hcf : CallSound Γ.P Inv cf) (hdf : DrawSound Γ.P Inv df) (hdl : DrawLen df) (hdk : DrawKeep df) {f : FuncId} {fn : Func} (hfn : Γ.P.funcs[f]? = some fn)
    {c : Code} (hb : fn.body = some c) (hlp : LoopsOk Γ cf df lp fn.ntmps c) {s : List AV → Option Res}
    (h : ∀ args r, s args = some r → args.length ≤ fn.ntmps ∧ okRes r = true ∧ ∃ H', runFn Γ cf df lp fn args [] = some (r, H')) : SpecHolds Γ.P Inv f s := by
  intro args r hs ρ A w vs hA hi hv
  obtain ⟨hl, hok, H', hrun⟩ := h args r hs
  have hm : Mem w { ρ with base := w.heap.size } A w [] := ⟨⟨fun id o ho => by simp at ho, fun i j o p b hi => by simp at hi⟩, Below.refl _ _, hA, rfl⟩
  refine (runFn_sound hΓ hI hi hcf hdf hdl hdk hfn hb hlp hl hrun hm (hv.mono (fun _ h => h.elim) (Nle.none _ _ fun _ h => h) (fun _ h => h) (fun _ _ => rfl))).mono ?_
  rintro e w' ⟨ρ', A', hm', hext, hres⟩
  refine ⟨hm'.bel, ?_⟩
  cases r with
  | ret v =>
    obtain ⟨u, rfl, hu⟩ := hres
    refine ⟨u, rfl, (hu.bnd0 hok).mono (fun _ h => h) (Nle.none _ _ fun _ h => h) (fun b hb => ?_) (fun _ _ => rfl)⟩
    exact (hext.late b hb).imp id (fun hl => ⟨hl, hm'.lt b hb⟩)
  | pan => exact hres
end
open Go.RowKit
inductive Acc where
  | none
  | rd (id : Nat)
  | wr (id : Nat)
  | nw (id : Nat)
  | pn
  | dd
  deriving Inhabited
def accP (fresh : Nat) : Plan → Acc
  | .load id _ _ _ => .rd id
  | .store id _ _ => .wr id
  | .new _ _ => .nw fresh
  | .newMap => .nw fresh
  | .mput id _ _ => .wr id
  | .mget id _ _ _ => .rd id
  | .mlen id => .rd id
  | .upd _ _ id _ => .wr id
  | .ver id _ _ _ => .rd id
  | .loadO id _ _ _ _ _ _ _ => .rd id
  | .storeO id _ _ _ _ _ _ => .wr id
  | .app id _ _ _ _ _ _ => .wr id
  | .appN _ _ _ _ => .nw fresh
  | .appF _ _ _ _ _ _ => .nw fresh
  | .newO _ _ _ _ => .nw fresh
  | .newC _ _ _ _ => .nw fresh
  | .vws _ _ id _ => .rd id
  | _ => .none
def memDep : Acc → Acc → Bool
  | .none, _ => false
  | _, .none => false
  | .pn, _ => false
  | _, .pn => false
  | .dd, _ => false
  | _, .dd => false
  | .rd _, .rd _ => false
  | .rd a, .wr b => Nat.beq a b
  | .rd a, .nw b => Nat.beq a b
  | .wr a, .rd b => Nat.beq a b
  | .wr a, .wr b => Nat.beq a b
  | .wr a, .nw b => Nat.beq a b
  | .nw a, .rd b => Nat.beq a b
  | .nw a, .wr b => Nat.beq a b
  | .nw a, .nw b => Nat.beq a b
def isPan : Plan → Bool
  | .pan => true
  | .spc _ _ .pan => true
  | _ => false
inductive Kd where
  | fix (a : Acc) (u : AV)
  | act (p : Plan)
def kindD (Γ : Cx) (ops : Array Oper) (dd : Nat → Bool) (i : Nat) (tm : List AV) : Option Kd :=
  match ops[i]? with
  | none => none
  | some o =>
    bif dd i then some (.fix .dd .junk)
    else match wantA ops tm o with
      | none => none
      | some g =>
        bif g then
          match plan Γ (opd tm) o.op with
          | none => none
          | some (c, p) => bif c then (bif isPan p then some (.fix .pn .junk) else some (.act p)) else none
        else some (.fix .none (.raw undef))
def isDd : Acc → Bool
  | .dd => true
  | _ => false
def isPn : Acc → Bool
  | .pn => true
  | _ => false
def isWr : Acc → Bool
  | .wr _ => true
  | _ => false
def isBl (a : Acc) : Bool := isPn a || isDd a
def dstD (ops : Array Oper) (i : Nat) : Option Tmp := (ops[i]?).bind (·.dst)
def stepD (Γ : Cx) (ops : Array Oper) (m : Nat) (dd : Nat → Bool) (i : Nat) (st : St) : Option (Acc × St) :=
  match kindD Γ ops dd i st.tm with
  | none => none
  | some (.fix a u) => some (a, ⟨putA st.tm (dstD ops i) u, st.hp⟩)
  | some (.act p) =>
    match doPlan (m + i) st.hp p with
    | none => none
    | some (v, H) => some (accP (m + i) p, ⟨putA st.tm (dstD ops i) v, H⟩)
def looks (ops : Array Oper) (o : Oper) : List Tmp := o.looksAt ops
def tempDep (ops : Array Oper) (x y : Oper) : Bool :=
  (match x.dst with
   | some d => (looks ops y).contains d || y.dst == some d
   | none => false) ||
  (match y.dst with
   | some d => (looks ops x).contains d
   | none => false)
section
variable {Γ : Cx} {ops : Array Oper} {m : Nat}
theorem plan_congr {x y : Operand → AV} {op : Op} (h : ∀ z ∈ op.operands, x z = y z) : plan Γ x op = plan Γ y op := by
  cases op <;> simp only [Op.operands] at h <;> simp only [plan]
  case build t ps =>
    have : (ps.toList.map fun p => (p.1, x p.2)) = (ps.toList.map fun p => (p.1, y p.2)) := List.map_congr_left fun p hp => by rw [h p.2 (by simp; exact ⟨p.1, by simpa using hp⟩)]
    rw [this]
  case buildSlice t n ps =>
    have : (ps.toList.map fun p => (p.1, x p.2)) = (ps.toList.map fun p => (p.1, y p.2)) := List.map_congr_left fun p hp => by rw [h p.2 (by simp; exact ⟨p.1, by simpa using hp⟩)]
    rw [this]
  case makeFunc f first cap =>
    have : cap.toList.map x = cap.toList.map y := List.map_congr_left fun p hp => h p (by simp at hp ⊢; exact .inr hp)
    rw [this]
  case slice t z lo hi mx =>
    have h0 : x z = y z := h z (by simp)
    have h1 : lo.map x = lo.map y := by
      cases lo with
      | none => rfl
      | some q => simp only [Option.map_some]; rw [h q (by simp)]
    have h2 : hi.map x = hi.map y := by
      cases hi with
      | none => rfl
      | some q => simp only [Option.map_some]; rw [h q (by simp)]
    rw [h0, h1, h2]
    cases mx with
    | none => rfl
    | some q => simp only []; rw [h q (by simp)]
  case call c =>
    obtain ⟨callee, args, ats⟩ := c
    simp only [Call.operands] at h ⊢
    have ha : args.toList.map x = args.toList.map y := List.map_congr_left fun p hp => h p (by simp at hp ⊢; exact .inr hp)
    cases callee with
    | value f =>
      have hf := h f (by simp)
      show callA Γ (x f) (args.toList.map x) = callA Γ (y f) (args.toList.map y)
      rw [hf, ha]
    | invoke r nm => rfl
    | builtin b =>
      cases b <;> simp only [ha]
      case append =>
        split
        · rename_i z z' t t' hz ht
          have h1 : z ∈ args.toList := by rw [hz]; simp
          have h2 : z' ∈ args.toList := by rw [hz]; simp
          rw [h z (by simpa using h1), h z' (by simpa using h2)]
        · rfl
      case len =>
        split
        · rename_i z t hz ht
          have : z ∈ args.toList := by rw [hz]; simp
          rw [h z (by simpa using this)]
        · rfl
  case makeMap t r =>
    cases r with
    | none => rfl
    | some q =>
      have := h q (by simp)
      simp only [this]
  all_goals (first | rfl | (simp only [List.mem_toArray, List.mem_cons, List.not_mem_nil, or_false, forall_eq_or_imp, forall_eq] at h; simp only [h]; done) | (simp at h; simp [h]; done) | skip)
theorem getT_put {tm : List AV} {dst : Option Tmp} {v : AV} {t : Tmp} (h : ∀ d, dst = some d → d ≠ t) : getT (putA tm dst v) t = getT tm t := by
  cases dst with
  | none => rfl
  | some d => simp only [getT, putA]; rw [List.getElem?_set_ne (h d rfl)]
theorem opd_put {tm : List AV} {dst : Option Tmp} {v : AV} {z : Operand} (h : ∀ d, dst = some d → z ≠ .tmp d) : opd (putA tm dst v) z = opd tm z := by
  cases z with
  | tmp t => exact getT_put fun d hd e => h d hd (by rw [e])
  | _ => rfl
theorem putA_comm {tm : List AV} {x y : Option Tmp} {u v : AV} (h : ∀ d, x = some d → y ≠ some d) : putA (putA tm x u) y v = putA (putA tm y v) x u := by
  cases x with
  | none => rfl
  | some d => cases y with
    | none => rfl
    | some e => simp only [putA]; exact List.set_comm _ _ (fun e' => h d rfl (by rw [e']))
theorem looks_op {o : Oper} {t : Tmp} (h : Operand.tmp t ∈ o.op.operands) : t ∈ looks ops o :=
  List.mem_append_left _ (List.mem_filterMap.2 ⟨.tmp t, by simpa using h, rfl⟩)
theorem plan_put {tm : List AV} {o : Oper} {dst : Option Tmp} {v : AV} (h : ∀ d, dst = some d → d ∉ looks ops o) : plan Γ (opd (putA tm dst v)) o.op = plan Γ (opd tm) o.op :=
  plan_congr fun z hz => opd_put fun d hd e => h d hd (looks_op (by rw [← e]; exact hz))
theorem wantA_put {tm : List AV} {o : Oper} {dst : Option Tmp} {v : AV} (h : ∀ d, dst = some d → d ∉ looks ops o) : wantA ops (putA tm dst v) o = wantA ops tm o := by
  unfold wantA
  cases hg : o.guard with
  | none => rfl
  | some jw =>
    obtain ⟨j, want⟩ := jw
    simp only
    cases hd : (ops[j]?).bind (·.dst) with
    | none => rfl
    | some d =>
      simp only
      rw [getT_put fun e he e' => h e he (by subst e'; simp [looks, Oper.looksAt, hg, hd])]
theorem kindD_put {dd : Nat → Bool} {i : Nat} {tm : List AV} {dst : Option Tmp} {v : AV} (h : ∀ o, ops[i]? = some o → ∀ d, dst = some d → d ∉ looks ops o) : kindD Γ ops dd i (putA tm dst v) = kindD Γ ops dd i tm := by
  unfold kindD
  cases ho : ops[i]? with
  | none => rfl
  | some o => simp only [wantA_put (h o ho), plan_put (h o ho)]
theorem newOb_at {f : Nat} {H H1 : List Ob} {o : Ob} {v u : AV} (h : newOb f H o v = some (u, H1)) (hf : f < H.length) : u = v ∧ H[f]? = some .free ∧ H1 = H.set f o := by
  have hb : Nat.beq f H.length = false := by rw [Bool.eq_false_iff]; simp only [ne_eq, Nat.beq_eq]; omega
  simp only [newOb, hb, Bool.false_eq_true, if_false] at h
  split at h
  · rename_i hfr
    simp only [Option.some.injEq, Prod.mk.injEq] at h
    obtain ⟨rfl, rfl⟩ := h
    exact ⟨rfl, hfr, rfl⟩
  · simp at h
theorem newOb_of {f : Nat} {H : List Ob} {o : Ob} {v : AV} (h : H[f]? = some .free) : newOb f H o v = some (v, H.set f o) := by
  have hlt := (List.getElem?_eq_some_iff.1 h).1
  have hb : Nat.beq f H.length = false := by rw [Bool.eq_false_iff]; simp only [ne_eq, Nat.beq_eq]; omega
  simp only [newOb, hb, Bool.false_eq_true, if_false, h]
theorem planO_acc {f : Nat} {H H1 : List Ob} {p : Plan} {c : Bool} {u : AV} (h : planO f H p = some (c, u, H1)) (hf : f < H.length) :
    (∃ id, accP f p = .rd id ∧ H1 = H ∧ ∀ H' : List Ob, H'[id]? = H[id]? → planO f H' p = some (c, u, H')) ∨
      ∃ id o', (accP f p = .wr id ∨ accP f p = .nw id) ∧ H1 = H.set id o' ∧ ∀ H' : List Ob, H'[id]? = H[id]? → planO f H' p = some (c, u, H'.set id o') := by
  have hat : ∀ {H' : List Ob} {id : Nat}, H'[id]? = H[id]? → Evl.ownAt H' id = Evl.ownAt H id := fun e => by unfold Evl.ownAt; rw [e]
  cases p with
  | ver id key ver x =>
    simp only [planO] at h
    left
    refine ⟨id, rfl, ?_, fun H' he => ?_⟩
    · split at h
      · split at h
        · simp only [Option.some.injEq, Prod.mk.injEq] at h; exact h.2.2.symm
        · simp at h
      · split at h
        · split at h
          · simp only [Option.some.injEq, Prod.mk.injEq] at h; exact h.2.2.symm
          · simp at h
        · simp only [Option.some.injEq, Prod.mk.injEq] at h; exact h.2.2.symm
        · split at h
          · simp only [Option.some.injEq, Prod.mk.injEq] at h; exact h.2.2.symm
          · simp at h
        · simp at h
    · simp only [planO, hat he]
      split at h
      · rename_i ho
        split at h
        · rename_i hk
          simp only [Option.some.injEq, Prod.mk.injEq] at h
          obtain ⟨rfl, rfl, _⟩ := h
          simp only [hk, if_true]
        · simp at h
      · rename_i hn
        split at h
        · rename_i ho
          split at h
          · rename_i hk
            simp only [Option.some.injEq, Prod.mk.injEq] at h
            obtain ⟨rfl, rfl, _⟩ := h
            simp only [he.trans ho, hk, if_true]
          · simp at h
        · rename_i ho
          simp only [Option.some.injEq, Prod.mk.injEq] at h
          obtain ⟨rfl, rfl, _⟩ := h
          simp only [he.trans ho]
        · rename_i ho
          split at h
          · rename_i hk
            simp only [Option.some.injEq, Prod.mk.injEq] at h
            obtain ⟨rfl, rfl, _⟩ := h
            simp only [he.trans ho, hk, if_true]
          · simp at h
        · simp at h
  | loadO id key ver idx k off m ag =>
    simp only [planO] at h
    left
    split at h
    · rename_i sh len el ho
      split at h
      · rename_i hk
        cases ag with
        | true =>
          simp only [if_true, Option.some.injEq, Prod.mk.injEq] at h
          obtain ⟨rfl, rfl, rfl⟩ := h
          exact ⟨id, rfl, rfl, fun H' he => by simp only [planO, hat he, ho, hk, if_true]⟩
        | false =>
          simp only [Bool.false_eq_true, if_false] at h
          obtain ⟨x, hx, h2⟩ := Option.map_eq_some_iff.1 h
          simp only [Prod.mk.injEq] at h2
          obtain ⟨rfl, rfl, rfl⟩ := h2
          exact ⟨id, rfl, rfl, fun H' he => by simp only [planO, hat he, ho, hk, if_true, Bool.false_eq_true, if_false, hx, Option.map_some]⟩
      · simp at h
    · rename_i hn
      split at h
      · rename_i ho
        split at h
        · rename_i hk
          cases ag with
          | true =>
            simp only [if_true, Option.some.injEq, Prod.mk.injEq] at h
            obtain ⟨rfl, rfl, rfl⟩ := h
            exact ⟨id, rfl, rfl, fun H' he => by simp only [planO, hat he, hn, he.trans ho, hk, if_true]⟩
          | false =>
            simp only [Bool.false_eq_true, if_false] at h
            obtain ⟨x, hx, h2⟩ := Option.map_eq_some_iff.1 h
            simp only [Prod.mk.injEq] at h2
            obtain ⟨rfl, rfl, rfl⟩ := h2
            exact ⟨id, rfl, rfl, fun H' he => by simp only [planO, hat he, hn, he.trans ho, hk, if_true, Bool.false_eq_true, if_false, hx, Option.map_some]⟩
        · simp at h
      · rename_i ho
        split at h
        · rename_i hk
          cases ag with
          | true =>
            simp only [if_true, Option.some.injEq, Prod.mk.injEq] at h
            obtain ⟨rfl, rfl, rfl⟩ := h
            exact ⟨id, rfl, rfl, fun H' he => by simp only [planO, hat he, hn, he.trans ho, hk, if_true]⟩
          | false =>
            simp only [Bool.false_eq_true, if_false] at h
            obtain ⟨x, hx, h2⟩ := Option.map_eq_some_iff.1 h
            simp only [Prod.mk.injEq] at h2
            obtain ⟨rfl, rfl, rfl⟩ := h2
            exact ⟨id, rfl, rfl, fun H' he => by simp only [planO, hat he, hn, he.trans ho, hk, if_true, Bool.false_eq_true, if_false, hx, Option.map_some]⟩
        · simp at h
      · rename_i ho
        split at h
        · rename_i hk
          simp only [Option.some.injEq, Prod.mk.injEq] at h
          obtain ⟨rfl, rfl, rfl⟩ := h
          exact ⟨id, rfl, rfl, fun H' he => by simp only [planO, hat he, hn, he.trans ho, hk, if_true]⟩
        · simp at h
      · simp at h
  | storeO id key ver idx k off cs =>
    simp only [planO] at h
    right
    split at h
    · rename_i t sh len el ho
      split at h
      · rename_i hk
        obtain ⟨ds, hds, h2⟩ := Option.map_eq_some_iff.1 h
        simp only [Prod.mk.injEq] at h2
        obtain ⟨rfl, rfl, rfl⟩ := h2
        exact ⟨id, _, .inl rfl, rfl, fun H' he => by simp only [planO, he, ho, hk, if_true, hds, Option.map_some]⟩
      · simp at h
    · rename_i t k' len bs ho
      split at h
      · rename_i hk
        simp only [Option.some.injEq, Prod.mk.injEq] at h
        obtain ⟨rfl, rfl, rfl⟩ := h
        exact ⟨id, _, .inl rfl, rfl, fun H' he => by simp only [planO, he, ho, hk, if_true]⟩
      · simp at h
    · rename_i ho
      split at h
      · rename_i hk
        split at h
        · simp only [Option.some.injEq, Prod.mk.injEq] at h
          obtain ⟨rfl, rfl, rfl⟩ := h
          exact ⟨id, _, .inl rfl, rfl, fun H' he => by simp only [planO, he, ho, hk, if_true]⟩
        · simp at h
      · simp at h
    · simp at h
  | app id key ver t sh m el =>
    simp only [planO] at h
    right
    split at h
    · rename_i ho
      split at h
      · rename_i hk
        simp only [Option.some.injEq, Prod.mk.injEq] at h
        obtain ⟨rfl, rfl, rfl⟩ := h
        exact ⟨id, _, .inl rfl, rfl, fun H' he => by simp only [planO, he, ho, hk, if_true]⟩
      · simp at h
    · rename_i ho
      split at h
      · rename_i hk
        simp only [Option.some.injEq, Prod.mk.injEq] at h
        obtain ⟨rfl, rfl, rfl⟩ := h
        exact ⟨id, _, .inl rfl, rfl, fun H' he => by simp only [planO, he, ho, hk, if_true]⟩
      · simp at h
    · simp at h
  | appF t sh len el0 m el =>
    simp only [planO] at h
    right
    obtain ⟨q, hq, h2⟩ := Option.map_eq_some_iff.1 h
    simp only [Prod.mk.injEq] at h2
    obtain ⟨rfl, rfl⟩ := h2
    obtain ⟨rfl, hfr, rfl⟩ := newOb_at hq hf
    refine ⟨f, _, .inr rfl, rfl, fun H' he => ?_⟩
    simp only [planO, newOb_of (he.trans hfr), Option.map_some]
  | appN t sh m el =>
    simp only [planO] at h
    right
    obtain ⟨q, hq, h2⟩ := Option.map_eq_some_iff.1 h
    simp only [Prod.mk.injEq] at h2
    obtain ⟨rfl, rfl⟩ := h2
    obtain ⟨rfl, hfr, rfl⟩ := newOb_at hq hf
    refine ⟨f, _, .inr rfl, rfl, fun H' he => ?_⟩
    simp only [planO, newOb_of (he.trans hfr), Option.map_some]
  | newO t sh len el =>
    simp only [planO] at h
    right
    obtain ⟨q, hq, h2⟩ := Option.map_eq_some_iff.1 h
    simp only [Prod.mk.injEq] at h2
    obtain ⟨rfl, rfl⟩ := h2
    obtain ⟨rfl, hfr, rfl⟩ := newOb_at hq hf
    refine ⟨f, _, .inr rfl, rfl, fun H' he => ?_⟩
    simp only [planO, newOb_of (he.trans hfr), Option.map_some]
  | newC t k len cs =>
    simp only [planO] at h
    right
    obtain ⟨q, hq, h2⟩ := Option.map_eq_some_iff.1 h
    simp only [Prod.mk.injEq] at h2
    obtain ⟨rfl, rfl⟩ := h2
    obtain ⟨rfl, hfr, rfl⟩ := newOb_at hq hf
    refine ⟨f, _, .inr rfl, rfl, fun H' he => ?_⟩
    simp only [planO, newOb_of (he.trans hfr), Option.map_some]
  | _ => simp [planO] at h
theorem planO_doPlan {f : Nat} {H : List Ob} {p : Plan} {q : AV × List Ob} (h : planO f H p = some (true, q)) : doPlan f H p = some q := by rw [doPlan_O h]; rfl
theorem doPlan_kindO {f : Nat} {H H1 : List Ob} {p : Plan} {u : AV} (hp : condO (planO f H p) = some (u, H1)) (hf : f < H.length) :
    (H1 = H ∧ (accP f p = .none ∨ ∃ id, accP f p = .rd id ∧ ∀ (H' : List Ob), H'[id]? = H[id]? → doPlan f H' p = some (u, H')) ∧ (accP f p = .none → ∀ H' : List Ob, doPlan f H' p = some (u, H'))) ∨
      (∃ id o' , (accP f p = .wr id ∨ accP f p = .nw id) ∧ H1 = H.set id o' ∧ ∀ H' : List Ob, H'[id]? = H[id]? → H'.length = H.length → doPlan f H' p = some (u, H'.set id o')) := by
  rcases planO_acc (condO_some hp) hf with ⟨id, h1, h2, h3⟩ | ⟨id, o', h1, h2, h3⟩
  · exact .inl ⟨h2, .inr ⟨id, h1, fun H' he => planO_doPlan (h3 H' he)⟩, fun e => by rw [h1] at e; cases e⟩
  · exact .inr ⟨id, o', h1, h2, fun H' he _ => planO_doPlan (h3 H' he)⟩
theorem view1_at {H H' : List Ob} {i : Nat} (he : H'[i]? = H[i]?) (v : AV) : view1 H' i v = view1 H i v := by
  unfold view1
  cases v <;> simp only [Evl.ownAt, he]
theorem viewL1_at {H H' : List Ob} {i : Nat} (he : H'[i]? = H[i]?) : ∀ cs : List AV, viewL1 H' i cs = viewL1 H i cs
  | [] => rfl
  | c :: cs => by simp only [viewL1, view1_at he, viewL1_at he cs]
theorem viewA_at {H H' : List Ob} {i : Nat} (he : H'[i]? = H[i]?) (v : AV) : viewA H' i v = viewA H i v := by
  unfold viewA
  cases v <;> simp only [viewL1_at he, view1_at he]
theorem viewL_at {H H' : List Ob} {i : Nat} (he : H'[i]? = H[i]?) : ∀ cs : List AV, viewL H' i cs = viewL H i cs
  | [] => rfl
  | c :: cs => by simp only [viewL, viewA_at he, viewL_at he cs]
theorem mgetF_at {H H1 : List Ob} {dk : Dk} {mf : MF} {k z u : AV} {ok : Bool} (H' : List Ob) (h : (mgetF H dk mf k z ok).run = some (u, H1)) : (mgetF H' dk mf k z ok).run = some (u, H') := by
  unfold mgetF at h ⊢
  cases hk : kyOf dk k with
  | none => rw [hk] at h; cases h
  | some key =>
    rw [hk] at h
    simp only at h ⊢
    cases mf with
    | dat s f =>
      simp only [Tr.run] at h ⊢
      cases hf : (f key).isSome <;> rw [hf] at h <;> simp only [cond_true, cond_false, Option.some.injEq, Prod.mk.injEq] at h ⊢ <;> exact ⟨h.1, trivial⟩
    | own rid f =>
      cases z <;> simp only [Tr.run, reduceCtorEq, Option.some.injEq, Prod.mk.injEq] at h ⊢
      exact ⟨h.1, trivial⟩
theorem mputF_at {H H1 : List Ob} {id : Nat} {dk : Dk} {cnt : Nat} {mf : MF} {k v u : AV} (h : (mputF H id dk cnt mf k v).run = some (u, H1)) :
    ∃ o', H1 = H.set id o' ∧ ∀ H' : List Ob, (mputF H' id dk cnt mf k v).run = some (u, H'.set id o') := by
  unfold mputF at h ⊢
  cases hk : kyOf dk k with
  | none => rw [hk] at h; cases h
  | some key =>
    rw [hk] at h
    simp only at h ⊢
    cases mf with
    | dat s f =>
      simp only at h ⊢
      cases hd : dtOf s v with
      | none => rw [hd] at h; cases h
      | some d =>
        rw [hd] at h
        simp only [Tr.run, Option.some.injEq, Prod.mk.injEq] at h ⊢
        exact ⟨_, h.2.symm, fun H' => ⟨h.1, rfl⟩⟩
    | own rid f =>
      cases v <;> simp only [Tr.run, reduceCtorEq] at h ⊢
      rename_i rid' key' ver
      cases hb : Nat.beq rid rid' with
      | false => rw [hb] at h; cases h
      | true =>
        rw [hb] at h
        simp only [cond_true, Tr.run] at h ⊢
        cases hc : kyEq key' key with
        | false => rw [hc] at h; cases h
        | true =>
          rw [hc] at h
          simp only [cond_true, Option.some.injEq, Prod.mk.injEq] at h ⊢
          exact ⟨_, h.2.symm, fun H' => ⟨h.1, rfl⟩⟩
theorem doPlan_kind {f : Nat} {H H1 : List Ob} {p : Plan} {u : AV} (hp : doPlan f H p = some (u, H1)) (hf : f < H.length) :
    (H1 = H ∧ (accP f p = .none ∨ ∃ id, accP f p = .rd id ∧ ∀ (H' : List Ob), H'[id]? = H[id]? → doPlan f H' p = some (u, H')) ∧ (accP f p = .none → ∀ H' : List Ob, doPlan f H' p = some (u, H'))) ∨
      (∃ id o' , (accP f p = .wr id ∨ accP f p = .nw id) ∧ H1 = H.set id o' ∧ ∀ H' : List Ob, H'[id]? = H[id]? → H'.length = H.length → doPlan f H' p = some (u, H'.set id o')) := by
  cases p with
  | val x => simp only [doPlan, Option.some.injEq, Prod.mk.injEq] at hp; obtain ⟨rfl, rfl⟩ := hp; exact .inl ⟨rfl, .inl rfl, fun _ _ => rfl⟩
  | spc ff args q => cases q with
    | ret x => simp only [doPlan, Option.some.injEq, Prod.mk.injEq] at hp; obtain ⟨rfl, rfl⟩ := hp; exact .inl ⟨rfl, .inl rfl, fun _ _ => rfl⟩
    | pan => simp [doPlan, planO, condO] at hp
  | load id off k ag =>
    have hr : ∀ (H' : List Ob), H'[id]? = H[id]? → doPlan f H' (.load id off k ag) = some (u, H') := by
      intro H' he
      simp only [doPlan] at hp ⊢
      rw [he]
      split at hp
      · rename_i cs t ho
        split at hp
        · rename_i hle
          rw [if_pos hle]
          cases ag with
          | true => simp only [if_true, Option.some.injEq, Prod.mk.injEq] at hp ⊢; exact ⟨hp.1, trivial⟩
          | false =>
            simp only [Bool.false_eq_true, if_false] at hp ⊢
            obtain ⟨c, hc, h2⟩ := Option.map_eq_some_iff.1 hp
            simp only [Prod.mk.injEq] at h2
            rw [hc, ← h2.1]; rfl
        · simp at hp
      · simp at hp
    have h1 : H1 = H := by
      simp only [doPlan] at hp
      split at hp
      · split at hp
        · cases ag with
          | true => simp only [if_true, Option.some.injEq, Prod.mk.injEq] at hp; exact hp.2.symm
          | false =>
            simp only [Bool.false_eq_true, if_false] at hp
            obtain ⟨c, hc, h2⟩ := Option.map_eq_some_iff.1 hp
            simp only [Prod.mk.injEq] at h2
            exact h2.2.symm
        · simp at hp
      · simp at hp
    exact .inl ⟨h1, .inr ⟨id, rfl, hr⟩, fun h => by simp [accP] at h⟩
  | mget id k z ok =>
    simp only [doPlan] at hp
    split at hp
    · rename_i es ho
      obtain ⟨q, hq, h2⟩ := Option.map_eq_some_iff.1 hp
      simp only [Prod.mk.injEq] at h2
      obtain ⟨rfl, rfl⟩ := h2
      refine .inl ⟨rfl, .inr ⟨id, rfl, fun H' he => ?_⟩, fun h => by simp [accP] at h⟩
      simp only [doPlan, he, ho, hq, Option.map_some]
    · rename_i dk cnt mf ho
      obtain ⟨rfl, key, hkey, hg⟩ := mgetF_some hp
      refine .inl ⟨rfl, .inr ⟨id, rfl, fun H' he => ?_⟩, fun h => by simp [accP] at h⟩
      simp only [doPlan, he, ho]
      exact mgetF_at H' hp
    · simp at hp
  | mlen id =>
    simp only [doPlan] at hp
    split at hp
    · rename_i es ho
      simp only [Option.some.injEq, Prod.mk.injEq] at hp
      obtain ⟨rfl, rfl⟩ := hp
      exact .inl ⟨rfl, .inr ⟨id, rfl, fun H' he => by simp only [doPlan, he, ho]⟩, fun h => by simp [accP] at h⟩
    · rename_i dk cnt mf ho
      simp only [Option.some.injEq, Prod.mk.injEq] at hp
      obtain ⟨rfl, rfl⟩ := hp
      exact .inl ⟨rfl, .inr ⟨id, rfl, fun H' he => by simp only [doPlan, he, ho]⟩, fun h => by simp [accP] at h⟩
    · simp at hp
  | new cs t =>
    simp only [doPlan] at hp
    obtain ⟨rfl, hfr, rfl⟩ := newOb_at hp hf
    refine .inr ⟨f, .cells cs t, .inr rfl, rfl, fun H' he hl => ?_⟩
    simp only [doPlan]
    exact newOb_of (he.trans hfr)
  | newMap =>
    simp only [doPlan] at hp
    obtain ⟨rfl, hfr, rfl⟩ := newOb_at hp hf
    refine .inr ⟨f, .map [], .inr rfl, rfl, fun H' he hl => ?_⟩
    simp only [doPlan]
    exact newOb_of (he.trans hfr)
  | store id off cs =>
    simp only [doPlan] at hp
    split at hp
    · rename_i bs t ho
      split at hp
      · rename_i hle
        simp only [Option.some.injEq, Prod.mk.injEq] at hp
        obtain ⟨rfl, rfl⟩ := hp
        refine .inr ⟨id, .cells (seg bs off cs) t, .inl rfl, rfl, fun H' he hl => ?_⟩
        simp only [doPlan]
        rw [he, ho]
        simp only [hle, if_true]
      · simp at hp
    · simp at hp
  | mput id k v =>
    simp only [doPlan] at hp
    split at hp
    · rename_i es ho
      obtain ⟨es', hes, h2⟩ := Option.map_eq_some_iff.1 hp
      simp only [Prod.mk.injEq] at h2
      obtain ⟨rfl, rfl⟩ := h2
      refine .inr ⟨id, .map es', .inl rfl, rfl, fun H' he hl => ?_⟩
      simp only [doPlan, he, ho, hes, Option.map_some]
    · rename_i dk cnt mf ho
      obtain ⟨o', rfl, hall⟩ := mputF_at hp
      exact .inr ⟨id, o', .inl rfl, rfl, fun H' he hl => by simp only [doPlan, he, ho]; exact hall H'⟩
    · simp at hp
  | upd ff args id s =>
    simp only [doPlan] at hp
    split at hp
    · rename_i cs t ho
      split at hp
      · rename_i hb
        obtain ⟨q, hq, h2⟩ := Option.bind_eq_some_iff.1 hp
        obtain ⟨cs', rfl, hl, hsv, hsc, rfl⟩ := updEnd_some h2
        refine .inr ⟨id, .cells cs' t, .inl rfl, rfl, fun H' he _ => ?_⟩
        simp only [doPlan, he, ho, hb, if_true, hq, Option.bind_some]
        simp [updEnd, hl, hsv, hsc]
      · simp at hp
    · simp at hp
  | vws ff args id s =>
    simp only [doPlan] at hp
    obtain ⟨as, hv, hs, hsc, rfl⟩ := vwRun_some hp
    refine .inl ⟨rfl, .inr ⟨id, rfl, fun H' he => ?_⟩, fun h => by simp [accP] at h⟩
    simp only [doPlan, viewL_at he, hv, vwRun, cond_true, hs, Option.bind_some, vwEnd, hsc, if_true]
  | call ff args => simp [doPlan, planO, condO] at hp
  | round id args => simp [doPlan, planO, condO] at hp
  | pan => simp [doPlan, planO, condO] at hp
  | ver id key ver x => exact doPlan_kindO (by simpa only [doPlan] using hp) hf
  | loadO id key ver idx k off m ag => exact doPlan_kindO (by simpa only [doPlan] using hp) hf
  | storeO id key ver idx k off cs => exact doPlan_kindO (by simpa only [doPlan] using hp) hf
  | app id key ver t sh m el => exact doPlan_kindO (by simpa only [doPlan] using hp) hf
  | appN t sh m el => exact doPlan_kindO (by simpa only [doPlan] using hp) hf
  | appF t sh len el0 m el => exact doPlan_kindO (by simpa only [doPlan] using hp) hf
  | newO t sh len el => exact doPlan_kindO (by simpa only [doPlan] using hp) hf
  | newC t k len cs => exact doPlan_kindO (by simpa only [doPlan] using hp) hf
theorem doPlan_comm {f g : Nat} {H H1 H2 : List Ob} {p q : Plan} {u v : AV} (hp : doPlan f H p = some (u, H1)) (hq : doPlan g H1 q = some (v, H2)) (hm : memDep (accP f p) (accP g q) = false)
    (hf : f < H.length) (hg : g < H.length) :
    ∃ H1', doPlan g H q = some (v, H1') ∧ doPlan f H1' p = some (u, H2) ∧ H1'.length = H.length ∧ H1.length = H.length := by
  have hne : ∀ {a b : Nat}, Nat.beq a b = false → a ≠ b := fun h e => by subst e; simp at h
  rcases doPlan_kind hp hf with ⟨rfl, hp1, hp2⟩ | ⟨id, o', ha, rfl, hp1⟩
  · -- p only reads
    rcases doPlan_kind hq hg with ⟨rfl, hq1, hq2⟩ | ⟨id', o', ha', rfl, hq1⟩
    · exact ⟨H2, hq, hp, rfl, rfl⟩
    · refine ⟨_, hq, ?_, by simp, rfl⟩
      rcases hp1 with h0 | ⟨idp, hrd, hr⟩
      · exact hp2 h0 _
      · refine hr _ ?_
        have : idp ≠ id' := by
          rcases ha' with ha' | ha' <;> (rw [hrd, ha'] at hm; exact hne hm)
        rw [List.getElem?_set_ne (fun e => this e.symm)]
  · -- p writes
    rcases doPlan_kind hq (by simpa using hg) with ⟨rfl, hq1, hq2⟩ | ⟨id', o2, ha', rfl, hq1⟩
    · refine ⟨H, ?_, hp1 H rfl rfl, rfl, by simp⟩
      rcases hq1 with h0 | ⟨idq, hrd, hr⟩
      · exact hq2 h0 _
      · refine hr _ ?_
        have : id ≠ idq := by
          rcases ha with ha | ha <;> (rw [hrd, ha] at hm; exact hne hm)
        rw [List.getElem?_set_ne this]
    · have hn : id ≠ id' := by
        rcases ha with ha | ha <;> rcases ha' with ha' | ha' <;> (rw [ha', ha] at hm; exact hne hm)
      refine ⟨H.set id' o2, hq1 H (by rw [List.getElem?_set_ne hn]) (by simp), ?_, by simp, by simp⟩
      rw [List.set_comm _ _ hn]
      exact hp1 _ (by rw [List.getElem?_set_ne (fun e => hn e.symm)]) (by simp)
end
open Go.RowKit
def pathB (ops : Array Oper) : Nat → Nat → Nat → Bool
  | 0, _, _ => false
  | k + 1, i, x => match ops[i]? with
    | none => false
    | some o => o.after.toList.any fun e => Region.binds .any e && (Nat.beq e.on x || (Nat.blt x e.on && pathB ops k e.on x))
inductive RunA (Γ : Cx) (ops : Array Oper) (m : Nat) (dd : Nat → Bool) : List (Nat × Acc) → St → St → Prop
  | nil {s : St} : RunA Γ ops m dd [] s s
  | cons {i : Nat} {a : Acc} {L : List (Nat × Acc)} {s s1 s2 : St} (h : stepD Γ ops m dd i s = some (a, s1)) (t : RunA Γ ops m dd L s1 s2) : RunA Γ ops m dd ((i, a) :: L) s s2
def depB (ops : Array Oper) (x i : Nat × Acc) : Bool :=
  (match ops[x.1]?, ops[i.1]? with
   | some o, some q => tempDep ops o q
   | _, _ => true) || memDep x.2 i.2
section
variable {Γ : Cx} {ops : Array Oper} {m : Nat} {dd : Nat → Bool}
theorem stepD_len {i : Nat} {s s1 : St} {a : Acc} (h : stepD Γ ops m dd i s = some (a, s1)) (hl : m + i < s.hp.length) : s1.hp.length = s.hp.length := by
  unfold stepD at h
  cases hk : kindD Γ ops dd i s.tm with
  | none => simp [hk] at h
  | some kd =>
    simp only [hk] at h
    cases kd with
    | fix a' u => simp only [Option.some.injEq, Prod.mk.injEq] at h; obtain ⟨_, rfl⟩ := h; rfl
    | act p =>
      simp only at h
      cases hd : doPlan (m + i) s.hp p with
      | none => simp [hd] at h
      | some vH =>
        obtain ⟨v, H⟩ := vH
        simp only [hd, Option.some.injEq, Prod.mk.injEq] at h
        obtain ⟨_, rfl⟩ := h
        obtain ⟨_, _, _, _, h5⟩ := doPlan_comm (f := m + i) (g := m + i) (q := .val .junk) (v := .junk) hd rfl (by cases hx : accP (m + i) p <;> rfl) hl hl
        exact h5
theorem step_comm {i j : Nat} {s s1 s2 : St} {a b : Acc} (hi : stepD Γ ops m dd i s = some (a, s1)) (hj : stepD Γ ops m dd j s1 = some (b, s2)) (hd : depB ops (i, a) (j, b) = false)
    (hli : m + i < s.hp.length) (hlj : m + j < s.hp.length) : ∃ s1', stepD Γ ops m dd j s = some (b, s1') ∧ stepD Γ ops m dd i s1' = some (a, s2) := by
  have hoi : ∃ oi, ops[i]? = some oi := by
    cases ho : ops[i]? with
    | none => simp [stepD, kindD, ho] at hi
    | some o => exact ⟨o, rfl⟩
  have hoj : ∃ oj, ops[j]? = some oj := by
    cases ho : ops[j]? with
    | none => simp [stepD, kindD, ho] at hj
    | some o => exact ⟨o, rfl⟩
  obtain ⟨oi, hoi⟩ := hoi
  obtain ⟨oj, hoj⟩ := hoj
  simp only [depB, hoi, hoj, Bool.or_eq_false_iff] at hd
  obtain ⟨ht, hm⟩ := hd
  simp only [tempDep, Bool.or_eq_false_iff] at ht
  obtain ⟨ht1, ht2⟩ := ht
  have hdi : dstD ops i = oi.dst := by simp [dstD, hoi]
  have hdj : dstD ops j = oj.dst := by simp [dstD, hoj]
  have hij : ∀ o, ops[j]? = some o → ∀ d, dstD ops i = some d → d ∉ looks ops o := fun o ho d hd => by
    rw [hoj] at ho; cases ho
    rw [hdi] at hd
    rw [hd] at ht1
    simp only [Bool.or_eq_false_iff] at ht1
    simpa using ht1.1
  have hdd : ∀ d, dstD ops i = some d → dstD ops j ≠ some d := fun d hd => by
    rw [hdi] at hd
    rw [hd] at ht1
    simp only [Bool.or_eq_false_iff] at ht1
    rw [hdj]
    simpa using ht1.2
  have hji : ∀ o, ops[i]? = some o → ∀ d, dstD ops j = some d → d ∉ looks ops o := fun o ho d hd => by
    rw [hoi] at ho; cases ho
    rw [hdj] at hd
    rw [hd] at ht2
    simpa using ht2
  unfold stepD at hi hj
  cases hki : kindD Γ ops dd i s.tm with
  | none => simp [hki] at hi
  | some ki =>
    simp only [hki] at hi
    cases ki with
    | fix a' u =>
      simp only [Option.some.injEq, Prod.mk.injEq] at hi
      obtain ⟨rfl, rfl⟩ := hi
      simp only [kindD_put hij] at hj
      cases hkj : kindD Γ ops dd j s.tm with
      | none => simp [hkj] at hj
      | some kj =>
        simp only [hkj] at hj
        cases kj with
        | fix b' v =>
          simp only [Option.some.injEq, Prod.mk.injEq] at hj
          obtain ⟨rfl, rfl⟩ := hj
          exact ⟨⟨putA s.tm (dstD ops j) v, s.hp⟩, by simp [stepD, hkj], by simp [stepD, kindD_put hji, hki, putA_comm hdd]⟩
        | act q =>
          simp only at hj
          cases hdq : doPlan (m + j) s.hp q with
          | none => simp [hdq] at hj
          | some vH =>
            obtain ⟨v, H⟩ := vH
            simp only [hdq, Option.some.injEq, Prod.mk.injEq] at hj
            obtain ⟨rfl, rfl⟩ := hj
            exact ⟨⟨putA s.tm (dstD ops j) v, H⟩, by simp [stepD, hkj, hdq], by simp [stepD, kindD_put hji, hki, putA_comm hdd]⟩
    | act p =>
      simp only at hi
      cases hdp : doPlan (m + i) s.hp p with
      | none => simp [hdp] at hi
      | some uH =>
        obtain ⟨u, H1⟩ := uH
        simp only [hdp, Option.some.injEq, Prod.mk.injEq] at hi
        obtain ⟨rfl, rfl⟩ := hi
        simp only [kindD_put hij] at hj
        cases hkj : kindD Γ ops dd j s.tm with
        | none => simp [hkj] at hj
        | some kj =>
          simp only [hkj] at hj
          cases kj with
          | fix b' v =>
            simp only [Option.some.injEq, Prod.mk.injEq] at hj
            obtain ⟨rfl, rfl⟩ := hj
            exact ⟨⟨putA s.tm (dstD ops j) v, s.hp⟩, by simp [stepD, hkj], by simp [stepD, kindD_put hji, hki, hdp, putA_comm hdd]⟩
          | act q =>
            simp only at hj
            cases hdq : doPlan (m + j) H1 q with
            | none => simp [hdq] at hj
            | some vH =>
              obtain ⟨v, H2⟩ := vH
              simp only [hdq, Option.some.injEq, Prod.mk.injEq] at hj
              obtain ⟨rfl, rfl⟩ := hj
              obtain ⟨H1', h1, h2, _, _⟩ := doPlan_comm hdp hdq hm hli hlj
              exact ⟨⟨putA s.tm (dstD ops j) v, H1'⟩, by simp [stepD, hkj, h1], by simp [stepD, kindD_put hji, hki, h2, putA_comm hdd]⟩
theorem RunA.front {p : Nat × Acc} {R : List (Nat × Acc)} : ∀ {L : List (Nat × Acc)} {s s' : St}, RunA Γ ops m dd (L ++ p :: R) s s' → (∀ x ∈ L, depB ops x p = false) → (∀ x ∈ L, m + x.1 < s.hp.length) → m + p.1 < s.hp.length →
    RunA Γ ops m dd (p :: (L ++ R)) s s' := by
  intro L
  induction L with
  | nil => intro s s' h _ _ _; exact h
  | cons x L ih =>
    intro s s' h hd hl hp
    cases h with
    | @cons i a _ _ s1 _ hx ht =>
      have hlen := stepD_len hx (hl (i, a) (by simp))
      have h2 := ih ht (fun y hy => hd y (by simp [hy])) (fun y hy => by rw [hlen]; exact hl y (by simp [hy])) (by rw [hlen]; exact hp)
      cases h2 with
      | @cons j b _ _ s2 _ hj ht2 =>
        obtain ⟨s1', k1, k2⟩ := step_comm hx hj (hd (i, a) (by simp)) (hl (i, a) (by simp)) hp
        exact .cons k1 (.cons k2 ht2)
end
open Go.RowKit
def deadNow (ops : Array Oper) (bl : List Nat) (i : Nat) : Bool := match ops[i]? with
  | some o => o.after.toList.any fun e => Region.binds .any e && bl.any (Nat.beq e.on)
  | none => false
def runD (Γ : Cx) (ops : Array Oper) (m : Nat) : List Nat → List Nat → St → Option (List (Nat × Acc) × St)
  | [], _, st => some ([], st)
  | i :: rest, bl, st => match stepD Γ ops m (fun _ => deadNow ops bl i) i st with
    | none => none
    | some (a, s1) => match runD Γ ops m rest (bif isBl a then i :: bl else bl) s1 with
      | none => none
      | some (L, s2) => some ((i, a) :: L, s2)
def ddOf (L : List (Nat × Acc)) (i : Nat) : Bool := L.any fun p => Nat.beq p.1 i && isDd p.2
def chkB (ops : Array Oper) (F : List (Nat × Acc)) : Bool :=
  F.all fun p => !isDd p.2 || (match ops[p.1]? with
    | some o => o.after.toList.any fun e => Region.binds .any e && F.any fun q => Nat.beq q.1 e.on && isBl q.2
    | none => false)
def keepD (ops : Array Oper) (nt : Nat) : List Nat := (List.range nt).filter fun t => !(ops.toList.any fun o => o.dst == some t)
def chkEdges (ops : Array Oper) : Bool :=
  (List.range ops.size).all fun i => match ops[i]? with
    | none => false
    | some o => o.after.toList.all fun e => !Region.binds .any e || Nat.blt e.on i
def tempB (ops : Array Oper) (x i : Nat) : Bool :=
  match ops[x]?, ops[i]? with
  | some o, some q => tempDep ops o q
  | _, _ => true
def chkT (ops : Array Oper) : List Nat → Bool
  | [] => true
  | x :: L => (L.all fun y => !tempB ops x y || pathB ops 4 y x) && chkT ops L
def chkM (ops : Array Oper) : List (Nat × Acc) → Bool
  | [] => true
  | x :: L => (L.all fun y => !memDep x.2 y.2 || pathB ops 4 y.1 x.1) && chkM ops L
def chkS (ops : Array Oper) : Bool := chkEdges ops && chkT ops (List.range ops.size)
def trim : List Ob → List Ob
  | [] => []
  | o :: os => match trim os, o with
    | [], .free => []
    | r, o => o :: r
def trimF (m : Nat) (H : List Ob) : List Ob := H.take m ++ trim (H.drop m)
def endD (ops : Array Oper) (m : Nat) (L : List (Nat × Acc)) (s : St) : Option (Ex × St) :=
  if chkM ops L && chkB ops L then
    if L.any (fun p => isPn p.2) then
      if L.any (fun p => isWr p.2) then none
      else match cutBack (keepD ops s.tm.length) m s with
        | some (vs, H) => some (.pan, ⟨mkF s.tm.length (keepD ops s.tm.length) vs, H⟩)
        | none => none
    else some (.normal, ⟨s.tm, trimF m s.hp⟩)
  else none
def drawF (Γ : Cx) : DrawF := fun ops st =>
  if chkS ops then
    match runD Γ ops st.hp.length (List.range ops.size) [] ⟨st.tm, st.hp ++ List.replicate ops.size .free⟩ with
    | none => none
    | some (L, s) => endD ops st.hp.length L s
  else none
section
variable {D : Dx} {Γ : Cx} {Inv : World → Prop} {ops : Array Oper} {m : Nat} {w0 : World} {ρ : Nm} {A : Nat → Prop} {w : World} {r : Option Nat} {n : Nat}
theorem stepD_dd {dd : Nat → Bool} {i : Nat} {s s1 : St} {a : Acc} (h : stepD Γ ops m dd i s = some (a, s1)) : isDd a = dd i := by
  unfold stepD kindD at h
  cases ho : ops[i]? with
  | none => simp [ho] at h
  | some o =>
    simp only [ho] at h
    cases hd : dd i with
    | true => simp only [hd, cond_true, Option.some.injEq, Prod.mk.injEq] at h; obtain ⟨rfl, _⟩ := h; rfl
    | false =>
      simp only [hd, cond_false] at h
      cases hw : wantA ops s.tm o with
      | none => simp [hw] at h
      | some g =>
        simp only [hw] at h
        cases g with
        | false => simp only [cond_false, Option.some.injEq, Prod.mk.injEq] at h; obtain ⟨rfl, _⟩ := h; rfl
        | true =>
          simp only [cond_true] at h
          cases hp : plan Γ (opd s.tm) o.op with
          | none => simp [hp] at h
          | some cp =>
            obtain ⟨c, p⟩ := cp
            simp only [hp] at h
            cases c with
            | false => simp at h
            | true =>
              simp only [cond_true] at h
              cases hpn : isPan p with
              | true => simp only [hpn, cond_true, Option.some.injEq, Prod.mk.injEq] at h; obtain ⟨rfl, _⟩ := h; rfl
              | false =>
                simp only [hpn, cond_false] at h
                cases hdp : doPlan (m + i) s.hp p with
                | none => simp [hdp] at h
                | some vH =>
                  simp only [hdp, Option.some.injEq, Prod.mk.injEq] at h
                  obtain ⟨rfl, _⟩ := h
                  cases p <;> rfl
theorem stepD_congr {dd dd' : Nat → Bool} {i : Nat} (h : dd i = dd' i) (s : St) : stepD Γ ops m dd i s = stepD Γ ops m dd' i s := by
  unfold stepD kindD
  rw [h]
theorem runD_runA : ∀ (l bl : List Nat) {s s2 : St} {L : List (Nat × Acc)}, runD Γ ops m l bl s = some (L, s2) → L.map (·.1) = l ∧ ∀ dd : Nat → Bool, (∀ p ∈ L, dd p.1 = isDd p.2) → RunA Γ ops m dd L s s2 := by
  intro l
  induction l with
  | nil => intro bl s s2 L h; simp only [runD, Option.some.injEq, Prod.mk.injEq] at h; obtain ⟨rfl, rfl⟩ := h; exact ⟨rfl, fun _ _ => .nil⟩
  | cons i l ih =>
    intro bl s s2 L h
    simp only [runD] at h
    split at h
    · simp at h
    · rename_i a s1 h1
      split at h
      · simp at h
      · rename_i L' s2' h2
        simp only [Option.some.injEq, Prod.mk.injEq] at h
        obtain ⟨rfl, rfl⟩ := h
        obtain ⟨k1, k2⟩ := ih _ h2
        refine ⟨by simp [k1], fun dd hdd => .cons ?_ (k2 dd fun p hp => hdd p (by simp [hp]))⟩
        rw [stepD_congr (dd' := fun _ => deadNow ops bl i) (by rw [hdd (i, a) (by simp), stepD_dd h1])]
        exact h1
theorem ddOf_mem {L : List (Nat × Acc)} (hpw : L.Pairwise (fun x y => x.1 < y.1)) {p : Nat × Acc} (hp : p ∈ L) : ddOf L p.1 = isDd p.2 := by
  unfold ddOf
  cases hd : isDd p.2 with
  | true => exact List.any_eq_true.2 ⟨p, hp, by simp [hd]⟩
  | false =>
    rw [List.any_eq_false]
    intro q hq
    simp only [Bool.and_eq_true, Nat.beq_eq, not_and]
    intro he
    have : q = p := by
      induction L with
      | nil => cases hp
      | cons x L ih =>
        have hc := List.pairwise_cons.1 hpw
        rcases List.mem_cons.1 hp with hp | hp <;> rcases List.mem_cons.1 hq with hq | hq
        · rw [hp, hq]
        · have := hc.1 q hq; rw [← hp] at this; omega
        · have := hc.1 p hp; rw [← hq] at this; omega
        · exact ih hc.2 hp hq
    rw [this, hd]; simp
theorem trim_get : ∀ (H : List Ob) (i : Nat) (o : Ob), (trim H)[i]? = some o → H[i]? = some o := by
  intro H
  induction H with
  | nil => intro i o h; simp [trim] at h
  | cons x H ih =>
    intro i o h
    simp only [trim] at h
    split at h
    · simp at h
    · cases i with
      | zero => simpa using h
      | succ i => simpa using ih i o (by simpa using h)
theorem trim_live : ∀ (H : List Ob) (i : Nat) (o : Ob), H[i]? = some o → o.live = true → (trim H)[i]? = some o := by
  intro H
  induction H with
  | nil => intro i o h; simp at h
  | cons x H ih =>
    intro i o h hl
    have hs : ∀ i, H[i]? = some o → (Go.Evl.trim H)[i]? = some o := fun i h => ih i o h hl
    simp only [trim]
    revert hs
    generalize Go.Evl.trim H = T
    intro hs
    split
    · cases i with
      | zero => simp at h; subst h; cases hl
      | succ i => have := hs i (by simpa using h); simp at this
    · cases i with
      | zero => simpa using h
      | succ i => simpa using hs i (by simpa using h)
theorem trimF_get (m : Nat) (H : List Ob) (i : Nat) (o : Ob) (h : (trimF m H)[i]? = some o) : H[i]? = some o := by
  unfold trimF at h
  rcases Nat.lt_or_ge i (H.take m).length with h' | h'
  · rw [List.getElem?_append_left h', List.getElem?_take] at h
    split at h
    · exact h
    · simp at h
  · rw [List.getElem?_append_right h'] at h
    have := trim_get _ _ _ h
    rw [List.getElem?_drop] at this
    have hlt := (List.getElem?_eq_some_iff.1 this).1
    have hl : (H.take m).length = m := by simp; omega
    rw [hl] at this
    rw [hl] at h'
    rw [show m + (i - m) = i by omega] at this
    exact this
theorem trimF_live (m : Nat) (H : List Ob) (i : Nat) (o : Ob) (h : H[i]? = some o) (hl : o.live = true) : (trimF m H)[i]? = some o := by
  have hlt := (List.getElem?_eq_some_iff.1 h).1
  unfold trimF
  rcases Nat.lt_or_ge i m with h' | h'
  · rw [List.getElem?_append_left (by simp; omega), List.getElem?_take, if_pos h', h]
  · have hl' : (H.take m).length = m := by simp; omega
    rw [List.getElem?_append_right (by omega), hl']
    refine trim_live _ _ _ ?_ hl
    rw [List.getElem?_drop, show m + (i - m) = i by omega, h]
theorem trimF_len {m : Nat} {H : List Ob} (h : m ≤ H.length) : m ≤ (trimF m H).length := by unfold trimF; simp; omega
theorem trimF_keep (m : Nat) (H : List Ob) : KeepD H (trimF m H) := fun id h => trimF_live m H id _ h rfl
theorem live_trim {m : Nat} {H : List Ob} {i : Nat} : Live (trimF m H) i ↔ Live H i :=
  ⟨fun ⟨o, h, hl⟩ => ⟨o, trimF_get m H i o h, hl⟩, fun ⟨o, h, hl⟩ => ⟨o, trimF_live m H i o h hl, hl⟩⟩
theorem live_pad {H : List Ob} {k i : Nat} : Live (H ++ List.replicate k .free) i ↔ Live H i := by
  constructor
  · rintro ⟨o, h, hl⟩
    rcases Nat.lt_or_ge i H.length with h' | h'
    · rw [List.getElem?_append_left h'] at h; exact ⟨o, h, hl⟩
    · rw [List.getElem?_append_right h', List.getElem?_replicate] at h
      split at h
      · simp only [Option.some.injEq] at h; subst h; cases hl
      · simp at h
  · rintro ⟨o, h, hl⟩
    have h' := (List.getElem?_eq_some_iff.1 h).1
    exact ⟨o, by rw [List.getElem?_append_left h']; exact h, hl⟩
theorem Mem.pad {H : List Ob} (h : Mem w0 ρ A w H) (k : Nat) : Mem w0 ρ A w (H ++ List.replicate k .free) := by
  have hget : ∀ i o, (H ++ List.replicate k .free)[i]? = some o → H[i]? = some o ∨ o = Ob.free := fun i o ho => by
    rcases Nat.lt_or_ge i H.length with h' | h'
    · rw [List.getElem?_append_left h'] at ho; exact .inl ho
    · rw [List.getElem?_append_right h', List.getElem?_replicate] at ho
      split at ho
      · exact .inr (Option.some.inj ho).symm
      · simp at ho
  refine ⟨⟨fun id o ho => ?_, fun i j o p b hi hj hb hc => ?_⟩, h.bel, h.lt, h.bs⟩
  · rcases hget id o ho with ho' | rfl
    · exact (h.hp.obj id _ ho').map fun x hx => hx.mono (fun _ hi => live_pad.2 hi) (Nle.refl _ _) (fun _ h => h) (fun _ _ => rfl)
    · trivial
  · rcases hget i o hi with hi' | rfl
    · rcases hget j p hj with hj' | rfl
      · exact h.hp.inj i j o p b hi' hj' hb hc
      · exact hc.elim
    · exact hb.elim
theorem Mem.trim {H : List Ob} (h : Mem w0 ρ A w H) (m : Nat) : Mem w0 ρ A w (trimF m H) :=
  ⟨⟨fun id o ho => (h.hp.obj id o (trimF_get m H id o ho)).map fun _x hx => hx.mono (fun _ hi => live_trim.2 hi) (Nle.refl _ _) (fun _ h => h) (fun _ _ => rfl),
    fun i j o p b hi hj => h.hp.inj i j o p b (trimF_get m H i o hi) (trimF_get m H j p hj)⟩, h.bel, h.lt, h.bs⟩
theorem stepD_keepD {dd : Nat → Bool} {i : Nat} {st st' : St} {acc : Acc} (h : stepD Γ ops m dd i st = some (acc, st')) : KeepD st.hp st'.hp := by
  unfold stepD at h
  cases hk : kindD Γ ops dd i st.tm with
  | none => simp [hk] at h
  | some kd =>
    simp only [hk] at h
    cases kd with
    | fix a' u => simp only [Option.some.injEq, Prod.mk.injEq] at h; obtain ⟨_, rfl⟩ := h; exact .refl _
    | act p =>
      simp only at h
      cases hd : doPlan (m + i) st.hp p with
      | none => simp [hd] at h
      | some vH =>
        obtain ⟨v, H⟩ := vH
        simp only [hd, Option.some.injEq, Prod.mk.injEq] at h
        obtain ⟨_, rfl⟩ := h
        exact doPlan_keep hd
theorem stepD_sound {D : Dx} {dd : Nat → Bool} (hΓ : Γ.Ok Inv) (hI : Stable Inv) (h0 : Inv w0) {i : Nat} {st st' : St} {acc : Acc} {a : Act} (hr : Rel D w0 ρ A st a w) (hdd : dd i = false)
    (h : stepD Γ ops m dd i st = some (acc, st')) {K : Act → World → Prop} {Q : Exit → Act → World → Prop}
    (hK : isPn acc = false → ∀ a' w' ρ' A', Ext (Live st.hp) ρ A w (Live st'.hp) ρ' A' w' → Rel D w0 ρ' A' st' a' w' → K a' w')
    (hP : isPn acc = true → ∀ t v w' ρ' A', Ext (Live st.hp) ρ A w (Live st.hp) ρ' A' w' → Rel D w0 ρ' A' st a w' → Q (.panic [{ v := .iface t v, recovered := false }]) a w') :
    wpOpIn (Fr r) n Γ.P ops Q i K a w := by
  unfold stepD kindD at h
  unfold wpOpIn
  cases ho : ops[i]? with
  | none => simp [ho] at h
  | some o =>
    have hdst : dstD ops i = o.dst := by simp [dstD, ho]
    simp only [ho, hdd, cond_false] at h ⊢
    cases hw : wantA ops st.tm o with
    | none => simp [hw] at h
    | some g =>
      simp only [hw] at h
      rw [wantA_ok hr.tm hw]
      cases g with
      | false =>
        simp only [cond_false, Option.some.injEq, Prod.mk.injEq] at h
        obtain ⟨rfl, rfl⟩ := h
        simp only [Bool.false_eq_true, if_false]
        refine ⟨about_fr o a, hK rfl _ _ ρ A (Ext.refl _ _ _ _) ⟨by rw [hdst]; exact put_rel hr.tm o.dst .raw, ?_, hr.mem⟩⟩
        rw [put_defers]; exact hr.df
      | true =>
        simp only [cond_true] at h
        simp only [if_true]
        cases hp : plan Γ (opd st.tm) o.op with
        | none => simp [hp] at h
        | some cp =>
          obtain ⟨c, p⟩ := cp
          simp only [hp] at h
          cases c with
          | false => simp at h
          | true =>
            simp only [cond_true] at h
            have hacts := plan_acts hΓ hr.tm hr.mem.lt hp rfl
            have hnd := plan_noDefer hp
            cases hpn : isPan p with
            | true =>
              simp only [hpn, cond_true, Option.some.injEq, Prod.mk.injEq] at h
              obtain ⟨rfl, rfl⟩ := h
              cases p with
              | pan =>
                obtain ⟨t, v, hrun⟩ := hacts
                refine ⟨about_fr o a, ?_⟩
                rw [Oper.semAt_eq _ _ _ hnd, hrun]
                exact hP rfl t v w ρ A (Ext.refl _ _ _ _) hr
              | spc f args q =>
                cases q with
                | ret v => simp [isPan] at hpn
                | pan =>
                  obtain ⟨s, hs, hq⟩ := plan_spc hp
                  obtain ⟨vs, hv, hrun⟩ := hacts
                  refine ⟨about_fr o a, ?_⟩
                  rw [Oper.semAt_eq _ _ _ hnd, hrun]
                  refine ⟨fun h => by simp [Fence.wide] at h, ?_⟩
                  rw [callsIn_fr]
                  refine (hΓ.spec f s hs args _ hq ρ A w vs hr.mem.lt (hI _ _ h0 hr.mem.bel) hv).mono ?_
                  rintro e w' ⟨hb, t, u, rfl⟩
                  obtain ⟨m1, m2⟩ := hr.mem.grow hb
                  exact hP rfl t u w' _ _ m2 ⟨m2.rvs hr.tm, hr.df, m1⟩
              | _ => simp [isPan] at hpn
            | false =>
              simp only [hpn, cond_false] at h
              cases hd : doPlan (m + i) st.hp p with
              | none => simp [hd] at h
              | some vH =>
                obtain ⟨v, H⟩ := vH
                simp only [hd, Option.some.injEq, Prod.mk.injEq] at h
                obtain ⟨rfl, rfl⟩ := h
                refine doPlan_sound hΓ hI h0 hr.mem hnd hacts hd (fun f args q e => plan_spc (by rw [hp, e])) (fun f args id s e => plan_upd (by rw [hp, e])) (fun f args id s e => plan_vw (by rw [hp, e])) fun u w' ⟨ρ', A', m1, m2, hv⟩ => hK (by cases p <;> rfl) _ _ ρ' A' m2 ⟨by rw [hdst]; exact put_rel (m2.rvs hr.tm) o.dst hv, ?_, m1⟩
                rw [put_defers]; exact hr.df.keep (doPlan_keep hd) m2.nam
def Listed (l : Array Bool) (i : Nat) : Prop := l.getD i false = true
theorem pathB_listed {l : Array Bool} (hc : ∀ j o, Listed l j → ops[j]? = some o → ∀ e ∈ o.after.toList, Region.binds .any e = true → Listed l e.on) : ∀ (k i x : Nat) (o : Oper), ops[i]? = some o →
    (∀ e ∈ o.after.toList, Region.binds .any e = true → Listed l e.on) → pathB ops k i x = true → Listed l x := by
  intro k
  induction k with
  | zero => intro i x o _ _ h; simp [pathB] at h
  | succ k ih =>
    intro i x o ho hp h
    simp only [pathB, ho, List.any_eq_true, Bool.and_eq_true, Bool.or_eq_true, Nat.beq_eq] at h
    obtain ⟨e, he, hb, hx⟩ := h
    have hl := hp e he hb
    rcases hx with hx | ⟨_, hx⟩
    · rw [← hx]; exact hl
    · cases hoe : ops[e.on]? with
      | none => cases k <;> simp [pathB, hoe] at hx
      | some o' => exact ih e.on x o' hoe (fun e' he' hb' => hc e.on o' hl hoe e' he' hb') hx
end
open Go.RowKit
section
variable {D : Dx} {Γ : Cx} {Inv : World → Prop} {ops : Array Oper} {m : Nat} {w0 : World} {r : Option Nat} {n : Nat}
theorem getD_set_same {l : Array Bool} {i : Nat} {d : Bool} (h : i < l.size) : (l.setIfInBounds i true).getD i d = true := by
  simp [Array.getD, h]
theorem getD_set_other {l : Array Bool} {i j : Nat} {d : Bool} (h : j ≠ i) : (l.setIfInBounds i true).getD j d = l.getD j d := by
  simp only [Array.getD, Array.size_setIfInBounds]
  split
  · rename_i hj
    show (l.setIfInBounds i true)[j]'(by simpa using hj) = l[j]
    rw [Array.getElem_setIfInBounds hj]
    simp [Ne.symm h]
  · rfl
theorem keepO {m i : Nat} {H H1 : List Ob} {p : Plan} {v : AV} (hd : condO (planO (m + i) H p) = some (v, H1)) (hl : m + i < H.length) (hw : isWr (accP (m + i) p) = false) : H1.take m = H.take m := by
  rcases planO_acc (condO_some hd) hl with ⟨id, h1, h2, _⟩ | ⟨id, o', h1, h2, _⟩
  · rw [h2]
  · rcases h1 with h1 | h1
    · rw [h1] at hw; cases hw
    · have : id = m + i := by cases p <;> simp [accP] at h1 <;> exact h1.symm
      rw [h2, this, List.take_set_of_le (by omega)]
theorem stepD_keep {dd : Nat → Bool} {i : Nat} {s s1 : St} {acc : Acc} (h : stepD Γ ops m dd i s = some (acc, s1)) (hw : isWr acc = false) (hl : m + i < s.hp.length) :
    s1.hp.length = s.hp.length ∧ s1.hp.take m = s.hp.take m ∧ s1.tm.length = s.tm.length ∧ ∀ nt, ∀ t ∈ keepD ops nt, getT s1.tm t = getT s.tm t := by
  have hput : ∀ (v : AV) (nt : Nat), ∀ t ∈ keepD ops nt, getT (putA s.tm (dstD ops i) v) t = getT s.tm t := by
    intro v nt t ht
    refine getT_put fun d hd e => ?_
    simp only [keepD, List.mem_filter, Bool.not_eq_true', List.any_eq_false] at ht
    cases ho : ops[i]? with
    | none => simp [dstD, ho] at hd
    | some o =>
      simp only [dstD, ho, Option.bind_some] at hd
      exact ht.2 o (by simpa using Array.mem_of_getElem? ho) (by rw [hd, e]; simp)
  unfold stepD at h
  cases hk : kindD Γ ops dd i s.tm with
  | none => simp [hk] at h
  | some kd =>
    simp only [hk] at h
    cases kd with
    | fix a' u => simp only [Option.some.injEq, Prod.mk.injEq] at h; obtain ⟨_, rfl⟩ := h; exact ⟨rfl, rfl, putA_length _ _ _, hput u⟩
    | act p =>
      simp only at h
      cases hd : doPlan (m + i) s.hp p with
      | none => simp [hd] at h
      | some vH =>
        obtain ⟨v, H⟩ := vH
        have hlen := (doPlan_comm (f := m + i) (g := m + i) (q := .val .junk) (v := .junk) hd rfl (by cases hx : accP (m + i) p <;> rfl) hl hl)
        obtain ⟨_, _, _, _, h5⟩ := hlen
        simp only [hd, Option.some.injEq, Prod.mk.injEq] at h
        obtain ⟨rfl, rfl⟩ := h
        refine ⟨h5, ?_, putA_length _ _ _, hput v⟩
        show H.take m = s.hp.take m
        cases p with
        | val x => simp only [doPlan, Option.some.injEq, Prod.mk.injEq] at hd; obtain ⟨_, rfl⟩ := hd; rfl
        | spc f args q => cases q with
          | ret x => simp only [doPlan, Option.some.injEq, Prod.mk.injEq] at hd; obtain ⟨_, rfl⟩ := hd; rfl
          | pan => simp [doPlan, planO, condO] at hd
        | load id off k ag =>
          simp only [doPlan] at hd
          split at hd
          · split at hd
            · cases ag with
              | true => simp only [if_true, Option.some.injEq, Prod.mk.injEq] at hd; rw [hd.2]
              | false =>
                simp only [Bool.false_eq_true, if_false] at hd
                obtain ⟨c, hc, h2⟩ := Option.map_eq_some_iff.1 hd
                simp only [Prod.mk.injEq] at h2
                rw [h2.2]
            · simp at hd
          · simp at hd
        | new cs t =>
          simp only [doPlan] at hd
          obtain ⟨_, _, rfl⟩ := newOb_at hd hl
          rw [List.take_set_of_le (by omega)]
        | newMap =>
          simp only [doPlan] at hd
          obtain ⟨_, _, rfl⟩ := newOb_at hd hl
          rw [List.take_set_of_le (by omega)]
        | mget id k z ok =>
          simp only [doPlan] at hd
          split at hd
          · obtain ⟨c, hc, h2⟩ := Option.map_eq_some_iff.1 hd
            simp only [Prod.mk.injEq] at h2
            rw [h2.2]
          · obtain ⟨rfl, _⟩ := mgetF_some hd; rfl
          · simp at hd
        | mlen id =>
          simp only [doPlan] at hd
          split at hd
          · simp only [Option.some.injEq, Prod.mk.injEq] at hd; obtain ⟨_, rfl⟩ := hd; rfl
          · simp only [Option.some.injEq, Prod.mk.injEq] at hd; obtain ⟨_, rfl⟩ := hd; rfl
          · simp at hd
        | mput id k v' => simp [accP, isWr] at hw
        | store id off cs => simp [accP, isWr] at hw
        | upd ff args id s => simp [accP, isWr] at hw
        | call ff args => simp [doPlan, planO, condO] at hd
        | round id args => simp [doPlan, planO, condO] at hd
        | pan => simp [doPlan, planO, condO] at hd
        | storeO id key ver idx k off cs => simp [accP, isWr] at hw
        | app id key ver t sh m el => simp [accP, isWr] at hw
        | ver id key ver x => exact keepO (by simpa only [doPlan] using hd) hl hw
        | loadO id key ver idx k off m ag => exact keepO (by simpa only [doPlan] using hd) hl hw
        | appN t sh m el => exact keepO (by simpa only [doPlan] using hd) hl hw
        | appF t sh len el0 m el => exact keepO (by simpa only [doPlan] using hd) hl hw
        | newO t sh len el => exact keepO (by simpa only [doPlan] using hd) hl hw
        | newC t k len cs => exact keepO (by simpa only [doPlan] using hd) hl hw
        | vws ff args id s => obtain ⟨_, _, _, _, rfl⟩ := vwRun_some (by simpa only [doPlan] using hd); rfl
theorem runA_keep {dd : Nat → Bool} : ∀ {L : List (Nat × Acc)} {s s1 : St}, RunA Γ ops m dd L s s1 → (∀ p ∈ L, isWr p.2 = false) → (∀ p ∈ L, m + p.1 < s.hp.length) →
    s1.hp.length = s.hp.length ∧ s1.hp.take m = s.hp.take m ∧ s1.tm.length = s.tm.length ∧ ∀ nt, ∀ t ∈ keepD ops nt, getT s1.tm t = getT s.tm t := by
  intro L
  induction L with
  | nil => intro s s1 h _ _; cases h; exact ⟨rfl, rfl, rfl, fun _ _ _ => rfl⟩
  | cons x L ih =>
    intro s s1 h hw hl
    cases h with
    | @cons i a _ _ s2 _ h1 h2 =>
      obtain ⟨k1, k2, k3, k4⟩ := stepD_keep h1 (hw (i, a) (by simp)) (hl (i, a) (by simp))
      obtain ⟨j1, j2, j3, j4⟩ := ih h2 (fun p hp => hw p (by simp [hp])) (fun p hp => by rw [k1]; exact hl p (by simp [hp]))
      exact ⟨j1.trans k1, j2.trans k2, j3.trans k3, fun nt t ht => (j4 nt t ht).trans (k4 nt t ht)⟩
theorem any_sound {D : Dx} {dd : Nat → Bool} (hΓ : Γ.Ok Inv) (hI : Stable Inv) (h0 : Inv w0) (hE : chkEdges ops = true) {Q : Exit → Act → World → Prop} {sn : St} {F : List (Nat × Acc)} (hB : chkB ops F = true) (hddF : ∀ p ∈ F, dd p.1 = isDd p.2) :
    ∀ (fuel : Nat) (L : List (Nat × Acc)) (s : St) (listed : Array Bool) (a : Act) (w : World) (ρ : Nm) (A : Nat → Prop),
    RunA Γ ops m dd L s sn → L.length = fuel → s.hp.length = m + ops.size → listed.size = ops.size →
    (∀ i, i < ops.size → (listed.getD i true = false ↔ i ∈ L.map (·.1))) →
    (∀ j o, Listed listed j → ops[j]? = some o → ∀ e ∈ o.after.toList, Region.binds .any e = true → Listed listed e.on) →
    L.Pairwise (fun x y => x.1 < y.1) → L.Pairwise (fun x y => depB ops x y = true → pathB ops 4 y.1 x.1 = true) → (∀ x ∈ L, x.1 < ops.size) →
    (∀ p ∈ L, p ∈ F) → (∀ p ∈ F, isBl p.2 = true → p ∈ L) →
    Rel D w0 ρ A s a w → ((∀ p ∈ F, isPn p.2 = false) → ∀ a' w' ρ' A', Ext (Live s.hp) ρ A w (Live sn.hp) ρ' A' w' → Rel D w0 ρ' A' sn a' w' → Q .normal a' w') →
    (∀ p ∈ F, isPn p.2 = true → ∀ L' s' a' w' ρ' A', RunA Γ ops m dd L' s' sn → (∀ q ∈ L', q ∈ F) → s'.hp.length = m + ops.size → Ext (Live s.hp) ρ A w (Live s'.hp) ρ' A' w' → Rel D w0 ρ' A' s' a' w' →
      ∀ t v, Q (.panic [{ v := .iface t v, recovered := false }]) a' w') →
    wpAnyIn (Fr r) n Γ.P .any ops Q fuel listed a w := by
  intro fuel
  induction fuel with
  | zero =>
    intro L s listed a w ρ A hrun hlen hs hl hmem hcl hpw hdp hlt hsub hbl hr hK hP
    have : L = [] := List.length_eq_zero_iff.1 hlen
    subst this
    cases hrun
    refine ⟨?_, hK (fun p hp => ?_) a w ρ A (Ext.refl _ _ _ _) hr⟩
    · rw [List.eq_nil_iff_forall_not_mem]
      intro j hj
      obtain ⟨h1, o, ho, _⟩ := mem_ready.1 hj
      have := (hmem j (Array.getElem?_eq_some_iff.1 ho).1).1 h1
      simp at this
    · cases hpn : isPn p.2 with
      | false => rfl
      | true => have := hbl p hp (by simp [isBl, hpn]); cases this
  | succ fuel ih =>
    intro L s listed a w ρ A hrun hlen hs hl hmem hcl hpw hdp hlt hsub hbl hr hK hP
    refine ⟨fun hnil => ?_, fun i hi => ?_⟩
    · exfalso
      cases L with
      | nil => simp at hlen
      | cons x L =>
        have hx := hlt x (by simp)
        have hin : x.1 ∈ Region.ready .any ops listed := by
          rw [mem_ready]
          refine ⟨(hmem x.1 hx).2 (by simp), ops[x.1], by simp [hx], fun e he hb => ?_⟩
          have hE' := List.all_eq_true.1 hE x.1 (List.mem_range.2 hx)
          simp only [Array.getElem?_eq_getElem hx, List.all_eq_true, Bool.or_eq_true, Bool.not_eq_true'] at hE'
          have := hE' e (by simpa using he)
          rcases this with h | h
          · rw [hb] at h; cases h
          · have hlt' : e.on < x.1 := by simp only [Nat.blt, Nat.ble_eq] at h; omega
            have hes : e.on < ops.size := Nat.lt_trans hlt' hx
            cases hg : listed.getD e.on true with
            | true =>
              have he2 : e.on < listed.size := by rw [hl]; exact hes
              simp only [Array.getD, he2, dite_true] at hg ⊢
              exact hg
            | false =>
              exfalso
              have := (hmem e.on hes).1 hg
              simp only [List.map_cons, List.mem_cons, List.mem_map] at this
              rcases this with h | ⟨y, hy, h⟩
              · omega
              · have := (List.pairwise_cons.1 hpw).1 y hy; omega
        rw [hnil] at hin
        cases hin
    · obtain ⟨h1, oi, ho, hall⟩ := mem_ready.1 hi
      have hio : i < ops.size := (Array.getElem?_eq_some_iff.1 ho).1
      have hmi := (hmem i hio).1 h1
      obtain ⟨⟨i', ai⟩, hp, rfl⟩ := List.mem_map.1 hmi
      obtain ⟨L1, L2, rfl⟩ := List.append_of_mem hp
      simp only at *
      have notListed : ∀ x ∈ L1 ++ (i', ai) :: L2, ¬ Listed listed x.1 := by
        intro x hx hL
        have hxs := hlt x hx
        have := (hmem x.1 hxs).2 (List.mem_map.2 ⟨x, hx, rfl⟩)
        have he2 : x.1 < listed.size := by rw [hl]; exact hxs
        unfold Listed at hL
        simp only [Array.getD, he2, dite_true] at hL this
        rw [hL] at this
        cases this
      have hind : ∀ x ∈ L1, depB ops x (i', ai) = false := by
        intro x hx
        cases hd : depB ops x (i', ai) with
        | false => rfl
        | true =>
          exfalso
          have hpth := (List.pairwise_append.1 hdp).2.2 x hx (i', ai) (by simp) hd
          exact notListed x (by simp [hx]) (pathB_listed (l := listed) hcl 4 i' x.1 oi ho (fun e he hb => by
            have := hall e (by simpa using he) hb
            exact this) hpth)
      have hfr := hrun.front hind (fun x hx => by rw [hs]; have := hlt x (by simp [hx]); omega) (by rw [hs]; simp only; omega)
      have hF := hsub (i', ai) hp
      have hddi : dd i' = false := by
        rw [hddF _ hF]
        cases hd : isDd ai with
        | false => rfl
        | true =>
          exfalso
          have := List.all_eq_true.1 hB (i', ai) hF
          simp only [hd, Bool.not_true, Bool.false_or, ho, List.any_eq_true, Bool.and_eq_true, Nat.beq_eq] at this
          obtain ⟨e, he, hb, q, hq, hqe, hqb⟩ := this
          have hL : Listed listed e.on := hall e (by simpa using he) hb
          exact notListed q (hbl q hq hqb) (hqe ▸ hL)
      cases hfr with
      | @cons _ _ _ _ s1 _ hst ht =>
        refine stepD_sound hΓ hI h0 hr hddi hst (fun hnp a' w' ρ' A' hx hr' => ?_) (fun hpn t v w' ρ' A' hx hr' => ?_)
        case refine_2 =>
          exact hP _ hF hpn _ s a w' ρ' A' hrun hsub hs hx hr' t v
        have hs1 : s1.hp.length = s.hp.length := stepD_len hst (by rw [hs]; omega)
        have hnd : ∀ x ∈ L1 ++ L2, x.1 ≠ i' := by
          intro x hx he
          rcases List.mem_append.1 hx with h | h
          · have := (List.pairwise_append.1 hpw).2.2 x h (i', ai) (by simp); simp only at this; omega
          · have := (List.pairwise_cons.1 (List.pairwise_append.1 hpw).2.1).1 x h; simp only at this; omega
        refine ih (L1 ++ L2) s1 _ a' w' ρ' A' ht (by simp at hlen ⊢; omega) (by rw [hs1]; exact hs) (by simpa using hl) (fun j hj => ?_) (fun j o hL hoj e he hb => ?_) ?_ ?_ (fun x hx => hlt x ?_)
          (fun p hp => hsub p ?_) (fun p hp hb => ?_) hr' (fun hnp' a'' w'' ρ'' A'' hx' hr'' => hK hnp' a'' w'' ρ'' A'' (hx.trans hx') hr'')
          (fun p hp hpn L' s' a'' w'' ρ'' A'' hrun' hsub' hs' hx' hr'' => hP p hp hpn L' s' a'' w'' ρ'' A'' hrun' hsub' hs' (hx.trans hx') hr'')
        · by_cases hji : j = i'
          · subst hji
            rw [getD_set_same (by rw [hl]; exact hio)]
            simp only [Bool.true_eq_false, false_iff, List.mem_map, not_exists, not_and]
            exact fun x hx => hnd x hx
          · rw [getD_set_other hji, hmem j hj]
            simp only [List.map_append, List.map_cons, List.mem_append, List.mem_cons]
            constructor
            · rintro (h | h | h)
              · exact .inl h
              · exact absurd h hji
              · exact .inr h
            · rintro (h | h)
              · exact .inl h
              · exact .inr (.inr h)
        · unfold Listed at hL ⊢
          by_cases hji : j = i'
          · subst hji
            rw [ho] at hoj
            cases hoj
            have := hall e (by simpa using he) hb
            by_cases hei : e.on = j
            · rw [hei]; exact getD_set_same (by rw [hl]; exact hio)
            · rw [getD_set_other hei]; exact this
          · rw [getD_set_other hji] at hL
            have := hcl j o hL hoj e he hb
            unfold Listed at this
            by_cases hei : e.on = i'
            · rw [hei]; exact getD_set_same (by rw [hl]; exact hio)
            · rw [getD_set_other hei]; exact this
        · exact List.Pairwise.sublist (by simp) hpw
        · exact List.Pairwise.sublist (by simp) hdp
        · rcases List.mem_append.1 hx with h | h <;> simp [h]
        · rcases List.mem_append.1 hp with h | h <;> simp [h]
        · have := hbl p hp hb
          simp only [List.mem_append, List.mem_cons] at this ⊢
          rcases this with h | h | h
          · exact .inl h
          · exfalso
            rw [h] at hb
            have hdp' : isDd ai = false := by rw [← hddi, hddF _ hF]
            simp [isBl, hnp, hdp'] at hb
          · exact .inr h
theorem chkM_pw : ∀ {L : List (Nat × Acc)}, chkM ops L = true → L.Pairwise (fun x y => memDep x.2 y.2 = true → pathB ops 4 y.1 x.1 = true) := by
  intro L
  induction L with
  | nil => intro _; exact .nil
  | cons x L ih =>
    intro h
    simp only [chkM, Bool.and_eq_true, List.all_eq_true, Bool.or_eq_true, Bool.not_eq_true'] at h
    refine .cons (fun y hy hd => ?_) (ih h.2)
    rcases h.1 y hy with h | h
    · rw [hd] at h; cases h
    · exact h
theorem chkT_pw : ∀ {L : List Nat}, chkT ops L = true → L.Pairwise (fun x y => tempB ops x y = true → pathB ops 4 y x = true) := by
  intro L
  induction L with
  | nil => intro _; exact .nil
  | cons x L ih =>
    intro h
    simp only [chkT, Bool.and_eq_true, List.all_eq_true, Bool.or_eq_true, Bool.not_eq_true'] at h
    refine .cons (fun y hy hd => ?_) (ih h.2)
    rcases h.1 y hy with h | h
    · rw [hd] at h; cases h
    · exact h
theorem Rel.pad {st : St} {ρ : Nm} {A : Nat → Prop} {a : Act} {w : World} (h : Rel D w0 ρ A st a w) (k : Nat) : Rel D w0 ρ A ⟨st.tm, st.hp ++ List.replicate k .free⟩ a w :=
  ⟨h.tm.mono (fun _ hi => live_pad.2 hi) (Nle.refl _ _) (fun _ h => h) (fun _ _ => rfl), h.df.keep (KeepD.append _ _) (Nle.refl _ _), h.mem.pad k⟩
theorem Rel.trim {st : St} {ρ : Nm} {A : Nat → Prop} {a : Act} {w : World} (h : Rel D w0 ρ A st a w) (m : Nat) : Rel D w0 ρ A ⟨st.tm, trimF m st.hp⟩ a w :=
  ⟨h.tm.mono (fun _ hi => live_trim.2 hi) (Nle.refl _ _) (fun _ h => h) (fun _ _ => rfl), h.df.keep (trimF_keep m _) (Nle.refl _ _), h.mem.trim m⟩
def BackD (H H' : List Ob) : Prop := ∀ id : Nat, H'[id]? = some .dfr → H[id]? = some .dfr
theorem BackD.set {H : List Ob} {i : Nat} {o o' : Ob} (h : H[i]? = some o) (hn : o' ≠ .dfr) : BackD H (H.set i o') := by
  intro id hid
  rw [get_set_eq h] at hid
  by_cases e : id = i
  · rw [if_pos e] at hid; exact absurd (Option.some.inj hid) hn
  · rw [if_neg e] at hid; exact hid
theorem planO_back {f : Nat} {H H' : List Ob} {p : Plan} {v : AV} (h : condO (planO f H p) = some (v, H')) (hf : f < H.length) : BackD H H' := by
  rcases planO_kind (condO_some h) with rfl | ⟨id, o, o', ho, hs, hs', _, rfl⟩ | ⟨o, u, hs, hn⟩
  · exact fun _ h => h
  · exact .set ho (fun e => by rw [e] at hs'; cases hs')
  · obtain ⟨_, hfr, rfl⟩ := newOb_at hn hf
    exact .set hfr (fun e => by rw [e] at hs; cases hs)
theorem doPlan_back {f : Nat} {H H' : List Ob} {p : Plan} {v : AV} (h : doPlan f H p = some (v, H')) (hf : f < H.length) : BackD H H' := by
  cases p with
  | val x => simp only [doPlan, Option.some.injEq, Prod.mk.injEq] at h; obtain ⟨_, rfl⟩ := h; exact fun _ h => h
  | load id off m ag =>
    simp only [doPlan] at h
    split at h
    · split at h
      · split at h
        · simp only [Option.some.injEq, Prod.mk.injEq] at h; obtain ⟨_, rfl⟩ := h; exact fun _ h => h
        · obtain ⟨c, _, h2⟩ := Option.map_eq_some_iff.1 h
          simp only [Prod.mk.injEq] at h2
          obtain ⟨_, rfl⟩ := h2; exact fun _ h => h
      · simp at h
    · simp at h
  | new cs t =>
    simp only [doPlan] at h
    obtain ⟨_, hfr, rfl⟩ := newOb_at h hf
    exact .set hfr (fun e => by cases e)
  | newMap =>
    simp only [doPlan] at h
    obtain ⟨_, hfr, rfl⟩ := newOb_at h hf
    exact .set hfr (fun e => by cases e)
  | store id off cs =>
    simp only [doPlan] at h
    split at h
    · rename_i bs t ho
      split at h
      · simp only [Option.some.injEq, Prod.mk.injEq] at h; obtain ⟨_, rfl⟩ := h; exact .set ho (fun e => by cases e)
      · simp at h
    · simp at h
  | mput id k v =>
    simp only [doPlan] at h
    split at h
    · rename_i es ho
      obtain ⟨c, _, h2⟩ := Option.map_eq_some_iff.1 h
      simp only [Prod.mk.injEq] at h2
      obtain ⟨_, rfl⟩ := h2; exact .set ho (fun e => by cases e)
    · rename_i ho
      obtain ⟨_, key, mf', _, rfl, _⟩ := mputF_some h
      exact .set ho (fun e => by cases e)
    · simp at h
  | mget id k z ok =>
    simp only [doPlan] at h
    split at h
    · obtain ⟨c, _, h2⟩ := Option.map_eq_some_iff.1 h
      simp only [Prod.mk.injEq] at h2
      obtain ⟨_, rfl⟩ := h2; exact fun _ h => h
    · obtain ⟨rfl, _⟩ := mgetF_some h; exact fun _ h => h
    · simp at h
  | mlen id =>
    simp only [doPlan] at h
    split at h
    · simp only [Option.some.injEq, Prod.mk.injEq] at h; obtain ⟨_, rfl⟩ := h; exact fun _ h => h
    · simp only [Option.some.injEq, Prod.mk.injEq] at h; obtain ⟨_, rfl⟩ := h; exact fun _ h => h
    · simp at h
  | upd f args id s =>
    simp only [doPlan] at h
    split at h
    · rename_i cs t ho
      split at h
      · obtain ⟨r, _, h2⟩ := Option.bind_eq_some_iff.1 h
        obtain ⟨cs', _, _, _, _, rfl⟩ := updEnd_some h2
        exact .set ho (fun e => by cases e)
      · simp at h
    · simp at h
  | spc f args q => cases q with
    | ret x => simp only [doPlan, Option.some.injEq, Prod.mk.injEq] at h; obtain ⟨_, rfl⟩ := h; exact fun _ h => h
    | pan => simp [doPlan, planO, condO] at h
  | call f args => simp [doPlan, planO, condO] at h
  | round id args => simp [doPlan, planO, condO] at h
  | pan => simp [doPlan, planO, condO] at h
  | ver id key ver x => exact planO_back (by simpa only [doPlan] using h) hf
  | loadO id key ver idx k off m ag => exact planO_back (by simpa only [doPlan] using h) hf
  | storeO id key ver idx k off cs => exact planO_back (by simpa only [doPlan] using h) hf
  | app id key ver t sh m el => exact planO_back (by simpa only [doPlan] using h) hf
  | appN t sh m el => exact planO_back (by simpa only [doPlan] using h) hf
  | appF t sh len el0 m el => exact planO_back (by simpa only [doPlan] using h) hf
  | newO t sh len el => exact planO_back (by simpa only [doPlan] using h) hf
  | newC t k len cs => exact planO_back (by simpa only [doPlan] using h) hf
  | vws ff args id s => obtain ⟨_, _, _, _, rfl⟩ := vwRun_some (by simpa only [doPlan] using h); exact fun _ h => h
theorem stepD_back {dd : Nat → Bool} {i : Nat} {st st' : St} {acc : Acc} (h : stepD Γ ops m dd i st = some (acc, st')) (hl : m + i < st.hp.length) : BackD st.hp st'.hp := by
  unfold stepD at h
  cases hk : kindD Γ ops dd i st.tm with
  | none => simp [hk] at h
  | some kd =>
    simp only [hk] at h
    cases kd with
    | fix a' u => simp only [Option.some.injEq, Prod.mk.injEq] at h; obtain ⟨_, rfl⟩ := h; exact fun _ h => h
    | act p =>
      simp only at h
      cases hd : doPlan (m + i) st.hp p with
      | none => simp [hd] at h
      | some vH =>
        obtain ⟨v, H⟩ := vH
        simp only [hd, Option.some.injEq, Prod.mk.injEq] at h
        obtain ⟨_, rfl⟩ := h
        exact doPlan_back hd hl
theorem runD_back : ∀ (l bl : List Nat) {s s1 : St} {L : List (Nat × Acc)}, runD Γ ops m l bl s = some (L, s1) → (∀ i ∈ l, m + i < s.hp.length) → BackD s.hp s1.hp ∧ KeepD s.hp s1.hp ∧ s1.hp.length = s.hp.length := by
  intro l
  induction l with
  | nil => intro bl s s1 L h _; simp only [runD, Option.some.injEq, Prod.mk.injEq] at h; obtain ⟨_, rfl⟩ := h; exact ⟨fun _ h => h, .refl _, rfl⟩
  | cons i l ih =>
    intro bl s s1 L h hl
    simp only [runD] at h
    split at h
    · simp at h
    · rename_i a s2 h1
      split at h
      · simp at h
      · rename_i L' s3 h2
        simp only [Option.some.injEq, Prod.mk.injEq] at h
        obtain ⟨_, rfl⟩ := h
        have hlen := stepD_len h1 (hl i (by simp))
        obtain ⟨b1, b2, b3⟩ := ih _ h2 (fun j hj => by rw [hlen]; exact hl j (by simp [hj]))
        exact ⟨fun id h => stepD_back h1 (hl i (by simp)) id (b1 id h), (stepD_keepD h1).trans b2, by rw [b3, hlen]⟩
theorem runA_keepD {dd : Nat → Bool} : ∀ {L : List (Nat × Acc)} {s s1 : St}, RunA Γ ops m dd L s s1 → KeepD s.hp s1.hp := by
  intro L
  induction L with
  | nil => intro s s1 h; cases h; exact .refl _
  | cons x L ih =>
    intro s s1 h
    cases h with
    | cons h1 h2 => exact (stepD_keepD h1).trans (ih h2)
theorem noDfr_of {m : Nat} {H : List Ob} (h : ∀ id : Nat, H[id]? = some .dfr → id < m) : noDfr m H = true := by
  unfold noDfr
  rw [List.all_eq_true]
  intro o ho
  obtain ⟨i, hi⟩ := List.mem_iff_getElem?.1 ho
  rw [List.getElem?_drop] at hi
  cases o <;> simp only [isDfr, Bool.not_false, Bool.not_true, Bool.false_eq_true]
  have := h _ hi
  omega
theorem Rel.drew {st : St} {ρ : Nm} {A : Nat → Prop} {a : Act} {w : World} (h : Rel D w0 ρ A st a w) : Rel D w0 ρ A st a w.drew :=
  ⟨h.tm.mono (fun _ h => h) (Nle.refl _ _) (fun _ h => h) (fun _ _ => rfl), h.df, h.mem.drew⟩
theorem drawF_sound (hΓ : Γ.Ok Inv) (hI : Stable Inv) (hm : Γ.P.follows .mixedOrders = true) : DrawSound Γ.P Inv (drawF Γ) := by
  intro ops st e st' h D w0 ρ A w a r n id h0 hr
  unfold drawF at h
  split at h
  case isFalse => simp at h
  rename_i hS
  split at h
  · simp at h
  rename_i L s hrun
  unfold endD at h
  split at h
  case isFalse => simp at h
  rename_i hMB
  simp only [Bool.and_eq_true] at hMB
  obtain ⟨hM, hB⟩ := hMB
  obtain ⟨hidx, hra⟩ := runD_runA _ _ hrun
  simp only [chkS, Bool.and_eq_true] at hS
  obtain ⟨hE, hT⟩ := hS
  have hlen : L.length = ops.size := by simpa using congrArg List.length hidx
  have hall : ∀ x ∈ L, x.1 < ops.size := fun x hx => by
    have : x.1 ∈ L.map (·.1) := List.mem_map.2 ⟨x, hx, rfl⟩
    rw [hidx] at this
    simpa using this
  have hTp : L.Pairwise (fun x y => tempB ops x.1 y.1 = true → pathB ops 4 y.1 x.1 = true) := by
    have := chkT_pw hT
    rw [← hidx, List.pairwise_map] at this
    exact this
  have hlp : L.Pairwise (fun x y => x.1 < y.1) := by
    have : (List.range ops.size).Pairwise (· < ·) := List.pairwise_lt_range
    rw [← hidx, List.pairwise_map] at this
    exact this
  have hdd : ∀ p ∈ L, ddOf L p.1 = isDd p.2 := fun p hp => ddOf_mem hlp hp
  refine wpIn_region_any hm (any_sound hΓ hI h0 hE hB hdd ops.size L _ _ a w.drew ρ A (hra _ hdd) hlen (by simp) (by simp) (fun i hi => ?_) (fun j o hL => ?_) hlp ?_ hall (fun _ h => h) (fun _ h _ => h) (hr.drew.pad ops.size)
    (fun hnp a' w' ρ' A' hx hr' => ?_) (fun p hp hpn L' s' a' w' ρ' A' hrun' hsub' hs' hx hr' t v => ?_))
  · rw [hidx]; simp [Array.getD, hi]
  · unfold Listed at hL
    simp only [Array.getD, Array.size_replicate] at hL
    split at hL <;> simp at hL
  · refine List.Pairwise.imp ?_ (hTp.and (chkM_pw hM))
    rintro x y ⟨hx, hy⟩ hd
    simp only [depB, Bool.or_eq_true] at hd
    rcases hd with hd | hd
    · exact hx hd
    · exact hy hd
  · have hno : L.any (fun p => isPn p.2) = false := by
      rw [List.any_eq_false]; intro p hp; rw [hnp p hp]; simp
    rw [if_neg (by simp [hno])] at h
    simp only [Option.some.injEq, Prod.mk.injEq] at h
    obtain ⟨rfl, rfl⟩ := h
    refine ⟨ρ', A', ?_, rfl, hr'.trim _⟩
    exact ⟨fun id hi => live_trim.2 (hx.ids id (live_pad.2 hi)), fun id hi => hx.nam id (live_pad.2 hi), hx.imm, hx.keep, hx.late, hx.size, hx.bse⟩
  · have hyes : L.any (fun p => isPn p.2) = true := List.any_eq_true.2 ⟨p, hp, hpn⟩
    rw [if_pos hyes] at h
    split at h
    · simp at h
    rename_i hwr
    have hwr' : ∀ q ∈ L', isWr q.2 = false := fun q hq => by
      cases hw : isWr q.2 with
      | false => rfl
      | true => exact absurd (List.any_eq_true.2 ⟨q, hsub' q hq, hw⟩) hwr
    obtain ⟨k1, k2, k3, k4⟩ := runA_keep hrun' hwr' (fun q hq => by rw [hs']; have := hall q (hsub' q hq); omega)
    have hpos : 0 < ops.size := Nat.lt_of_le_of_lt (Nat.zero_le _) (hall p hp)
    have hcut : cutBack (keepD ops s'.tm.length) st.hp.length s' = cutBack (keepD ops s.tm.length) st.hp.length s := by
      have hb1 : Nat.beq s.hp.length st.hp.length = false := by rw [Bool.eq_false_iff]; simp only [ne_eq, Nat.beq_eq]; rw [k1, hs']; omega
      have hb2 : Nat.beq s'.hp.length st.hp.length = false := by rw [Bool.eq_false_iff]; simp only [ne_eq, Nat.beq_eq]; rw [hs']; omega
      have hmap : (keepD ops s'.tm.length).map (getT s'.tm) = (keepD ops s.tm.length).map (getT s.tm) := by
        rw [k3]
        exact List.map_congr_left fun t ht => (k4 _ t ht).symm
      have hl0 : ∀ i ∈ List.range ops.size, st.hp.length + i < (St.mk st.tm (st.hp ++ List.replicate ops.size .free)).hp.length := fun i hi => by
        have := List.mem_range.1 hi; simp; omega
      obtain ⟨hbk, _, _⟩ := runD_back _ _ hrun hl0
      have hn1 : noDfr st.hp.length s.hp = true := noDfr_of fun id hid => by
        have h0 := hbk id hid
        rcases Nat.lt_or_ge id st.hp.length with h' | h'
        · exact h'
        · exfalso
          simp only at h0
          rw [List.getElem?_append_right h', List.getElem?_replicate] at h0
          split at h0 <;> simp at h0
      have hn2 : noDfr st.hp.length s'.hp = true := noDfr_of fun id hid => by
        have h0 := hbk id (runA_keepD hrun' id hid)
        rcases Nat.lt_or_ge id st.hp.length with h' | h'
        · exact h'
        · exfalso
          simp only at h0
          rw [List.getElem?_append_right h', List.getElem?_replicate] at h0
          split at h0 <;> simp at h0
      unfold cutBack
      rw [hb1, hb2, hmap, k1, k2, hn1, hn2]
      simp only [Bool.false_eq_true, if_false]
    split at h
    · rename_i vs H hc
      simp only [Option.some.injEq, Prod.mk.injEq] at h
      obtain ⟨rfl, rfl⟩ := h
      rw [← hcut] at hc
      obtain ⟨hrel, hlv, hH, _⟩ := cutBack_rel hr' hc
      rw [k3]
      refine ⟨ρ', A', ?_, t, v, rfl, hrel⟩
      refine ⟨fun id hi => hlv id (hx.ids id (live_pad.2 hi)) (live_lt hi), fun id hi => hx.nam id (live_pad.2 hi), hx.imm, hx.keep, hx.late, hx.size, hx.bse⟩
    · simp at h
theorem stepD_tmlen {dd : Nat → Bool} {i : Nat} {s s1 : St} {a : Acc} (h : stepD Γ ops m dd i s = some (a, s1)) : s1.tm.length = s.tm.length := by
  unfold stepD at h
  cases hk : kindD Γ ops dd i s.tm with
  | none => simp [hk] at h
  | some kd =>
    simp only [hk] at h
    cases kd with
    | fix a' u => simp only [Option.some.injEq, Prod.mk.injEq] at h; obtain ⟨_, rfl⟩ := h; exact putA_length _ _ _
    | act p =>
      simp only at h
      cases hd : doPlan (m + i) s.hp p with
      | none => simp [hd] at h
      | some vH =>
        obtain ⟨v, H⟩ := vH
        simp only [hd, Option.some.injEq, Prod.mk.injEq] at h
        obtain ⟨_, rfl⟩ := h
        exact putA_length _ _ _
theorem runD_tmlen : ∀ (l bl : List Nat) {s s1 : St} {L : List (Nat × Acc)}, runD Γ ops m l bl s = some (L, s1) → s1.tm.length = s.tm.length := by
  intro l
  induction l with
  | nil => intro bl s s1 L h; simp only [runD, Option.some.injEq, Prod.mk.injEq] at h; obtain ⟨_, rfl⟩ := h; rfl
  | cons i l ih =>
    intro bl s s1 L h
    simp only [runD] at h
    split at h
    · simp at h
    · rename_i a s2 h1
      split at h
      · simp at h
      · rename_i L' s3 h2
        simp only [Option.some.injEq, Prod.mk.injEq] at h
        obtain ⟨_, rfl⟩ := h
        rw [ih _ h2, stepD_tmlen h1]
theorem drawF_len : DrawLen (drawF Γ) := by
  intro ops st e st' h
  unfold drawF at h
  split at h
  case isFalse => simp at h
  split at h
  · simp at h
  rename_i L s hrun
  have hl := runD_tmlen _ _ hrun
  unfold endD at h
  split at h
  case isFalse => simp at h
  split at h
  · split at h
    · simp at h
    · split at h
      · simp only [Option.some.injEq, Prod.mk.injEq] at h
        obtain ⟨rfl, rfl⟩ := h
        simp [mkF_length, hl]
      · simp at h
  · simp only [Option.some.injEq, Prod.mk.injEq] at h
    obtain ⟨rfl, rfl⟩ := h
    exact hl
theorem drawF_keep : DrawKeep (drawF Γ) := by
  intro ops st e st' h
  unfold drawF at h
  split at h
  case isFalse => simp at h
  split at h
  · simp at h
  rename_i L s hrun
  have hl0 : ∀ i ∈ List.range ops.size, st.hp.length + i < (St.mk st.tm (st.hp ++ List.replicate ops.size .free)).hp.length := fun i hi => by
    have := List.mem_range.1 hi; simp; omega
  obtain ⟨_, hk, hl⟩ := runD_back _ _ hrun hl0
  have hk' : KeepD st.hp s.hp := (KeepD.append _ _).trans hk
  have hl' : st.hp.length ≤ s.hp.length := by rw [hl]; simp
  unfold endD at h
  split at h
  case isFalse => simp at h
  split at h
  · split at h
    · simp at h
    · split at h
      · rename_i hc
        simp only [Option.some.injEq, Prod.mk.injEq] at h
        obtain ⟨rfl, rfl⟩ := h
        exact ⟨hk'.trans (cutBack_keep hc), Nat.le_of_eq (cutBack_len hc).symm⟩
      · simp at h
  · simp only [Option.some.injEq, Prod.mk.injEq] at h
    obtain ⟨rfl, rfl⟩ := h
    exact ⟨hk'.trans (trimF_keep _ _), trimF_len hl'⟩
end
open Go.RowKit
abbrev Sp := FuncId → Option (List AV → Tr Res)
def spL (sp : Sp) : Sp := fun f => bif Nat.blt f 1000000 then sp f else none
def upL (sp : Sp) : Sp := fun f => sp (1000000 + f)
def mkCx (P : Program) (sp : Sp) (inl : FuncId → Bool) (ext : FuncId → Option (List AV → Option (Bool × AV))) : Cx := ⟨P, fun f => (spL sp f).map fun s a => (s a).run, inl, ext, upL sp, spL sp⟩
def splitV {β : Type} (v : AV) (k : AV → Tr β) : Tr β :=
  match v with
  | .bool b => .node b (k (.bool true)) (k (.bool false))
  | v => k v
theorem splitV_eq {β : Type} (v : AV) (k : AV → Tr β) : (splitV v k).run = (k v).run := by
  cases v <;> try rfl
  rename_i b
  cases b <;> rfl
def wantK {β : Type} (ops : Array Oper) (tm : List AV) (o : Oper) (k : Bool → Tr β) : Tr β :=
  match o.guard with
  | none => k true
  | some (j, want) =>
    match (ops[j]?).bind (·.dst) with
    | none => k false
    | some d => match getT tm d with
      | .bool b => bif b then k (true == want) else k (false == want)
      | .raw (.tuple _) => k false
      | _ => .non
theorem wantK_eq {β : Type} (ops : Array Oper) (tm : List AV) (o : Oper) (k : Bool → Tr β) : (wantK ops tm o k).run = (wantA ops tm o).bind fun b => (k b).run := by
  unfold wantK wantA
  cases o.guard with
  | none => rfl
  | some p =>
    obtain ⟨j, want⟩ := p
    simp only
    cases (ops[j]?).bind (·.dst) with
    | none => rfl
    | some d =>
      simp only
      cases getT tm d with
      | bool b => cases b <;> rfl
      | raw v => cases v <;> rfl
      | _ => rfl
def spcOf (sp : Sp) (x : Operand → AV) (op : Op) : Option (FuncId × (List AV → Tr Res) × List AV) :=
  match op with
  | .call c => match c.callee with
    | .value f => match x f with
      | .fn (.func g) cs => match spL sp g with
        | some s => bif bnds 0 (c.args.toList.map x ++ cs) then some (g, s, c.args.toList.map x ++ cs) else none
        | none => none
      | _ => none
    | _ => none
  | _ => none
theorem spcOf_plan {P : Program} {sp : Sp} {inl : FuncId → Bool} {ext : FuncId → Option (List AV → Option (Bool × AV))} {x : Operand → AV} {op : Op} {g : FuncId} {s : List AV → Tr Res} {args : List AV}
    (h : spcOf sp x op = some (g, s, args)) : plan (mkCx P sp inl ext) x op = if bnds 0 args then ((s args).run).map fun r => (true, .spc g args r) else none := by
  unfold spcOf at h
  split at h
  · rename_i c
    split at h
    · rename_i f hc
      split at h
      · rename_i g' cs hx
        split at h
        · rename_i s' hs
          cases hb : bnds 0 (c.args.toList.map x ++ cs) with
          | false => simp [hb] at h
          | true =>
            simp only [hb, cond_true, Option.some.injEq, Prod.mk.injEq] at h
            obtain ⟨rfl, rfl, rfl⟩ := h
            simp only [plan, hc, callA, hx, mkCx, hs, Option.map_some, hb, if_true]
        · simp at h
      · simp at h
    · simp at h
  · simp at h
structure CallK (β : Type) where
  fn : FuncId → List AV → List Ob → (Res → List Ob → Tr β) → Tr β
  rnd : Nat → List AV → List Ob → (Res → List Ob → Tr β) → Tr β
instance {β : Type} : CoeFun (CallK β) (fun _ => FuncId → List AV → List Ob → (Res → List Ob → Tr β) → Tr β) := ⟨CallK.fn⟩
structure CallEq {β : Type} (cK : CallK β) (cf : CallF) : Prop where
  fn : ∀ f args H k, (cK f args H k).run = (cf f args H).bind fun p => (k p.1 p.2).run
  rnd : ∀ id args H k, (cK.rnd id args H k).run = (cf.rnd id args H).bind fun p => (k p.1 p.2).run
section
variable {β : Type} (P : Program) (sp : Sp) (inl : FuncId → Bool) (ext : FuncId → Option (List AV → Option (Bool × AV))) (cK : CallK β) {cf : CallF}
def evStep (ops : Array Oper) (i : Nat) (st : St) (k : Bool → St → Tr β) : Tr β :=
  match ops[i]? with
  | none => .non
  | some o => wantK ops st.tm o fun g =>
    bif g then
      match spcOf sp (opd st.tm) o.op with
      | some (_, s, args) => .chk (bnds 0 args) ((s args).fold fun r => match r with
          | .ret v => splitV v fun v => k true ⟨putA st.tm o.dst v, st.hp⟩
          | .pan => k false st)
      | none => match plan (mkCx P sp inl ext) (opd st.tm) o.op with
        | none => .non
        | some (c, p) =>
          .chk c (match p with
            | .pan => k false st
            | .spc _ _ .pan => k false st
            | .call f args => cK f args st.hp fun r H => match r with
              | .ret v => splitV v fun v => k true ⟨putA st.tm o.dst v, H⟩
              | .pan => k false ⟨st.tm, H⟩
            | .round id args => cK.rnd id args st.hp fun r H => match r with
              | .ret v => splitV v fun v => k true ⟨putA st.tm o.dst v, H⟩
              | .pan => .non
            | p => (doPlanT st.hp.length st.hp p).fold fun q => splitV q.1 fun v => k true ⟨putA st.tm o.dst v, q.2⟩)
    else k true ⟨putA st.tm o.dst (.raw undef), st.hp⟩
theorem evStep_eq (hcf : CallEq cK cf) (ops : Array Oper) (i : Nat) (st : St) (k : Bool → St → Tr β) :
    (evStep P sp inl ext cK ops i st k).run = (stepA (mkCx P sp inl ext) cf ops i st).bind fun p => (k p.1 p.2).run := by
  unfold evStep stepA
  cases ops[i]? with
  | none => rfl
  | some o =>
    simp only [wantK_eq]
    cases wantA ops st.tm o with
    | none => rfl
    | some g =>
      simp only [Option.bind_some]
      cases g with
      | false => rfl
      | true =>
        simp only [cond_true]
        cases hs : spcOf sp (opd st.tm) o.op with
        | some q =>
          obtain ⟨g, s, args⟩ := q
          simp only [spcOf_plan hs, Tr.run]
          cases bnds 0 args with
          | false => rfl
          | true =>
            simp only [cond_true, if_true, Tr.fold_eq]
            cases (s args).run with
            | none => rfl
            | some r => cases r <;> simp [splitV_eq, doPlan]
        | none =>
          simp only
          cases plan (mkCx P sp inl ext) (opd st.tm) o.op with
          | none => rfl
          | some cp =>
            obtain ⟨c, p⟩ := cp
            simp only [Tr.run]
            cases c with
            | false => rfl
            | true =>
              simp only [cond_true]
              cases p with
              | call f args =>
                simp only [hcf.fn f args]
                cases cf f args st.hp with
                | none => rfl
                | some rh => obtain ⟨r, H⟩ := rh; cases r <;> simp [splitV_eq]
              | round id args =>
                simp only [hcf.rnd id args]
                cases cf.rnd id args st.hp with
                | none => rfl
                | some rh => obtain ⟨r, H⟩ := rh; cases r <;> simp [splitV_eq, Tr.run]
              | pan => rfl
              | spc f args r =>
                cases r with
                | pan => rfl
                | ret v => simp [doPlanT_run, doPlan, splitV_eq, Tr.fold_eq]
              | _ =>
                simp only [Tr.fold_eq, doPlanT_run, splitV_eq]
                generalize doPlan _ _ _ = q
                cases q with
                | none => rfl
                | some q => rfl
def evIdx (ops : Array Oper) : List Nat → St → (Ex → St → Tr β) → Tr β
  | [], st, k => k .normal st
  | i :: rest, st, k => evStep P sp inl ext cK ops i st fun b st' => bif b then evIdx ops rest st' k else k .pan st'
theorem evIdx_eq (hcf : CallEq cK cf) (ops : Array Oper) : ∀ (l : List Nat) (st : St) (k : Ex → St → Tr β), (evIdx P sp inl ext cK ops l st k).run = (runIdx (mkCx P sp inl ext) cf ops l st).bind fun p => (k p.1 p.2).run := by
  intro l
  induction l with
  | nil => intro st k; rfl
  | cons i l ih =>
    intro st k
    simp only [evIdx, runIdx, evStep_eq P sp inl ext cK hcf]
    cases stepA (mkCx P sp inl ext) cf ops i st with
    | none => rfl
    | some p => obtain ⟨b, st'⟩ := p; cases b <;> simp [ih]
def evStepD (ops : Array Oper) (m : Nat) (dead : Bool) (i : Nat) (st : St) (k : Acc → St → Tr β) : Tr β :=
  match ops[i]? with
  | none => .non
  | some o =>
    bif dead then k .dd ⟨putA st.tm o.dst .junk, st.hp⟩
    else wantK ops st.tm o fun g =>
      bif g then
        match spcOf sp (opd st.tm) o.op with
        | some (_, s, args) => .chk (bnds 0 args) ((s args).fold fun r => match r with
            | .ret v => splitV v fun v => k .none ⟨putA st.tm o.dst v, st.hp⟩
            | .pan => k .pn ⟨putA st.tm o.dst .junk, st.hp⟩)
        | none => match plan (mkCx P sp inl ext) (opd st.tm) o.op with
          | none => .non
          | some (c, p) =>
            .chk c (
              bif isPan p then k .pn ⟨putA st.tm o.dst .junk, st.hp⟩
              else (doPlanT (m + i) st.hp p).fold fun q => splitV q.1 fun v => k (accP (m + i) p) ⟨putA st.tm o.dst v, q.2⟩)
      else k .none ⟨putA st.tm o.dst (.raw undef), st.hp⟩
theorem evStepD_eq (ops : Array Oper) (m : Nat) (dead : Bool) (i : Nat) (st : St) (k : Acc → St → Tr β) :
    (evStepD P sp inl ext ops m dead i st k).run = (stepD (mkCx P sp inl ext) ops m (fun _ => dead) i st).bind fun p => (k p.1 p.2).run := by
  unfold evStepD stepD kindD
  cases ho : ops[i]? with
  | none => rfl
  | some o =>
    have hd : dstD ops i = o.dst := by simp [dstD, ho]
    cases dead with
    | true => simp [hd]
    | false =>
      simp only [wantK_eq, cond_false, hd]
      cases wantA ops st.tm o with
      | none => rfl
      | some g =>
        simp only [Option.bind_some]
        cases g with
        | false => rfl
        | true =>
          simp only [cond_true]
          cases hs : spcOf sp (opd st.tm) o.op with
          | some q =>
            obtain ⟨g, s, args⟩ := q
            simp only [spcOf_plan hs, Tr.run]
            cases bnds 0 args with
            | false => rfl
            | true =>
              simp only [cond_true, if_true, Tr.fold_eq]
              cases (s args).run with
              | none => rfl
              | some r => cases r <;> simp [splitV_eq, doPlan, accP, isPan]
          | none =>
            simp only
            cases plan (mkCx P sp inl ext) (opd st.tm) o.op with
            | none => rfl
            | some cp =>
              obtain ⟨c, p⟩ := cp
              simp only [Tr.run]
              cases c with
              | false => rfl
              | true =>
                simp only [cond_true]
                cases isPan p with
                | true => rfl
                | false =>
                  simp only [cond_false, Tr.fold_eq, doPlanT_run, splitV_eq]
                  cases doPlan (m + i) st.hp p with
                  | none => rfl
                  | some vh => rfl
def evD (ops : Array Oper) (m : Nat) : List Nat → List Nat → St → (List (Nat × Acc) → St → Tr β) → Tr β
  | [], _, st, k => k [] st
  | i :: rest, bl, st, k => evStepD P sp inl ext ops m (deadNow ops bl i) i st fun a s1 => evD ops m rest (bif isBl a then i :: bl else bl) s1 fun L s2 => k ((i, a) :: L) s2
theorem evD_eq (ops : Array Oper) (m : Nat) : ∀ (l bl : List Nat) (st : St) (k : List (Nat × Acc) → St → Tr β),
    (evD P sp inl ext ops m l bl st k).run = (runD (mkCx P sp inl ext) ops m l bl st).bind fun p => (k p.1 p.2).run := by
  intro l
  induction l with
  | nil => intro bl st k; rfl
  | cons i l ih =>
    intro bl st k
    simp only [evD, runD, evStepD_eq]
    cases stepD (mkCx P sp inl ext) ops m (fun _ => deadNow ops bl i) i st with
    | none => rfl
    | some p =>
      obtain ⟨a, s1⟩ := p
      simp only [Option.bind_some, ih]
      cases runD (mkCx P sp inl ext) ops m l (bif isBl a then i :: bl else bl) s1 with
      | none => rfl
      | some q => rfl
def evDraw (ops : Array Oper) (st : St) (k : Ex → St → Tr β) : Tr β :=
  bif chkS ops then
    evD P sp inl ext ops st.hp.length (List.range ops.size) [] ⟨st.tm, st.hp ++ List.replicate ops.size .free⟩ fun L s =>
      match endD ops st.hp.length L s with
      | some (e, s') => k e s'
      | none => .non
  else .non
theorem evDraw_eq (ops : Array Oper) (st : St) (k : Ex → St → Tr β) : (evDraw P sp inl ext ops st k).run = (drawF (mkCx P sp inl ext) ops st).bind fun p => (k p.1 p.2).run := by
  unfold evDraw drawF
  cases chkS ops with
  | false => rfl
  | true =>
    simp only [cond_true, if_true, evD_eq]
    cases runD (mkCx P sp inl ext) ops st.hp.length (List.range ops.size) [] ⟨st.tm, st.hp ++ List.replicate ops.size .free⟩ with
    | none => rfl
    | some q =>
      obtain ⟨L, s⟩ := q
      simp only [Option.bind_some]
      cases endD ops st.hp.length L s with
      | none => rfl
      | some q => rfl
def evN (g : St → (Ex → St → Tr β) → Tr β) : Nat → St → (Ex → St → Tr β) → Tr β
  | 0, _, _ => .non
  | n + 1, st, k => g st fun e st' => match e with
    | .normal => evN g n st' k
    | e => k e st'
theorem evN_eq {g : St → (Ex → St → Tr β) → Tr β} {g' : St → Option (Ex × St)} (hg : ∀ st k, (g st k).run = (g' st).bind fun p => (k p.1 p.2).run) : ∀ (n : Nat) (st : St) (k : Ex → St → Tr β),
    (evN g n st k).run = (iterN g' n st).bind fun p => (k p.1 p.2).run := by
  intro n
  induction n with
  | zero => intro st k; rfl
  | succ n ih =>
    intro st k
    simp only [evN, iterN, hg]
    cases g' st with
    | none => rfl
    | some p => obtain ⟨e, st'⟩ := p; cases e <;> simp [ih]
def blkK (id : Nat) (k : Ex → St → Tr β) (e : Ex) (st : St) : Tr β :=
  match e with
  | .exit i => if i = id then k .normal st else k (.exit i) st
  | e => k e st
theorem blkK_eq (id : Nat) (k : Ex → St → Tr β) (x : Option (Ex × St)) : (x.bind fun p => (blkK id k p.1 p.2).run) = (inBlk id x).bind fun p => (k p.1 p.2).run := by
  cases x with
  | none => rfl
  | some p =>
    obtain ⟨e, st⟩ := p
    cases e <;> simp only [Option.bind_some, blkK, inBlk]
    split <;> rfl
inductive LT where
  | sum (keep : List Nat) (f : List AV → List Ob → Tr (Ex × List AV × List Ob))
  | unroll (k : Nat)
  | forget (keep : List Nat)
  | ghost (gs : List Gh)
def LT.lk : LT → LK
  | .sum keep f => .sum keep fun vs H => (f vs H).run
  | .unroll k => .unroll k
  | .forget keep => .forget keep
  | .ghost gs => .ghost gs
def preT {β : Type} (l : LT) (st : St) (k : St → Tr β) : Tr β :=
  match l with
  | .ghost gs => match applyGs gs st with
    | some (c, st') => .chk c (k st')
    | none => .non
  | l => k (forgetSt l.lk st)
def postT {β : Type} (l : LT) (k : Ex → St → Tr β) (e : Ex) (st : St) : Tr β :=
  match e with
  | .normal => match l with
    | .ghost gs => match applyGs gs st with
      | some (c, st') => .chk c (k .normal st')
      | none => .non
    | _ => k .normal st
  | e => k e st
theorem postT_eq {β : Type} (l : LT) (k : Ex → St → Tr β) (r : Option (Ex × St)) : (r.bind fun p => (postT l k p.1 p.2).run) = (postC l.lk r).bind fun p => (k p.1 p.2).run := by
  cases r with
  | none => rfl
  | some p =>
    obtain ⟨e, st⟩ := p
    cases e with
    | normal =>
      cases l with
      | ghost gs =>
        simp only [Option.bind_some, postT, postC, LT.lk, postSt]
        cases applyGs gs st with
        | none => rfl
        | some q =>
          obtain ⟨c, st'⟩ := q
          cases c <;> rfl
      | _ => rfl
    | _ => rfl
theorem preT_eq {β : Type} (l : LT) (st : St) (k : St → Tr β) : (preT l st k).run = (preSt l.lk st).bind fun p => bif p.1 then (k p.2).run else none := by
  cases l with
  | ghost gs =>
    simp only [preT, LT.lk, preSt]
    cases applyGs gs st with
    | none => rfl
    | some p => rfl
  | _ => rfl
def evCT (lp : Nat → LT) : Code → St → (Ex → St → Tr β) → Tr β
  | .skip, st, k => k .normal st
  | .region id ops draw, st, k => preT (lp (1000000 + id)) st fun st1 => bif draw then evDraw P sp inl ext ops st1 (postT (lp (2000000 + id)) k) else evIdx P sp inl ext cK ops (List.range ops.size) st1 (postT (lp (2000000 + id)) k)
  | .seq a b, st, k => evCT lp a st fun e st' => match e with
    | .normal => evCT lp b st' k
    | e => k e st'
  | .cond c a b, st, k => match opd st.tm c with
    | .bool t => bif t then evCT lp a st k else evCT lp b st k
    | _ => .non
  | .block id (.loop body), st, k => match lp id with
    | .unroll n => evN (fun st k => evCT lp body st k) n st (blkK id k)
    | .forget _ => .non
    | .ghost _ => .non
    | .sum keep f => (f (keep.map (getT st.tm)) st.hp).fold fun p => blkK id k p.1 ⟨mkF st.tm.length keep p.2.1, p.2.2⟩
  | .block id c, st, k => evCT lp c st (blkK id k)
  | .exit id, st, k => k (.exit id) st
  | .ret, st, k => k .ret st
  | .rangeFunc g ps asg body, st, k =>
    bif inRnd (fun i => (lp i).lk) then .non else
    match opd st.tm g with
    | .fn (.func gf) cs => bif inl gf then
        cK gf (.yld (st.hp.length + 1) :: cs) (st.hp ++ [.dfr, .loop st.tm ps asg body st.hp.length .ready]) fun r H => match r with
          | .ret _ => match rfEnd st.hp.length st.tm H with
            | some (e, st') => k e st'
            | none => .non
          | .pan => .non
      else .non
    | _ => .non
  | _, _, _ => .non
theorem evCT_eq (hcf : CallEq cK cf) (lp : Nat → LT) : ∀ (N : Nat) (c : Code), csz c ≤ N → ∀ (st : St) (k : Ex → St → Tr β),
    (evCT P sp inl ext cK lp c st k).run = (runC (mkCx P sp inl ext) cf (drawF (mkCx P sp inl ext)) (fun i => (lp i).lk) c st).bind fun p => (k p.1 p.2).run := by
  intro N
  induction N with
  | zero => intro c h; cases c <;> simp [csz] at h
  | succ N ih =>
    intro c h st k
    cases c with
    | skip => rfl
    | region id ops draw =>
      simp only [evCT, runC, preT_eq]
      cases preSt (lp (1000000 + id)).lk st with
      | none => rfl
      | some p =>
        obtain ⟨c, st1⟩ := p
        cases c with
        | false => rfl
        | true => cases draw <;> simp [evDraw_eq, evIdx_eq P sp inl ext cK hcf, postT_eq]
    | seq a b =>
      simp only [csz] at h
      simp only [evCT, runC, ih a (by omega)]
      cases runC (mkCx P sp inl ext) cf (drawF (mkCx P sp inl ext)) (fun i => (lp i).lk) a st with
      | none => rfl
      | some p => obtain ⟨e, st'⟩ := p; cases e <;> simp [ih b (by omega)]
    | cond c a b =>
      simp only [csz] at h
      simp only [evCT, runC]
      cases opd st.tm c with
      | bool t => cases t <;> simp [ih a (by omega), ih b (by omega)]
      | _ => rfl
    | block id c =>
      simp only [csz] at h
      cases c with
      | loop body =>
        simp only [csz] at h
        simp only [evCT, runC]
        cases hl : lp id with
        | forget keep => rfl
        | ghost gs => rfl
        | unroll n =>
          show _ = (inBlk id (iterN (runC (mkCx P sp inl ext) cf (drawF (mkCx P sp inl ext)) (fun i => (lp i).lk) body) n st)).bind fun p => (k p.1 p.2).run
          simp only
          rw [evN_eq (g' := runC (mkCx P sp inl ext) cf (drawF (mkCx P sp inl ext)) (fun i => (lp i).lk) body) (fun st k => ih body (by omega) st k), blkK_eq]
        | sum keep f =>
          simp only [LT.lk, Tr.fold_eq]
          generalize f (keep.map (getT st.tm)) st.hp = q
          cases q.run with
          | none => rfl
          | some p =>
            obtain ⟨e, vs, H⟩ := p
            exact blkK_eq id k (some (e, ⟨mkF st.tm.length keep vs, H⟩))
      | skip => exact blkK_eq id k (some (.normal, st))
      | ret => exact blkK_eq id k (some (.ret, st))
      | exit i => exact blkK_eq id k (some (.exit i, st))
      | region i ops d => show (evCT P sp inl ext cK lp (.region i ops d) st (blkK id k)).run = _; rw [ih _ (by simp only [csz] at h ⊢; omega), blkK_eq]; rfl
      | seq a b => show (evCT P sp inl ext cK lp (.seq a b) st (blkK id k)).run = _; rw [ih _ (by simp only [csz] at h ⊢; omega), blkK_eq]; rfl
      | cond c a b => show (evCT P sp inl ext cK lp (.cond c a b) st (blkK id k)).run = _; rw [ih _ (by simp only [csz] at h ⊢; omega), blkK_eq]; rfl
      | block i c => show (evCT P sp inl ext cK lp (.block i c) st (blkK id k)).run = _; rw [ih _ (by simp only [csz] at h ⊢; omega), blkK_eq]; rfl
      | rangeFunc g ps a b => show (evCT P sp inl ext cK lp (.rangeFunc g ps a b) st (blkK id k)).run = _; rw [ih _ (by simp only [csz] at h ⊢; omega), blkK_eq]; rfl
      | _ => rfl
    | exit id => rfl
    | ret => rfl
    | rangeFunc g ps asg body =>
      simp only [evCT, runC]
      cases inRnd (fun i => (lp i).lk) with
      | true => rfl
      | false =>
        simp only [cond_false]
        cases opd st.tm g with
        | fn fv cs =>
          cases fv with
          | func gf =>
            simp only [mkCx]
            cases inl gf with
            | false => rfl
            | true =>
              simp only [cond_true, hcf.fn]
              cases cf gf (.yld (st.hp.length + 1) :: cs) (st.hp ++ [.dfr, .loop st.tm ps asg body st.hp.length .ready]) with
              | none => rfl
              | some rh =>
                obtain ⟨r, H⟩ := rh
                cases r with
                | pan => rfl
                | ret v =>
                  simp only [Option.bind_some]
                  cases rfEnd st.hp.length st.tm H with
                  | none => rfl
                  | some q => rfl
          | _ => rfl
        | _ => rfl
    | _ => rfl
def endKT (fn : Func) (m : Nat) (k : Res → List Ob → Tr β) (e : Ex) (st : St) : Tr β :=
  match leaveA P fn m (some (e, st)) with
  | some (r, H) => k r H
  | none => .non
def evFnT (lp : Nat → LT) (fn : Func) (args : List AV) (H : List Ob) (k : Res → List Ob → Tr β) : Tr β :=
  match fn.body with
  | some c => evCT P sp inl ext cK lp c ⟨frame0 fn args, H⟩ (endKT P fn H.length k)
  | none => .non
theorem evFnT_eq (hcf : CallEq cK cf) (lp : Nat → LT) (fn : Func) (args : List AV) (H : List Ob) (k : Res → List Ob → Tr β) :
    (evFnT P sp inl ext cK lp fn args H k).run = (runFn (mkCx P sp inl ext) cf (drawF (mkCx P sp inl ext)) (fun i => (lp i).lk) fn args H).bind fun p => (k p.1 p.2).run := by
  unfold evFnT runFn
  cases fn.body with
  | none => rfl
  | some c =>
    simp only [evCT_eq P sp inl ext cK hcf lp _ c (Nat.le_refl _)]
    cases runC (mkCx P sp inl ext) cf (drawF (mkCx P sp inl ext)) (fun i => (lp i).lk) c ⟨frame0 fn args, H⟩ with
    | none => rfl
    | some p =>
      obtain ⟨e, st⟩ := p
      show (endKT P fn H.length k e st).run = (leaveA P fn H.length (some (e, st))).bind fun p => (k p.1 p.2).run
      unfold endKT
      cases leaveA P fn H.length (some (e, st)) with
      | none => rfl
      | some q => rfl
def evC (lp : Nat → LT) (c : Code) (st : St) (k : Ex → St → Option β) : Option β := (evCT P sp inl ext cK lp c st fun e st => .ofOpt (k e st)).run
theorem evC_eq (hcf : CallEq cK cf) (lp : Nat → LT) (N : Nat) (c : Code) (hN : csz c ≤ N) (st : St) (k : Ex → St → Option β) :
    evC P sp inl ext cK lp c st k = (runC (mkCx P sp inl ext) cf (drawF (mkCx P sp inl ext)) (fun i => (lp i).lk) c st).bind fun p => k p.1 p.2 := by
  unfold evC
  rw [evCT_eq P sp inl ext cK hcf lp N c hN]
  simp only [Tr.ofOpt_run]
def endK (fn : Func) (m : Nat) (k : Res → List Ob → Option β) (e : Ex) (st : St) : Option β :=
  match leaveA P fn m (some (e, st)) with
  | some (r, H) => k r H
  | none => none
def evFn (lp : Nat → LT) (fn : Func) (args : List AV) (H : List Ob) (k : Res → List Ob → Option β) : Option β := (evFnT P sp inl ext cK lp fn args H fun r H => .ofOpt (k r H)).run
theorem evFn_eq (hcf : CallEq cK cf) (lp : Nat → LT) (fn : Func) (args : List AV) (H : List Ob) (k : Res → List Ob → Option β) :
    evFn P sp inl ext cK lp fn args H k = (runFn (mkCx P sp inl ext) cf (drawF (mkCx P sp inl ext)) (fun i => (lp i).lk) fn args H).bind fun p => k p.1 p.2 := by
  unfold evFn
  rw [evFnT_eq P sp inl ext cK hcf]
  simp only [Tr.ofOpt_run]
end
end Go.Evl
