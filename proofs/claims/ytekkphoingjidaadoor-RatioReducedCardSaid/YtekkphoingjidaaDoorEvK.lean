/- The evaluator is right about code and functions. Conditions: the context's contracts hold; loops' summaries are right; drawn regions are right. -/
import Derived.Test.YtekkphoingjidaaDoorEvJ
namespace Go.Evl
open Go.RowKit

/-- a loop by a ghost number, inside a fence -/
theorem wpIn_loop_ghost {F : Fence} {n : Nat} {P : Program} {Q : Exit → Act → World → Prop} {a : Act} {w : World} {c : Code} (I : Nat → Act → World → Prop) (n₀ : Nat) (h₀ : I n₀ a w)
    (round : ∀ k a w, I k a w → c.wpIn F n P (Exit.then (fun a' w' => ∃ k', k' < k ∧ I k' a' w') Q) a w) : (Code.loop c).wpIn F n P Q a w := by
  refine wpIn_loop (fun a w => ∃ k, I k a w) (fun a w => leastOf (fun k => I k a w)) ⟨n₀, h₀⟩ ?_
  intro a w hI
  refine wpIn_mono (round _ a w (leastOf_spec hI).1) ?_
  intro e a' w' hq
  cases e with
  | normal =>
    obtain ⟨k', hlt, hI'⟩ := hq
    exact show (∃ k, I k a' w') ∧ leastOf (fun k => I k a' w') < leastOf (fun k => I k a w) from ⟨⟨k', hI'⟩, Nat.lt_of_le_of_lt ((leastOf_spec ⟨k', hI'⟩).2 k' hI') hlt⟩
  | exit id => exact hq
  | goto l => exact hq
  | ret => exact hq
  | panic ch => exact hq
  | outgrown => exact hq

def bndOb (m : Nat) : Ob → Bool
  | .free => true
  | .cells cs _ => bnds m cs
/-- a state cut back to m objects and the slots kept -/
def cutBack (keep : List Nat) (m : Nat) (st : St) : Option (List AV × List Ob) :=
  if Nat.beq st.hp.length m then some (keep.map (getT st.tm), st.hp)
  else if Nat.ble m st.hp.length && bnds m (keep.map (getT st.tm)) && (st.hp.take m).all (bndOb m) then some (keep.map (getT st.tm), st.hp.take m)
  else none

/-- the loops of a piece of code -/
def loops : Code → List (Nat × Code)
  | .seq a b => loops a ++ loops b
  | .cond _ a b => loops a ++ loops b
  | .block id (.loop body) => (id, body) :: loops body
  | .block _ c => loops c
  | _ => []

/-- a summary is right: one round from its states leads to its result, or to a state of its own with the same result, by a smaller number -/
def SumOk (Γ : Cx) (cf : CallF) (df : DrawF) (lp : Nat → LK) (nt : Nat) (body : Code) (keep : List Nat) (f : List AV → List Ob → Option (Ex × List AV × List Ob)) : Prop :=
  ∃ μ : List AV → List Ob → Nat, ∀ vs H R, vs.length = keep.length → f vs H = some R →
    ∃ e st1 vs1 H1, runC Γ cf df lp body ⟨mkF nt keep vs, H⟩ = some (e, st1) ∧ cutBack keep H.length st1 = some (vs1, H1) ∧
      match e with
      | .normal => f vs1 H1 = some R ∧ μ vs1 H1 < μ vs H
      | e => R = (e, vs1, H1)

def LoopsOk (Γ : Cx) (cf : CallF) (df : DrawF) (lp : Nat → LK) (nt : Nat) (c : Code) : Prop :=
  ∀ p ∈ loops c, ∀ keep f, lp p.1 = .sum keep f → keep.Nodup ∧ (∀ k ∈ keep, k < nt) ∧ SumOk Γ cf df lp nt p.2 keep f

def DrawSound (P : Program) (Inv : World → Prop) (df : DrawF) : Prop :=
  ∀ ops st e st', df ops st = some (e, st') → ∀ D w0 ρ A w a r n id, Inv w0 → Rel D w0 ρ A st a w → (Code.region id ops true).wpIn (Fr r) n P (Out D w0 ρ A w st.hp e st') a w

section
variable {D : List Deferred} {Γ : Cx} {Inv : World → Prop} {cf : CallF} {df : DrawF} {lp : Nat → LK} {w0 : World} {ρ : Nat → Nat} {A : Nat → Prop} {w : World} {r : Option Nat} {n : Nat}

theorem setAll_length (is : List Nat) : ∀ (tm vs : List AV), (setAll tm is vs).length = tm.length := by
  induction is with
  | nil => intro tm vs; simp [setAll]
  | cons i is ih => intro tm vs; cases vs with
    | nil => simp [setAll]
    | cons v vs => simp [setAll, ih]
theorem mkF_length (nt : Nat) (keep : List Nat) (vs : List AV) : (mkF nt keep vs).length = nt := by simp [mkF, setAll_length]

/-- a frame of kept slots reads wherever the slots read -/
theorem setAll_rel {N : Nat → Prop} {vals : List Value} : ∀ (is : List Nat) (tm vs : List AV), Rvs ρ A w N tm vals → vs.length = is.length →
    (∀ i (h1 : i < is.length) (h2 : i < vs.length), ∀ v, vals[is[i]]? = some v → Rv ρ A w N vs[i] v) → Rvs ρ A w N (setAll tm is vs) vals := by
  intro is
  induction is with
  | nil => intro tm vs h _ _; simpa [setAll] using h
  | cons i is ih =>
    intro tm vs h hl hv
    cases vs with
    | nil => simp at hl
    | cons v vs =>
      simp only [setAll]
      refine ih _ _ ?_ (by simpa using hl) (fun j h1 h2 u hu => hv (j + 1) (by simpa using h1) (by simpa using h2) u hu)
      refine ⟨by simp [h.1], fun j h1 h2 => ?_⟩
      simp only [List.length_set] at h1
      simp only [List.getElem_set]
      by_cases e : i = j
      · subst e
        simp only [if_true]
        exact hv 0 (by simp) (by simp) _ (List.getElem?_eq_getElem h2)
      · simp only [e, if_false]
        exact h.2 j h1 h2
theorem junk_rel {N : Nat → Prop} (vals : List Value) : Rvs ρ A w N (List.replicate vals.length .junk) vals :=
  ⟨by simp, fun i h1 h2 => by simp only [List.getElem_replicate]; exact .junk⟩
theorem mkF_rel {N : Nat → Prop} {vals : List Value} {tm : List AV} {keep : List Nat} {vs : List AV} (hv : Rvs ρ A w N tm vals) (hk : vs = keep.map (getT tm)) : Rvs ρ A w N (mkF tm.length keep vs) vals := by
  unfold mkF
  rw [hv.1]
  refine setAll_rel keep _ vs (junk_rel vals) (by simp [hk]) ?_
  intro i h1 h2 v hx
  subst hk
  simp only [List.getElem_map, getT]
  have hlt : keep[i] < vals.length := (List.getElem?_eq_some_iff.1 hx).1
  have hlt' : keep[i] < tm.length := by rw [hv.1]; exact hlt
  rw [List.getElem?_eq_getElem hlt']
  have := hv.2 keep[i] hlt' hlt
  rw [List.getElem?_eq_getElem hlt, Option.some.injEq] at hx
  subst hx
  exact this

theorem live_take {H : List Ob} {m : Nat} {id : Nat} : Live (H.take m) id ↔ Live H id ∧ id < m := by
  unfold Live
  simp only [List.getElem?_take]
  constructor
  · rintro ⟨o, h, hl⟩
    split at h
    · rename_i hlt; exact ⟨⟨o, h, hl⟩, hlt⟩
    · simp at h
  · rintro ⟨⟨o, h, hl⟩, hlt⟩
    exact ⟨o, by rw [if_pos hlt]; exact h, hl⟩

/-- the state cut back reads where the state reads -/
theorem cutBack_rel {keep : List Nat} {m : Nat} {st : St} {a : Act} {vs : List AV} {H : List Ob} (h : Rel D w0 ρ A st a w) (hc : cutBack keep m st = some (vs, H)) :
    Rel D w0 ρ A ⟨mkF st.tm.length keep vs, H⟩ a w ∧ (∀ id, Live st.hp id → id < m → Live H id) ∧ H.length = m ∧ vs.length = keep.length := by
  unfold cutBack at hc
  split at hc
  · rename_i he
    simp only [Nat.beq_eq] at he
    simp only [Option.some.injEq, Prod.mk.injEq] at hc
    obtain ⟨rfl, rfl⟩ := hc
    exact ⟨⟨mkF_rel h.tm rfl, h.df, h.mem⟩, fun _ h _ => h, he, by simp⟩
  · split at hc
    · rename_i hcond
      simp only [Bool.and_eq_true, Nat.ble_eq, List.all_eq_true] at hcond
      obtain ⟨⟨hle, hb1⟩, hb2⟩ := hcond
      simp only [Option.some.injEq, Prod.mk.injEq] at hc
      obtain ⟨rfl, rfl⟩ := hc
      have hlv : ∀ id, Upto (Live st.hp) m id → Live (st.hp.take m) id := fun id hi => live_take.2 hi
      refine ⟨⟨?_, h.df, ⟨⟨fun id o ho => ?_, fun i j hi hj => h.mem.hp.inj i j (live_take.1 hi).1 (live_take.1 hj).1⟩, h.mem.bel, h.mem.lt⟩⟩, fun id h1 h2 => live_take.2 ⟨h1, h2⟩, by simp; omega, by simp⟩
      · have hk := h.tm
        unfold mkF
        rw [hk.1]
        refine setAll_rel keep _ _ (junk_rel _) (by simp) ?_
        intro i h1 h2 v hx
        have hlt : keep[i] < a.tmps.toList.length := (List.getElem?_eq_some_iff.1 hx).1
        have hlt' : keep[i] < st.tm.length := by rw [hk.1]; exact hlt
        have hr := hk.2 keep[i] hlt' hlt
        have hbi := bnds_get hb1 i h2
        simp only [List.getElem_map, getT, List.getElem?_eq_getElem hlt', Option.getD_some] at hbi ⊢
        rw [List.getElem?_eq_getElem hlt, Option.some.injEq] at hx
        subst hx
        exact (hr.bnd hbi).mono hlv (fun _ _ => rfl) (fun _ h => h) (fun _ _ => rfl)
      · have ho' : st.hp[id]? = some o ∧ id < m := by
          rw [List.getElem?_take] at ho
          split at ho
          · exact ⟨ho, ‹_›⟩
          · simp at ho
        have hob := h.mem.hp.obj id o ho'.1
        have hbo := hb2 o (List.mem_of_getElem? ho)
        cases o with
        | free => trivial
        | cells cs t =>
          obtain ⟨k1, k2, us, k3, k4⟩ := hob
          simp only [bndOb] at hbo
          exact ⟨k1, k2, us, k3, (k4.bnd hbo).mono hlv (fun _ _ => rfl) (fun _ h => h) (fun _ _ => rfl)⟩
    · simp at hc

theorem inBlk_out {id : Nat} {H : List Ob} {e : Ex} {st' : St} {x : Option (Ex × St)} {e0 : Ex} {st0 : St} (hx : x = some (e0, st0)) (h : inBlk id x = some (e, st')) {y : Exit} {a' : Act} {w' : World}
    (ho : Out D w0 ρ A w H e0 st0 y a' w') : Exit.inBlock id (Out D w0 ρ A w H e st') y a' w' := by
  subst hx
  obtain ⟨ρ', A', h1, h2⟩ := ho
  cases e0 with
  | normal =>
    simp only [inBlk, Option.some.injEq, Prod.mk.injEq] at h
    obtain ⟨rfl, rfl⟩ := h
    obtain ⟨rfl, h3⟩ := h2
    exact ⟨ρ', A', h1, rfl, h3⟩
  | exit i =>
    obtain ⟨rfl, h3⟩ := h2
    simp only [inBlk] at h
    by_cases hi : i = id
    · simp only [hi, if_true, Option.some.injEq, Prod.mk.injEq] at h
      obtain ⟨rfl, rfl⟩ := h
      simp only [Exit.inBlock, hi, if_true]
      exact ⟨ρ', A', h1, rfl, h3⟩
    · simp only [hi, if_false, Option.some.injEq, Prod.mk.injEq] at h
      obtain ⟨rfl, rfl⟩ := h
      simp only [Exit.inBlock, hi, if_false]
      exact ⟨ρ', A', h1, rfl, h3⟩
  | ret =>
    simp only [inBlk, Option.some.injEq, Prod.mk.injEq] at h
    obtain ⟨rfl, rfl⟩ := h
    obtain ⟨rfl, h3⟩ := h2
    exact ⟨ρ', A', h1, rfl, h3⟩
  | pan =>
    simp only [inBlk, Option.some.injEq, Prod.mk.injEq] at h
    obtain ⟨rfl, rfl⟩ := h
    obtain ⟨t, v, rfl, h3⟩ := h2
    exact ⟨ρ', A', h1, t, v, rfl, h3⟩

theorem putA_length (tm : List AV) (dst : Option Tmp) (v : AV) : (putA tm dst v).length = tm.length := by cases dst <;> simp [putA]
theorem stepA_length {ops : Array Oper} {i : Nat} {st st' : St} {e : Bool} (h : stepA Γ cf ops i st = some (e, st')) : st'.tm.length = st.tm.length := by
  unfold stepA at h
  cases ho : ops[i]? with
  | none => simp [ho] at h
  | some o =>
    simp only [ho] at h
    cases hw : wantA ops st.tm o with
    | none => simp [hw] at h
    | some g =>
      simp only [hw] at h
      cases g with
      | false => simp only [cond_false, Option.some.injEq, Prod.mk.injEq] at h; obtain ⟨_, rfl⟩ := h; simp [putA_length]
      | true =>
        simp only [cond_true] at h
        cases hp : plan Γ (opd st.tm) o.op with
        | none => simp [hp] at h
        | some cp =>
          obtain ⟨c, p⟩ := cp
          simp only [hp] at h
          cases c with
          | false => simp at h
          | true =>
            simp only [cond_true] at h
            split at h
            · simp only [Option.some.injEq, Prod.mk.injEq] at h; obtain ⟨_, rfl⟩ := h; rfl
            · simp only [Option.some.injEq, Prod.mk.injEq] at h; obtain ⟨_, rfl⟩ := h; rfl
            · split at h
              · simp at h
              · simp only [Option.some.injEq, Prod.mk.injEq] at h; obtain ⟨_, rfl⟩ := h; simp [putA_length]
              · simp only [Option.some.injEq, Prod.mk.injEq] at h; obtain ⟨_, rfl⟩ := h; rfl
            · split at h
              · simp at h
              · simp only [Option.some.injEq, Prod.mk.injEq] at h; obtain ⟨_, rfl⟩ := h; simp [putA_length]
theorem runIdx_length {ops : Array Oper} : ∀ (l : List Nat) {st st' : St} {e : Ex}, runIdx Γ cf ops l st = some (e, st') → st'.tm.length = st.tm.length := by
  intro l
  induction l with
  | nil => intro st st' e h; simp only [runIdx, Option.some.injEq, Prod.mk.injEq] at h; obtain ⟨_, rfl⟩ := h; rfl
  | cons i l ih =>
    intro st st' e h
    simp only [runIdx] at h
    split at h
    · rename_i st1 hs; rw [ih h, stepA_length hs]
    · rename_i st1 hs; simp only [Option.some.injEq, Prod.mk.injEq] at h; obtain ⟨_, rfl⟩ := h; exact stepA_length hs
    · simp at h
def DrawLen (df : DrawF) : Prop := ∀ ops st e st', df ops st = some (e, st') → st'.tm.length = st.tm.length
theorem inBlk_length {id : Nat} {x : Option (Ex × St)} {e : Ex} {st' : St} (h : inBlk id x = some (e, st')) : ∃ e0, x = some (e0, st') := by
  unfold inBlk at h
  split at h
  · rename_i i st
    split at h <;> (simp only [Option.some.injEq, Prod.mk.injEq] at h; obtain ⟨_, rfl⟩ := h; exact ⟨_, rfl⟩)
  · exact ⟨_, h⟩
theorem iterN_length {g : St → Option (Ex × St)} (hg : ∀ st e st', g st = some (e, st') → st'.tm.length = st.tm.length) : ∀ (k : Nat) {st st' : St} {e : Ex}, iterN g k st = some (e, st') → st'.tm.length = st.tm.length := by
  intro k
  induction k with
  | zero => intro st st' e h; simp [iterN] at h
  | succ k ih =>
    intro st st' e h
    simp only [iterN] at h
    split at h
    · rename_i st1 h1; rw [ih h, hg _ _ _ h1]
    · exact hg _ _ _ h
theorem runC_length (hdf : DrawLen df) : ∀ (c : Code) {st st' : St} {e : Ex}, runC Γ cf df lp c st = some (e, st') → st'.tm.length = st.tm.length
  | .skip, st, st', e, h => by simp only [runC, Option.some.injEq, Prod.mk.injEq] at h; obtain ⟨_, rfl⟩ := h; rfl
  | .region _ ops draw, st, st', e, h => by
    simp only [runC] at h
    split at h
    · exact hdf _ _ _ _ h
    · exact runIdx_length _ h
  | .seq a b, st, st', e, h => by
    simp only [runC] at h
    split at h
    · rename_i st1 h1; rw [runC_length hdf b h, runC_length hdf a h1]
    · exact runC_length hdf a h
  | .cond c a b, st, st', e, h => by
    simp only [runC] at h
    split at h
    · rename_i t ht
      cases t with
      | true => exact runC_length hdf a h
      | false => exact runC_length hdf b h
    · simp at h
  | .block id (.loop body), st, st', e, h => by
    simp only [runC] at h
    split at h
    · obtain ⟨e0, h0⟩ := inBlk_length h
      exact iterN_length (fun st e st' => runC_length hdf body) _ h0
    · split at h
      · obtain ⟨e0, h0⟩ := inBlk_length h
        simp only [Option.some.injEq, Prod.mk.injEq] at h0
        obtain ⟨_, rfl⟩ := h0
        simp [mkF_length]
      · simp at h
  | .block id .skip, st, st', e, h => by simp only [runC] at h; obtain ⟨e0, h0⟩ := inBlk_length h; simp only [Option.some.injEq, Prod.mk.injEq] at h0; obtain ⟨_, rfl⟩ := h0; rfl
  | .block id (.region i ops d), st, st', e, h => by rw [runC] at h; obtain ⟨e0, h0⟩ := inBlk_length h; exact runC_length hdf (.region i ops d) h0; all_goals simp
  | .block id (.seq a b), st, st', e, h => by rw [runC] at h; obtain ⟨e0, h0⟩ := inBlk_length h; exact runC_length hdf (.seq a b) h0; all_goals simp
  | .block id (.cond c a b), st, st', e, h => by rw [runC] at h; obtain ⟨e0, h0⟩ := inBlk_length h; exact runC_length hdf (.cond c a b) h0; all_goals simp
  | .block id (.block i c), st, st', e, h => by rw [runC] at h; obtain ⟨e0, h0⟩ := inBlk_length h; exact runC_length hdf (.block i c) h0; all_goals simp
  | .block id (.exit i), st, st', e, h => by rw [runC] at h; obtain ⟨e0, h0⟩ := inBlk_length h; exact runC_length hdf (.exit i) h0; all_goals simp
  | .block id .ret, st, st', e, h => by rw [runC] at h; obtain ⟨e0, h0⟩ := inBlk_length h; exact runC_length hdf .ret h0; all_goals simp
  | .block id (.rangeFunc f p a b), st, st', e, h => by rw [runC] at h; obtain ⟨e0, h0⟩ := inBlk_length h; exact runC_length hdf (.rangeFunc f p a b) h0; all_goals simp
  | .block id (.scope c), st, st', e, h => by rw [runC] at h; obtain ⟨e0, h0⟩ := inBlk_length h; exact runC_length hdf (.scope c) h0; all_goals simp
  | .block id (.label l), st, st', e, h => by rw [runC] at h; obtain ⟨e0, h0⟩ := inBlk_length h; exact runC_length hdf (.label l) h0; all_goals simp
  | .block id (.goto l), st, st', e, h => by rw [runC] at h; obtain ⟨e0, h0⟩ := inBlk_length h; exact runC_length hdf (.goto l) h0; all_goals simp
  | .block id (.refuse l), st, st', e, h => by rw [runC] at h; obtain ⟨e0, h0⟩ := inBlk_length h; exact runC_length hdf (.refuse l) h0; all_goals simp
  | .exit id, st, st', e, h => by simp only [runC, Option.some.injEq, Prod.mk.injEq] at h; obtain ⟨_, rfl⟩ := h; rfl
  | .ret, st, st', e, h => by simp only [runC, Option.some.injEq, Prod.mk.injEq] at h; obtain ⟨_, rfl⟩ := h; rfl
  | .loop _, st, st', e, h => by simp [runC] at h
  | .rangeFunc .., st, st', e, h => by simp [runC] at h
  | .scope _, st, st', e, h => by simp [runC] at h
  | .label _, st, st', e, h => by simp [runC] at h
  | .goto _, st, st', e, h => by simp [runC] at h
  | .refuse _, st, st', e, h => by simp [runC] at h
end
end Go.Evl
