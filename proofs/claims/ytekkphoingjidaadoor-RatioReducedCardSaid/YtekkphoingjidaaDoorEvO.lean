/- A region whose order is drawn, in whatever order: the theorem. Conditions: the context's contracts hold; dependent operations are ordered by the region's edges. -/
import Derived.Test.YtekkphoingjidaaDoorEvN
namespace Go.Evl
open Go.RowKit

/-- the edges lead from i to x in at most k steps -/
def pathB (ops : Array Oper) : Nat → Nat → Nat → Bool
  | 0, _, _ => false
  | k + 1, i, x => match ops[i]? with
    | none => false
    | some o => o.after.toList.any fun e => Region.binds .any e && (Nat.beq e.on x || (Nat.blt x e.on && pathB ops k e.on x))

/-- a run of some operations, with what each touches -/
inductive RunA (Γ : Cx) (ops : Array Oper) (m : Nat) (dd : Nat → Bool) : List (Nat × Acc) → St → St → Prop
  | nil {s : St} : RunA Γ ops m dd [] s s
  | cons {i : Nat} {a : Acc} {L : List (Nat × Acc)} {s s1 s2 : St} (h : stepD Γ ops m dd i s = some (a, s1)) (t : RunA Γ ops m dd L s1 s2) : RunA Γ ops m dd ((i, a) :: L) s s2

def depB (ops : Array Oper) (x i : Nat × Acc) : Bool :=
  (match ops[x.1]?, ops[i.1]? with
   | some o, some q => tempDep ops o q
   | _, _ => true) || memDep x.2 i.2

section
variable {Γ : Cx} {ops : Array Oper} {m : Nat} {dd : Nat → Bool}

theorem stepD_len {i : Nat} {s s1 : St} {a : Acc} (h : stepD Γ ops m dd i s = some (a, s1)) (hl : m + i < s.hp.length) : s1.hp.length = s.hp.length := by
  unfold stepD at h
  cases hk : kindD Γ ops dd i s.tm with
  | none => simp [hk] at h
  | some kd =>
    simp only [hk] at h
    cases kd with
    | fix a' u => simp only [Option.some.injEq, Prod.mk.injEq] at h; obtain ⟨_, rfl⟩ := h; rfl
    | act p =>
      simp only at h
      cases hd : doPlan (m + i) s.hp p with
      | none => simp [hd] at h
      | some vH =>
        obtain ⟨v, H⟩ := vH
        simp only [hd, Option.some.injEq, Prod.mk.injEq] at h
        obtain ⟨_, rfl⟩ := h
        obtain ⟨_, _, _, _, h5⟩ := doPlan_comm (f := m + i) (g := m + i) (q := .val .junk) (v := .junk) hd rfl (by cases hx : accP (m + i) p <;> rfl) hl hl
        exact h5

theorem step_comm {i j : Nat} {s s1 s2 : St} {a b : Acc} (hi : stepD Γ ops m dd i s = some (a, s1)) (hj : stepD Γ ops m dd j s1 = some (b, s2)) (hd : depB ops (i, a) (j, b) = false)
    (hli : m + i < s.hp.length) (hlj : m + j < s.hp.length) : ∃ s1', stepD Γ ops m dd j s = some (b, s1') ∧ stepD Γ ops m dd i s1' = some (a, s2) := by
  have hoi : ∃ oi, ops[i]? = some oi := by
    cases ho : ops[i]? with
    | none => simp [stepD, kindD, ho] at hi
    | some o => exact ⟨o, rfl⟩
  have hoj : ∃ oj, ops[j]? = some oj := by
    cases ho : ops[j]? with
    | none => simp [stepD, kindD, ho] at hj
    | some o => exact ⟨o, rfl⟩
  obtain ⟨oi, hoi⟩ := hoi
  obtain ⟨oj, hoj⟩ := hoj
  simp only [depB, hoi, hoj, Bool.or_eq_false_iff] at hd
  obtain ⟨ht, hm⟩ := hd
  simp only [tempDep, Bool.or_eq_false_iff] at ht
  obtain ⟨ht1, ht2⟩ := ht
  have hdi : dstD ops i = oi.dst := by simp [dstD, hoi]
  have hdj : dstD ops j = oj.dst := by simp [dstD, hoj]
  have hij : ∀ o, ops[j]? = some o → ∀ d, dstD ops i = some d → d ∉ looks ops o := fun o ho d hd => by
    rw [hoj] at ho; cases ho
    rw [hdi] at hd
    rw [hd] at ht1
    simp only [Bool.or_eq_false_iff] at ht1
    simpa using ht1.1
  have hdd : ∀ d, dstD ops i = some d → dstD ops j ≠ some d := fun d hd => by
    rw [hdi] at hd
    rw [hd] at ht1
    simp only [Bool.or_eq_false_iff] at ht1
    rw [hdj]
    simpa using ht1.2
  have hji : ∀ o, ops[i]? = some o → ∀ d, dstD ops j = some d → d ∉ looks ops o := fun o ho d hd => by
    rw [hoi] at ho; cases ho
    rw [hdj] at hd
    rw [hd] at ht2
    simpa using ht2
  unfold stepD at hi hj
  cases hki : kindD Γ ops dd i s.tm with
  | none => simp [hki] at hi
  | some ki =>
    simp only [hki] at hi
    cases ki with
    | fix a' u =>
      simp only [Option.some.injEq, Prod.mk.injEq] at hi
      obtain ⟨rfl, rfl⟩ := hi
      simp only [kindD_put hij] at hj
      cases hkj : kindD Γ ops dd j s.tm with
      | none => simp [hkj] at hj
      | some kj =>
        simp only [hkj] at hj
        cases kj with
        | fix b' v =>
          simp only [Option.some.injEq, Prod.mk.injEq] at hj
          obtain ⟨rfl, rfl⟩ := hj
          exact ⟨⟨putA s.tm (dstD ops j) v, s.hp⟩, by simp [stepD, hkj], by simp [stepD, kindD_put hji, hki, putA_comm hdd]⟩
        | act q =>
          simp only at hj
          cases hdq : doPlan (m + j) s.hp q with
          | none => simp [hdq] at hj
          | some vH =>
            obtain ⟨v, H⟩ := vH
            simp only [hdq, Option.some.injEq, Prod.mk.injEq] at hj
            obtain ⟨rfl, rfl⟩ := hj
            exact ⟨⟨putA s.tm (dstD ops j) v, H⟩, by simp [stepD, hkj, hdq], by simp [stepD, kindD_put hji, hki, putA_comm hdd]⟩
    | act p =>
      simp only at hi
      cases hdp : doPlan (m + i) s.hp p with
      | none => simp [hdp] at hi
      | some uH =>
        obtain ⟨u, H1⟩ := uH
        simp only [hdp, Option.some.injEq, Prod.mk.injEq] at hi
        obtain ⟨rfl, rfl⟩ := hi
        simp only [kindD_put hij] at hj
        cases hkj : kindD Γ ops dd j s.tm with
        | none => simp [hkj] at hj
        | some kj =>
          simp only [hkj] at hj
          cases kj with
          | fix b' v =>
            simp only [Option.some.injEq, Prod.mk.injEq] at hj
            obtain ⟨rfl, rfl⟩ := hj
            exact ⟨⟨putA s.tm (dstD ops j) v, s.hp⟩, by simp [stepD, hkj], by simp [stepD, kindD_put hji, hki, hdp, putA_comm hdd]⟩
          | act q =>
            simp only at hj
            cases hdq : doPlan (m + j) H1 q with
            | none => simp [hdq] at hj
            | some vH =>
              obtain ⟨v, H2⟩ := vH
              simp only [hdq, Option.some.injEq, Prod.mk.injEq] at hj
              obtain ⟨rfl, rfl⟩ := hj
              obtain ⟨H1', h1, h2, _, _⟩ := doPlan_comm hdp hdq hm hli hlj
              exact ⟨⟨putA s.tm (dstD ops j) v, H1'⟩, by simp [stepD, hkj, h1], by simp [stepD, kindD_put hji, hki, h2, putA_comm hdd]⟩

theorem RunA.front {p : Nat × Acc} {R : List (Nat × Acc)} : ∀ {L : List (Nat × Acc)} {s s' : St}, RunA Γ ops m dd (L ++ p :: R) s s' → (∀ x ∈ L, depB ops x p = false) → (∀ x ∈ L, m + x.1 < s.hp.length) → m + p.1 < s.hp.length →
    RunA Γ ops m dd (p :: (L ++ R)) s s' := by
  intro L
  induction L with
  | nil => intro s s' h _ _ _; exact h
  | cons x L ih =>
    intro s s' h hd hl hp
    cases h with
    | @cons i a _ _ s1 _ hx ht =>
      have hlen := stepD_len hx (hl (i, a) (by simp))
      have h2 := ih ht (fun y hy => hd y (by simp [hy])) (fun y hy => by rw [hlen]; exact hl y (by simp [hy])) (by rw [hlen]; exact hp)
      cases h2 with
      | @cons j b _ _ s2 _ hj ht2 =>
        obtain ⟨s1', k1, k2⟩ := step_comm hx hj (hd (i, a) (by simp)) (hl (i, a) (by simp)) hp
        exact .cons k1 (.cons k2 ht2)
end
end Go.Evl
