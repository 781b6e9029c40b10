/- A region whose order is drawn, in whatever order: the end. Conditions: the context's contracts hold; the program mixes orders. -/
import Derived.Test.YtekkphoingjidaaDoorEvP
namespace Go.Evl
open Go.RowKit

section
variable {D : List Deferred} {Γ : Cx} {Inv : World → Prop} {ops : Array Oper} {m : Nat} {w0 : World} {r : Option Nat} {n : Nat}

theorem getD_set_same {l : Array Bool} {i : Nat} {d : Bool} (h : i < l.size) : (l.setIfInBounds i true).getD i d = true := by
  simp [Array.getD, h]
theorem getD_set_other {l : Array Bool} {i j : Nat} {d : Bool} (h : j ≠ i) : (l.setIfInBounds i true).getD j d = l.getD j d := by
  simp only [Array.getD, Array.size_setIfInBounds]
  split
  · rename_i hj
    show (l.setIfInBounds i true)[j]'(by simpa using hj) = l[j]
    rw [Array.getElem_setIfInBounds hj]
    simp [Ne.symm h]
  · rfl

theorem stepD_keep {dd : Nat → Bool} {i : Nat} {s s1 : St} {acc : Acc} (h : stepD Γ ops m dd i s = some (acc, s1)) (hw : isWr acc = false) (hl : m + i < s.hp.length) :
    s1.hp.length = s.hp.length ∧ s1.hp.take m = s.hp.take m ∧ s1.tm.length = s.tm.length ∧ ∀ nt, ∀ t ∈ keepD ops nt, getT s1.tm t = getT s.tm t := by
  have hput : ∀ (v : AV) (nt : Nat), ∀ t ∈ keepD ops nt, getT (putA s.tm (dstD ops i) v) t = getT s.tm t := by
    intro v nt t ht
    refine getT_put fun d hd e => ?_
    simp only [keepD, List.mem_filter, Bool.not_eq_true', List.any_eq_false] at ht
    cases ho : ops[i]? with
    | none => simp [dstD, ho] at hd
    | some o =>
      simp only [dstD, ho, Option.bind_some] at hd
      exact ht.2 o (by simpa using Array.mem_of_getElem? ho) (by rw [hd, e]; simp)
  unfold stepD at h
  cases hk : kindD Γ ops dd i s.tm with
  | none => simp [hk] at h
  | some kd =>
    simp only [hk] at h
    cases kd with
    | fix a' u => simp only [Option.some.injEq, Prod.mk.injEq] at h; obtain ⟨_, rfl⟩ := h; exact ⟨rfl, rfl, putA_length _ _ _, hput u⟩
    | act p =>
      simp only at h
      cases hd : doPlan (m + i) s.hp p with
      | none => simp [hd] at h
      | some vH =>
        obtain ⟨v, H⟩ := vH
        have hlen := (doPlan_comm (f := m + i) (g := m + i) (q := .val .junk) (v := .junk) hd rfl (by cases hx : accP (m + i) p <;> rfl) hl hl)
        obtain ⟨_, _, _, _, h5⟩ := hlen
        simp only [hd, Option.some.injEq, Prod.mk.injEq] at h
        obtain ⟨rfl, rfl⟩ := h
        refine ⟨h5, ?_, putA_length _ _ _, hput v⟩
        show H.take m = s.hp.take m
        cases p with
        | val x => simp only [doPlan, Option.some.injEq, Prod.mk.injEq] at hd; obtain ⟨_, rfl⟩ := hd; rfl
        | spc f args q => cases q with
          | ret x => simp only [doPlan, Option.some.injEq, Prod.mk.injEq] at hd; obtain ⟨_, rfl⟩ := hd; rfl
          | pan => simp [doPlan] at hd
        | load id off k ag =>
          simp only [doPlan] at hd
          split at hd
          · split at hd
            · cases ag with
              | true => simp only [if_true, Option.some.injEq, Prod.mk.injEq] at hd; rw [hd.2]
              | false =>
                simp only [Bool.false_eq_true, if_false] at hd
                obtain ⟨c, hc, h2⟩ := Option.map_eq_some_iff.1 hd
                simp only [Prod.mk.injEq] at h2
                rw [h2.2]
            · simp at hd
          · simp at hd
        | new cs t =>
          have hbf : Nat.beq (m + i) s.hp.length = false := by rw [Bool.eq_false_iff]; simp only [ne_eq, Nat.beq_eq]; omega
          simp only [doPlan, hbf, Bool.false_eq_true, if_false] at hd
          split at hd
          · simp only [Option.some.injEq, Prod.mk.injEq] at hd
            obtain ⟨_, rfl⟩ := hd
            rw [List.take_set_of_le (by omega)]
          · simp at hd
        | store id off cs => simp [accP, isWr] at hw
        | call ff args => simp [doPlan] at hd
        | pan => simp [doPlan] at hd
theorem runA_keep {dd : Nat → Bool} : ∀ {L : List (Nat × Acc)} {s s1 : St}, RunA Γ ops m dd L s s1 → (∀ p ∈ L, isWr p.2 = false) → (∀ p ∈ L, m + p.1 < s.hp.length) →
    s1.hp.length = s.hp.length ∧ s1.hp.take m = s.hp.take m ∧ s1.tm.length = s.tm.length ∧ ∀ nt, ∀ t ∈ keepD ops nt, getT s1.tm t = getT s.tm t := by
  intro L
  induction L with
  | nil => intro s s1 h _ _; cases h; exact ⟨rfl, rfl, rfl, fun _ _ _ => rfl⟩
  | cons x L ih =>
    intro s s1 h hw hl
    cases h with
    | @cons i a _ _ s2 _ h1 h2 =>
      obtain ⟨k1, k2, k3, k4⟩ := stepD_keep h1 (hw (i, a) (by simp)) (hl (i, a) (by simp))
      obtain ⟨j1, j2, j3, j4⟩ := ih h2 (fun p hp => hw p (by simp [hp])) (fun p hp => by rw [k1]; exact hl p (by simp [hp]))
      exact ⟨j1.trans k1, j2.trans k2, j3.trans k3, fun nt t ht => (j4 nt t ht).trans (k4 nt t ht)⟩

theorem any_sound {D : List Deferred} {dd : Nat → Bool} (hΓ : Γ.Ok Inv) (hI : Stable Inv) (h0 : Inv w0) (hE : chkEdges ops = true) {Q : Exit → Act → World → Prop} {sn : St} {F : List (Nat × Acc)} (hB : chkB ops F = true) (hddF : ∀ p ∈ F, dd p.1 = isDd p.2) :
    ∀ (fuel : Nat) (L : List (Nat × Acc)) (s : St) (listed : Array Bool) (a : Act) (w : World) (ρ : Nat → Nat) (A : Nat → Prop),
    RunA Γ ops m dd L s sn → L.length = fuel → s.hp.length = m + ops.size → listed.size = ops.size →
    (∀ i, i < ops.size → (listed.getD i true = false ↔ i ∈ L.map (·.1))) →
    (∀ j o, Listed listed j → ops[j]? = some o → ∀ e ∈ o.after.toList, Region.binds .any e = true → Listed listed e.on) →
    L.Pairwise (fun x y => x.1 < y.1) → L.Pairwise (fun x y => depB ops x y = true → pathB ops 4 y.1 x.1 = true) → (∀ x ∈ L, x.1 < ops.size) →
    (∀ p ∈ L, p ∈ F) → (∀ p ∈ F, isBl p.2 = true → p ∈ L) →
    Rel D w0 ρ A s a w → ((∀ p ∈ F, isPn p.2 = false) → ∀ a' w' ρ' A', Ext (Live s.hp) ρ A w (Live sn.hp) ρ' A' w' → Rel D w0 ρ' A' sn a' w' → Q .normal a' w') →
    (∀ p ∈ F, isPn p.2 = true → ∀ L' s' a' w' ρ' A', RunA Γ ops m dd L' s' sn → (∀ q ∈ L', q ∈ F) → s'.hp.length = m + ops.size → Ext (Live s.hp) ρ A w (Live s'.hp) ρ' A' w' → Rel D w0 ρ' A' s' a' w' →
      ∀ t v, Q (.panic [{ v := .iface t v, recovered := false }]) a' w') →
    wpAnyIn (Fr r) n Γ.P .any ops Q fuel listed a w := by
  intro fuel
  induction fuel with
  | zero =>
    intro L s listed a w ρ A hrun hlen hs hl hmem hcl hpw hdp hlt hsub hbl hr hK hP
    have : L = [] := List.length_eq_zero_iff.1 hlen
    subst this
    cases hrun
    refine ⟨?_, hK (fun p hp => ?_) a w ρ A (Ext.refl _ _ _ _) hr⟩
    · rw [List.eq_nil_iff_forall_not_mem]
      intro j hj
      obtain ⟨h1, o, ho, _⟩ := mem_ready.1 hj
      have := (hmem j (Array.getElem?_eq_some_iff.1 ho).1).1 h1
      simp at this
    · cases hpn : isPn p.2 with
      | false => rfl
      | true => have := hbl p hp (by simp [isBl, hpn]); cases this
  | succ fuel ih =>
    intro L s listed a w ρ A hrun hlen hs hl hmem hcl hpw hdp hlt hsub hbl hr hK hP
    refine ⟨fun hnil => ?_, fun i hi => ?_⟩
    · exfalso
      cases L with
      | nil => simp at hlen
      | cons x L =>
        have hx := hlt x (by simp)
        have hin : x.1 ∈ Region.ready .any ops listed := by
          rw [mem_ready]
          refine ⟨(hmem x.1 hx).2 (by simp), ops[x.1], by simp [hx], fun e he hb => ?_⟩
          have hE' := List.all_eq_true.1 hE x.1 (List.mem_range.2 hx)
          simp only [Array.getElem?_eq_getElem hx, List.all_eq_true, Bool.or_eq_true, Bool.not_eq_true'] at hE'
          have := hE' e (by simpa using he)
          rcases this with h | h
          · rw [hb] at h; cases h
          · have hlt' : e.on < x.1 := by simp only [Nat.blt, Nat.ble_eq] at h; omega
            have hes : e.on < ops.size := Nat.lt_trans hlt' hx
            cases hg : listed.getD e.on true with
            | true =>
              have he2 : e.on < listed.size := by rw [hl]; exact hes
              simp only [Array.getD, he2, dite_true] at hg ⊢
              exact hg
            | false =>
              exfalso
              have := (hmem e.on hes).1 hg
              simp only [List.map_cons, List.mem_cons, List.mem_map] at this
              rcases this with h | ⟨y, hy, h⟩
              · omega
              · have := (List.pairwise_cons.1 hpw).1 y hy; omega
        rw [hnil] at hin
        cases hin
    · obtain ⟨h1, oi, ho, hall⟩ := mem_ready.1 hi
      have hio : i < ops.size := (Array.getElem?_eq_some_iff.1 ho).1
      have hmi := (hmem i hio).1 h1
      obtain ⟨⟨i', ai⟩, hp, rfl⟩ := List.mem_map.1 hmi
      obtain ⟨L1, L2, rfl⟩ := List.append_of_mem hp
      simp only at *
      have notListed : ∀ x ∈ L1 ++ (i', ai) :: L2, ¬ Listed listed x.1 := by
        intro x hx hL
        have hxs := hlt x hx
        have := (hmem x.1 hxs).2 (List.mem_map.2 ⟨x, hx, rfl⟩)
        have he2 : x.1 < listed.size := by rw [hl]; exact hxs
        unfold Listed at hL
        simp only [Array.getD, he2, dite_true] at hL this
        rw [hL] at this
        cases this
      have hind : ∀ x ∈ L1, depB ops x (i', ai) = false := by
        intro x hx
        cases hd : depB ops x (i', ai) with
        | false => rfl
        | true =>
          exfalso
          have hpth := (List.pairwise_append.1 hdp).2.2 x hx (i', ai) (by simp) hd
          exact notListed x (by simp [hx]) (pathB_listed (l := listed) hcl 4 i' x.1 oi ho (fun e he hb => by
            have := hall e (by simpa using he) hb
            exact this) hpth)
      have hfr := hrun.front hind (fun x hx => by rw [hs]; have := hlt x (by simp [hx]); omega) (by rw [hs]; simp only; omega)
      have hF := hsub (i', ai) hp
      have hddi : dd i' = false := by
        rw [hddF _ hF]
        cases hd : isDd ai with
        | false => rfl
        | true =>
          exfalso
          have := List.all_eq_true.1 hB (i', ai) hF
          simp only [hd, Bool.not_true, Bool.false_or, ho, List.any_eq_true, Bool.and_eq_true, Nat.beq_eq] at this
          obtain ⟨e, he, hb, q, hq, hqe, hqb⟩ := this
          have hL : Listed listed e.on := hall e (by simpa using he) hb
          exact notListed q (hbl q hq hqb) (hqe ▸ hL)
      cases hfr with
      | @cons _ _ _ _ s1 _ hst ht =>
        refine stepD_sound hΓ hI h0 hr hddi hst (fun hnp a' w' ρ' A' hx hr' => ?_) (fun hpn t v w' ρ' A' hx hr' => ?_)
        case refine_2 =>
          exact hP _ hF hpn _ s a w' ρ' A' hrun hsub hs hx hr' t v
        have hs1 : s1.hp.length = s.hp.length := stepD_len hst (by rw [hs]; omega)
        have hnd : ∀ x ∈ L1 ++ L2, x.1 ≠ i' := by
          intro x hx he
          rcases List.mem_append.1 hx with h | h
          · have := (List.pairwise_append.1 hpw).2.2 x h (i', ai) (by simp); simp only at this; omega
          · have := (List.pairwise_cons.1 (List.pairwise_append.1 hpw).2.1).1 x h; simp only at this; omega
        refine ih (L1 ++ L2) s1 _ a' w' ρ' A' ht (by simp at hlen ⊢; omega) (by rw [hs1]; exact hs) (by simpa using hl) (fun j hj => ?_) (fun j o hL hoj e he hb => ?_) ?_ ?_ (fun x hx => hlt x ?_)
          (fun p hp => hsub p ?_) (fun p hp hb => ?_) hr' (fun hnp' a'' w'' ρ'' A'' hx' hr'' => hK hnp' a'' w'' ρ'' A'' (hx.trans hx') hr'')
          (fun p hp hpn L' s' a'' w'' ρ'' A'' hrun' hsub' hs' hx' hr'' => hP p hp hpn L' s' a'' w'' ρ'' A'' hrun' hsub' hs' (hx.trans hx') hr'')
        · by_cases hji : j = i'
          · subst hji
            rw [getD_set_same (by rw [hl]; exact hio)]
            simp only [Bool.true_eq_false, false_iff, List.mem_map, not_exists, not_and]
            exact fun x hx => hnd x hx
          · rw [getD_set_other hji, hmem j hj]
            simp only [List.map_append, List.map_cons, List.mem_append, List.mem_cons]
            constructor
            · rintro (h | h | h)
              · exact .inl h
              · exact absurd h hji
              · exact .inr h
            · rintro (h | h)
              · exact .inl h
              · exact .inr (.inr h)
        · unfold Listed at hL ⊢
          by_cases hji : j = i'
          · subst hji
            rw [ho] at hoj
            cases hoj
            have := hall e (by simpa using he) hb
            by_cases hei : e.on = j
            · rw [hei]; exact getD_set_same (by rw [hl]; exact hio)
            · rw [getD_set_other hei]; exact this
          · rw [getD_set_other hji] at hL
            have := hcl j o hL hoj e he hb
            unfold Listed at this
            by_cases hei : e.on = i'
            · rw [hei]; exact getD_set_same (by rw [hl]; exact hio)
            · rw [getD_set_other hei]; exact this
        · exact List.Pairwise.sublist (by simp) hpw
        · exact List.Pairwise.sublist (by simp) hdp
        · rcases List.mem_append.1 hx with h | h <;> simp [h]
        · rcases List.mem_append.1 hp with h | h <;> simp [h]
        · have := hbl p hp hb
          simp only [List.mem_append, List.mem_cons] at this ⊢
          rcases this with h | h | h
          · exact .inl h
          · exfalso
            rw [h] at hb
            have hdp' : isDd ai = false := by rw [← hddi, hddF _ hF]
            simp [isBl, hnp, hdp'] at hb
          · exact .inr h

theorem chkM_pw : ∀ {L : List (Nat × Acc)}, chkM ops L = true → L.Pairwise (fun x y => memDep x.2 y.2 = true → pathB ops 4 y.1 x.1 = true) := by
  intro L
  induction L with
  | nil => intro _; exact .nil
  | cons x L ih =>
    intro h
    simp only [chkM, Bool.and_eq_true, List.all_eq_true, Bool.or_eq_true, Bool.not_eq_true'] at h
    refine .cons (fun y hy hd => ?_) (ih h.2)
    rcases h.1 y hy with h | h
    · rw [hd] at h; cases h
    · exact h
theorem chkT_pw : ∀ {L : List Nat}, chkT ops L = true → L.Pairwise (fun x y => tempB ops x y = true → pathB ops 4 y x = true) := by
  intro L
  induction L with
  | nil => intro _; exact .nil
  | cons x L ih =>
    intro h
    simp only [chkT, Bool.and_eq_true, List.all_eq_true, Bool.or_eq_true, Bool.not_eq_true'] at h
    refine .cons (fun y hy hd => ?_) (ih h.2)
    rcases h.1 y hy with h | h
    · rw [hd] at h; cases h
    · exact h

theorem Rel.pad {st : St} {ρ : Nat → Nat} {A : Nat → Prop} {a : Act} {w : World} (h : Rel D w0 ρ A st a w) (k : Nat) : Rel D w0 ρ A ⟨st.tm, st.hp ++ List.replicate k .free⟩ a w :=
  ⟨h.tm.mono (fun _ hi => live_pad.2 hi) (fun _ _ => rfl) (fun _ h => h) (fun _ _ => rfl), h.df, h.mem.pad k⟩
theorem Rel.trim {st : St} {ρ : Nat → Nat} {A : Nat → Prop} {a : Act} {w : World} (h : Rel D w0 ρ A st a w) : Rel D w0 ρ A ⟨st.tm, Go.Evl.trim st.hp⟩ a w :=
  ⟨h.tm.mono (fun _ hi => live_trim.2 hi) (fun _ _ => rfl) (fun _ h => h) (fun _ _ => rfl), h.df, h.mem.trim⟩
theorem Rel.drew {st : St} {ρ : Nat → Nat} {A : Nat → Prop} {a : Act} {w : World} (h : Rel D w0 ρ A st a w) : Rel D w0 ρ A st a w.drew :=
  ⟨h.tm.mono (fun _ h => h) (fun _ _ => rfl) (fun _ h => h) (fun _ _ => rfl), h.df, h.mem.drew⟩

theorem drawF_sound (hΓ : Γ.Ok Inv) (hI : Stable Inv) (hm : Γ.P.follows .mixedOrders = true) : DrawSound Γ.P Inv (drawF Γ) := by
  intro ops st e st' h D w0 ρ A w a r n id h0 hr
  unfold drawF at h
  split at h
  case isFalse => simp at h
  rename_i hS
  split at h
  · simp at h
  rename_i L s hrun
  unfold endD at h
  split at h
  case isFalse => simp at h
  rename_i hMB
  simp only [Bool.and_eq_true] at hMB
  obtain ⟨hM, hB⟩ := hMB
  obtain ⟨hidx, hra⟩ := runD_runA _ _ hrun
  simp only [chkS, Bool.and_eq_true] at hS
  obtain ⟨hE, hT⟩ := hS
  have hlen : L.length = ops.size := by rw [← List.length_map (as := L) (·.1), hidx]; simp
  have hall : ∀ x ∈ L, x.1 < ops.size := fun x hx => by
    have : x.1 ∈ L.map (·.1) := List.mem_map.2 ⟨x, hx, rfl⟩
    rw [hidx] at this
    simpa using this
  have hTp : L.Pairwise (fun x y => tempB ops x.1 y.1 = true → pathB ops 4 y.1 x.1 = true) := by
    have := chkT_pw hT
    rw [← hidx, List.pairwise_map] at this
    exact this
  have hlp : L.Pairwise (fun x y => x.1 < y.1) := by
    have : (List.range ops.size).Pairwise (· < ·) := List.pairwise_lt_range
    rw [← hidx, List.pairwise_map] at this
    exact this
  have hdd : ∀ p ∈ L, ddOf L p.1 = isDd p.2 := fun p hp => ddOf_mem hlp hp
  refine wpIn_region_any hm (any_sound hΓ hI h0 hE hB hdd ops.size L _ _ a w.drew ρ A (hra _ hdd) hlen (by simp) (by simp) (fun i hi => ?_) (fun j o hL => ?_) hlp ?_ hall (fun _ h => h) (fun _ h _ => h) (hr.drew.pad ops.size)
    (fun hnp a' w' ρ' A' hx hr' => ?_) (fun p hp hpn L' s' a' w' ρ' A' hrun' hsub' hs' hx hr' t v => ?_))
  · rw [hidx]; simp [Array.getD, hi]
  · unfold Listed at hL
    simp only [Array.getD, Array.size_replicate] at hL
    split at hL <;> simp at hL
  · refine List.Pairwise.imp ?_ (hTp.and (chkM_pw hM))
    rintro x y ⟨hx, hy⟩ hd
    simp only [depB, Bool.or_eq_true] at hd
    rcases hd with hd | hd
    · exact hx hd
    · exact hy hd
  · have hno : L.any (fun p => isPn p.2) = false := by
      rw [List.any_eq_false]; intro p hp; rw [hnp p hp]; simp
    rw [if_neg (by simp [hno])] at h
    simp only [Option.some.injEq, Prod.mk.injEq] at h
    obtain ⟨rfl, rfl⟩ := h
    refine ⟨ρ', A', ?_, rfl, hr'.trim⟩
    exact ⟨fun id hi => live_trim.2 (hx.ids id (live_pad.2 hi)), fun id hi => hx.nam id (live_pad.2 hi), hx.imm, hx.keep, hx.late, hx.size⟩
  · have hyes : L.any (fun p => isPn p.2) = true := List.any_eq_true.2 ⟨p, hp, hpn⟩
    rw [if_pos hyes] at h
    split at h
    · simp at h
    rename_i hwr
    have hwr' : ∀ q ∈ L', isWr q.2 = false := fun q hq => by
      cases hw : isWr q.2 with
      | false => rfl
      | true => exact absurd (List.any_eq_true.2 ⟨q, hsub' q hq, hw⟩) hwr
    obtain ⟨k1, k2, k3, k4⟩ := runA_keep hrun' hwr' (fun q hq => by rw [hs']; have := hall q (hsub' q hq); omega)
    have hpos : 0 < ops.size := Nat.lt_of_le_of_lt (Nat.zero_le _) (hall p hp)
    have hcut : cutBack (keepD ops s'.tm.length) st.hp.length s' = cutBack (keepD ops s.tm.length) st.hp.length s := by
      have hb1 : Nat.beq s.hp.length st.hp.length = false := by rw [Bool.eq_false_iff]; simp only [ne_eq, Nat.beq_eq]; rw [k1, hs']; omega
      have hb2 : Nat.beq s'.hp.length st.hp.length = false := by rw [Bool.eq_false_iff]; simp only [ne_eq, Nat.beq_eq]; rw [hs']; omega
      have hmap : (keepD ops s'.tm.length).map (getT s'.tm) = (keepD ops s.tm.length).map (getT s.tm) := by
        rw [k3]
        exact List.map_congr_left fun t ht => (k4 _ t ht).symm
      unfold cutBack
      rw [hb1, hb2, hmap, k1, k2]
      simp only [Bool.false_eq_true, if_false]
    split at h
    · rename_i vs H hc
      simp only [Option.some.injEq, Prod.mk.injEq] at h
      obtain ⟨rfl, rfl⟩ := h
      rw [← hcut] at hc
      obtain ⟨hrel, hlv, hH, _⟩ := cutBack_rel hr' hc
      rw [k3]
      refine ⟨ρ', A', ?_, t, v, rfl, hrel⟩
      refine ⟨fun id hi => hlv id (hx.ids id (live_pad.2 hi)) (live_lt hi), fun id hi => hx.nam id (live_pad.2 hi), hx.imm, hx.keep, hx.late, hx.size⟩
    · simp at h

theorem stepD_tmlen {dd : Nat → Bool} {i : Nat} {s s1 : St} {a : Acc} (h : stepD Γ ops m dd i s = some (a, s1)) : s1.tm.length = s.tm.length := by
  unfold stepD at h
  cases hk : kindD Γ ops dd i s.tm with
  | none => simp [hk] at h
  | some kd =>
    simp only [hk] at h
    cases kd with
    | fix a' u => simp only [Option.some.injEq, Prod.mk.injEq] at h; obtain ⟨_, rfl⟩ := h; exact putA_length _ _ _
    | act p =>
      simp only at h
      cases hd : doPlan (m + i) s.hp p with
      | none => simp [hd] at h
      | some vH =>
        obtain ⟨v, H⟩ := vH
        simp only [hd, Option.some.injEq, Prod.mk.injEq] at h
        obtain ⟨_, rfl⟩ := h
        exact putA_length _ _ _
theorem runD_tmlen : ∀ (l bl : List Nat) {s s1 : St} {L : List (Nat × Acc)}, runD Γ ops m l bl s = some (L, s1) → s1.tm.length = s.tm.length := by
  intro l
  induction l with
  | nil => intro bl s s1 L h; simp only [runD, Option.some.injEq, Prod.mk.injEq] at h; obtain ⟨_, rfl⟩ := h; rfl
  | cons i l ih =>
    intro bl s s1 L h
    simp only [runD] at h
    split at h
    · simp at h
    · rename_i a s2 h1
      split at h
      · simp at h
      · rename_i L' s3 h2
        simp only [Option.some.injEq, Prod.mk.injEq] at h
        obtain ⟨_, rfl⟩ := h
        rw [ih _ h2, stepD_tmlen h1]
theorem drawF_len : DrawLen (drawF Γ) := by
  intro ops st e st' h
  unfold drawF at h
  split at h
  case isFalse => simp at h
  split at h
  · simp at h
  rename_i L s hrun
  have hl := runD_tmlen _ _ hrun
  unfold endD at h
  split at h
  case isFalse => simp at h
  split at h
  · split at h
    · simp at h
    · split at h
      · simp only [Option.some.injEq, Prod.mk.injEq] at h
        obtain ⟨rfl, rfl⟩ := h
        simp [mkF_length, hl]
      · simp at h
  · simp only [Option.some.injEq, Prod.mk.injEq] at h
    obtain ⟨rfl, rfl⟩ := h
    exact hl
end
end Go.Evl
