/- The evaluator is right about code: the theorem; and about functions. Conditions: the context's contracts hold; loops' summaries are right; drawn regions are right. -/
import Derived.Test.YtekkphoingjidaaDoorEvK
namespace Go.Evl
open Go.RowKit

section
variable {D : List Deferred} {Γ : Cx} {Inv : World → Prop} {cf : CallF} {df : DrawF} {lp : Nat → LK} {w0 : World} {r : Option Nat} {n : Nat}

theorem cutBack_mem {ρ : Nat → Nat} {A : Nat → Prop} {w : World} {keep : List Nat} {m : Nat} {st : St} {vs : List AV} {H : List Ob} (h : Mem w0 ρ A w st.hp) (hc : cutBack keep m st = some (vs, H)) :
    Mem w0 ρ A w H ∧ (∀ id, Live st.hp id → id < m → Live H id) := by
  unfold cutBack at hc
  split at hc
  · simp only [Option.some.injEq, Prod.mk.injEq] at hc
    obtain ⟨_, rfl⟩ := hc
    exact ⟨h, fun _ h _ => h⟩
  · split at hc
    · rename_i hcond
      simp only [Bool.and_eq_true, Nat.ble_eq, List.all_eq_true] at hcond
      obtain ⟨_, hb2⟩ := hcond
      simp only [Option.some.injEq, Prod.mk.injEq] at hc
      obtain ⟨_, rfl⟩ := hc
      have hlv : ∀ id, Upto (Live st.hp) m id → Live (st.hp.take m) id := fun id hi => live_take.2 hi
      refine ⟨⟨⟨fun id o ho => ?_, fun i j hi hj => h.hp.inj i j (live_take.1 hi).1 (live_take.1 hj).1⟩, h.bel, h.lt⟩, fun id h1 h2 => live_take.2 ⟨h1, h2⟩⟩
      have ho' : st.hp[id]? = some o ∧ id < m := by
        rw [List.getElem?_take] at ho
        split at ho
        · exact ⟨ho, ‹_›⟩
        · simp at ho
      have hob := h.hp.obj id o ho'.1
      have hbo := hb2 o (List.mem_of_getElem? ho)
      cases o with
      | free => trivial
      | cells cs t =>
        obtain ⟨k1, k2, us, k3, k4⟩ := hob
        simp only [bndOb] at hbo
        exact ⟨k1, k2, us, k3, (k4.bnd hbo).mono hlv (fun _ _ => rfl) (fun _ h => h) (fun _ _ => rfl)⟩
    · simp at hc

theorem live_lt {H : List Ob} {id : Nat} (h : Live H id) : id < H.length := by
  obtain ⟨o, ho, _⟩ := h
  exact (List.getElem?_eq_some_iff.1 ho).1

def csz : Code → Nat
  | .seq a b => csz a + csz b + 1
  | .cond _ a b => csz a + csz b + 1
  | .block _ c => csz c + 1
  | .loop c => csz c + 1
  | _ => 1
theorem csz_pos (c : Code) : 0 < csz c := by cases c <;> simp [csz]

theorem runC_block {id : Nat} {c : Code} (h : ∀ b, c ≠ .loop b) (st : St) : runC Γ cf df lp (.block id c) st = inBlk id (runC Γ cf df lp c st) := by
  cases c <;> first | rfl | exact absurd rfl (h _)

theorem runC_sound (hΓ : Γ.Ok Inv) (hI : Stable Inv) (h0 : Inv w0) (hcf : CallSound Γ.P Inv cf) (hdf : DrawSound Γ.P Inv df) (hdl : DrawLen df) {nt : Nat} : ∀ (m : Nat) (c : Code), csz c ≤ m → LoopsOk Γ cf df lp nt c →
    ∀ (st : St) (ρ : Nat → Nat) (A : Nat → Prop) (w : World) (a : Act) (e : Ex) (st' : St), Rel D w0 ρ A st a w → st.tm.length = nt → runC Γ cf df lp c st = some (e, st') →
      c.wpIn (Fr r) n Γ.P (Out D w0 ρ A w st.hp e st') a w := by
  intro m
  induction m with
  | zero => intro c hc; have := csz_pos c; omega
  | succ m ih =>
    intro c hc hlp st ρ A w a e st' hr hlen h
    cases c with
    | skip =>
      simp only [runC, Option.some.injEq, Prod.mk.injEq] at h
      obtain ⟨rfl, rfl⟩ := h
      exact wpIn_skip ⟨ρ, A, Ext.refl _ _ _ _, rfl, hr⟩
    | region id ops draw =>
      simp only [runC] at h
      cases draw with
      | true => exact hdf ops st e st' h D w0 ρ A w a r n id h0 hr
      | false => exact wpIn_region (runIdx_sound hΓ hI h0 hcf _ st ρ A w a _ hr h fun _ _ _ ho => ho)
    | seq x y =>
      have hx : LoopsOk Γ cf df lp nt x := fun p hp => hlp p (by simp [loops, hp])
      have hy : LoopsOk Γ cf df lp nt y := fun p hp => hlp p (by simp [loops, hp])
      simp only [csz] at hc
      simp only [runC] at h
      split at h
      · rename_i st1 h1
        refine wpIn_seq (wpIn_mono (ih x (by omega) hx st ρ A w a _ _ hr hlen h1) ?_)
        rintro x' a1 w1 ⟨ρ1, A1, hext, rfl, hr1⟩
        refine wpIn_mono (ih y (by omega) hy st1 ρ1 A1 w1 a1 _ _ hr1 (by rw [runC_length hdl x h1, hlen]) h) ?_
        exact fun _ _ _ ho => Out.from hext ho
      · rename_i hne
        refine wpIn_seq (wpIn_mono (ih x (by omega) hx st ρ A w a _ _ hr hlen h) ?_)
        intro x' a1 w1 ho
        cases e with
        | normal => exact absurd h (hne _)
        | exit i => obtain ⟨ρ1, A1, hext, rfl, hr1⟩ := ho; exact ⟨ρ1, A1, hext, rfl, hr1⟩
        | ret => obtain ⟨ρ1, A1, hext, rfl, hr1⟩ := ho; exact ⟨ρ1, A1, hext, rfl, hr1⟩
        | pan => obtain ⟨ρ1, A1, hext, t, v, rfl, hr1⟩ := ho; exact ⟨ρ1, A1, hext, t, v, rfl, hr1⟩
    | cond o x y =>
      have hx : LoopsOk Γ cf df lp nt x := fun p hp => hlp p (by simp [loops, hp])
      have hy : LoopsOk Γ cf df lp nt y := fun p hp => hlp p (by simp [loops, hp])
      simp only [csz] at hc
      simp only [runC] at h
      split at h
      · rename_i t ht
        have hb := opd_rv hr.tm o
        rw [ht] at hb
        refine wpIn_cond hb.of_bool ?_
        cases t with
        | true => exact ih x (by omega) hx st ρ A w a _ _ hr hlen h
        | false => exact ih y (by omega) hy st ρ A w a _ _ hr hlen h
      · simp at h
    | block id c =>
      by_cases hl : ∃ b, c = .loop b
      · obtain ⟨body, rfl⟩ := hl
        have hlb : LoopsOk Γ cf df lp nt body := fun p hp => hlp p (by simp [loops, hp])
        simp only [csz] at hc
        simp only [runC] at h
        refine wpIn_block ?_
        split at h
        · rename_i k hk
          obtain ⟨e0, he0⟩ := inBlk_length h
          refine wpIn_loop_ghost (fun j a' w' => ∃ st1 ρ1 A1, Rel D w0 ρ1 A1 st1 a' w' ∧ st1.tm.length = nt ∧ Ext (Live st.hp) ρ A w (Live st1.hp) ρ1 A1 w' ∧ iterN (runC Γ cf df lp body) j st1 = some (e0, st')) k
            ⟨st, ρ, A, hr, hlen, Ext.refl _ _ _ _, he0⟩ ?_
          rintro j a' w' ⟨st1, ρ1, A1, hr1, hl1, hext, hit⟩
          cases j with
          | zero => simp [iterN] at hit
          | succ j =>
            simp only [iterN] at hit
            split at hit
            · rename_i st2 h2
              refine wpIn_mono (ih body (by omega) hlb st1 ρ1 A1 w' a' _ _ hr1 hl1 h2) ?_
              rintro x' a2 w2 ⟨ρ2, A2, hext2, rfl, hr2⟩
              exact ⟨j, Nat.lt_succ_self j, st2, ρ2, A2, hr2, by rw [runC_length hdl body h2, hl1], hext.trans hext2, hit⟩
            · rename_i hne
              refine wpIn_mono (ih body (by omega) hlb st1 ρ1 A1 w' a' _ _ hr1 hl1 hit) ?_
              intro x' a2 w2 ho
              have := inBlk_out he0 h (Out.from hext ho)
              cases e0 with
              | normal => exact absurd hit (hne _)
              | exit i => obtain ⟨ρ2, A2, hext2, rfl, hr2⟩ := ho; exact this
              | ret => obtain ⟨ρ2, A2, hext2, rfl, hr2⟩ := ho; exact this
              | pan => obtain ⟨ρ2, A2, hext2, t, v, rfl, hr2⟩ := ho; exact this
        · rename_i keep f hk
          split at h
          · rename_i e0 vs0 H0 hf
            obtain ⟨_, _, μ, hsum⟩ := hlp (id, body) (by simp [loops]) keep f hk
            have hstart : Rel D w0 ρ A ⟨mkF nt keep (keep.map (getT st.tm)), st.hp⟩ a w := ⟨by rw [← hlen]; exact mkF_rel hr.tm rfl, hr.df, hr.mem⟩
            rw [hlen] at h
            refine wpIn_loop_ghost (fun j a' w' => ∃ vs H ρ1 A1, f vs H = some (e0, vs0, H0) ∧ μ vs H = j ∧ vs.length = keep.length ∧ H.length = st.hp.length ∧ Rel D w0 ρ1 A1 ⟨mkF nt keep vs, H⟩ a' w' ∧
              Ext (Live st.hp) ρ A w (Live H) ρ1 A1 w') (μ (keep.map (getT st.tm)) st.hp) ⟨_, _, ρ, A, hf, rfl, by simp, rfl, hstart, Ext.refl _ _ _ _⟩ ?_
            rintro j a' w' ⟨vs, H, ρ1, A1, hf1, hμ, hvl, hHl, hr1, hext⟩
            obtain ⟨e1, st1, vs1, H1, hrun, hcut, hres⟩ := hsum vs H _ hvl hf1
            have hl1 : st1.tm.length = nt := by rw [runC_length hdl body hrun]; simp [mkF_length]
            refine wpIn_mono (ih body (by omega) hlb ⟨mkF nt keep vs, H⟩ ρ1 A1 w' a' _ _ hr1 (by simp [mkF_length]) hrun) ?_
            intro x' a2 w2 ho
            obtain ⟨ρ2, A2, hext2, ho2⟩ := ho
            have hcutExt : ∀ (hm : Mem w0 ρ2 A2 w2 st1.hp), Mem w0 ρ2 A2 w2 H1 ∧ Ext (Live st.hp) ρ A w (Live H1) ρ2 A2 w2 := by
              intro hm
              obtain ⟨hm1, hlv⟩ := cutBack_mem hm hcut
              refine ⟨hm1, hext.trans ⟨fun id hi => hlv id (hext2.ids id hi) (live_lt hi), hext2.nam, hext2.imm, hext2.keep, hext2.late, hext2.size⟩⟩
            cases e1 with
            | normal =>
              obtain ⟨rfl, hr2⟩ := ho2
              obtain ⟨hf2, hlt⟩ := hres
              obtain ⟨hr3, _, hH3, hv3⟩ := cutBack_rel hr2 hcut
              rw [hl1] at hr3
              obtain ⟨_, hx⟩ := hcutExt hr2.mem
              exact ⟨_, hμ ▸ hlt, vs1, H1, ρ2, A2, hf2, rfl, hv3, by rw [hH3]; exact hHl, hr3, hx⟩
            | exit i =>
              obtain ⟨rfl, hr2⟩ := ho2
              simp only [Prod.mk.injEq] at hres
              obtain ⟨rfl, rfl, rfl⟩ := hres
              obtain ⟨hr3, _, hH3, hv3⟩ := cutBack_rel hr2 hcut
              rw [hl1] at hr3
              obtain ⟨_, hx⟩ := hcutExt hr2.mem
              exact inBlk_out (e0 := .exit i) rfl h ⟨ρ2, A2, hx, rfl, hr3⟩
            | ret =>
              obtain ⟨rfl, hr2⟩ := ho2
              simp only [Prod.mk.injEq] at hres
              obtain ⟨rfl, rfl, rfl⟩ := hres
              obtain ⟨hr3, _, hH3, hv3⟩ := cutBack_rel hr2 hcut
              rw [hl1] at hr3
              obtain ⟨_, hx⟩ := hcutExt hr2.mem
              exact inBlk_out (e0 := .ret) rfl h ⟨ρ2, A2, hx, rfl, hr3⟩
            | pan =>
              obtain ⟨t, v, rfl, hr2⟩ := ho2
              simp only [Prod.mk.injEq] at hres
              obtain ⟨rfl, rfl, rfl⟩ := hres
              obtain ⟨hr3, _, hH3, hv3⟩ := cutBack_rel hr2 hcut
              rw [hl1] at hr3
              obtain ⟨_, hx⟩ := hcutExt hr2.mem
              exact inBlk_out (e0 := .pan) rfl h ⟨ρ2, A2, hx, t, v, rfl, hr3⟩
          · simp at h
      · have hne : ∀ b, c ≠ .loop b := fun b e => hl ⟨b, e⟩
        have hlc : LoopsOk Γ cf df lp nt c := fun p hp => hlp p (by
          cases c <;> first | exact absurd rfl (hne _) | (simp only [loops] at hp ⊢; exact hp))
        simp only [csz] at hc
        rw [runC_block hne] at h
        obtain ⟨e0, he0⟩ := inBlk_length h
        refine wpIn_block (wpIn_mono (ih c (by omega) hlc st ρ A w a _ _ hr hlen he0) ?_)
        intro x' a1 w1 ho
        exact inBlk_out he0 h ho
    | exit id =>
      simp only [runC, Option.some.injEq, Prod.mk.injEq] at h
      obtain ⟨rfl, rfl⟩ := h
      exact wpIn_exit ⟨ρ, A, Ext.refl _ _ _ _, rfl, hr⟩
    | ret =>
      simp only [runC, Option.some.injEq, Prod.mk.injEq] at h
      obtain ⟨rfl, rfl⟩ := h
      exact wpIn_ret ⟨ρ, A, Ext.refl _ _ _ _, rfl, hr⟩
    | loop b => simp [runC] at h
    | rangeFunc f p x y => simp [runC] at h
    | scope x => simp [runC] at h
    | label l => simp [runC] at h
    | goto l => simp [runC] at h
    | refuse l => simp [runC] at h
end
end Go.Evl
