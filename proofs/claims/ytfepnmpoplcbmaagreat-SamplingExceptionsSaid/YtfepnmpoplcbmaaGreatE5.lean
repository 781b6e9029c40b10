/- The tail decision of the program: contracts. Conditions: none beyond the context's. -/
import Derived.Test.YtfepnmpoplcbmaaGreatE4
import Derived.Shelf.Small.Bits
import Derived.Test.YtfepnmpoplcbmaaGreatProg
namespace Go.Evl
open Go.RowKit
structure Ls (S : Type) where
  id : Nat
  dec : List AV → List Ob → Option S
  vs : S → List AV
  hp : S → List Ob
  rnd : S → Option (Ex × List AV × List Ob)
def Ls.Ok {S : Type} (L : Ls S) : Prop := ∀ vs H s, L.dec vs H = some s → vs = L.vs s ∧ H = L.hp s
section
variable {S : Type} (L : Ls S)
inductive Rd (S : Type) where
  | on (s : S)
  | out (s : S)
  | ret (s : S)
  | bad
def Ls.cls : Option (Ex × List AV × List Ob) → Rd S
  | some (.normal, vs, H) => match L.dec vs H with
    | some s => .on s
    | none => .bad
  | some (.exit j, vs, H) => if j = L.id then match L.dec vs H with
      | some s => .out s
      | none => .bad else .bad
  | some (.ret, vs, H) => match L.dec vs H with
    | some s => .ret s
    | none => .bad
  | _ => .bad
def mdB (m : Nat) (b : Bool) : Bool := match m with
  | 0 => !b
  | 1 => b
  | _ => true
def Ls.go : Nat → S → Option (Nat × Bool × S)
  | 0, _ => none
  | f + 1, s => match L.cls (L.rnd s) with
    | .on s' => (Ls.go f s').map fun q => (q.1 + 1, q.2)
    | .out s' => some (0, false, s')
    | .ret s' => some (0, true, s')
    | .bad => none
theorem Ls.go_mono : ∀ {f : Nat} {s : S} {q : Nat × Bool × S}, L.go f s = some q → ∀ {g : Nat}, f ≤ g → L.go g s = some q
  | 0, _, _, h, _, _ => by cases h
  | f + 1, s, q, h, 0, hg => by omega
  | f + 1, s, q, h, g + 1, hg => by
    simp only [Ls.go] at h ⊢
    split at h
    · rename_i s' e
      obtain ⟨r, hr, rfl⟩ := Option.map_eq_some_iff.1 h
      rw [Ls.go_mono hr (show f ≤ g by omega)]
      rfl
    · exact h
    · exact h
    · cases h
noncomputable def Ls.res (s : S) : Option (Nat × Bool × S) := @dite _ (∃ f q, L.go f s = some q) (Classical.propDecidable _) (fun h => some h.choose_spec.choose) fun _ => none
theorem Ls.res_of {f : Nat} {s : S} {q : Nat × Bool × S} (h : L.go f s = some q) : L.res s = some q := by
  unfold Ls.res
  have hx : ∃ f q, L.go f s = some q := ⟨f, q, h⟩
  rw [dif_pos hx]
  have h2 := hx.choose_spec.choose_spec
  congr 1
  have a := L.go_mono h (Nat.le_max_left f hx.choose)
  have b := L.go_mono h2 (Nat.le_max_right f hx.choose)
  rw [a] at b
  exact (Option.some.inj b).symm
theorem Ls.res_ex {s : S} {q : Nat × Bool × S} (h : L.res s = some q) : ∃ f, L.go f s = some q := by
  unfold Ls.res at h
  by_cases hx : ∃ f q, L.go f s = some q
  · rw [dif_pos hx] at h
    obtain rfl := Option.some.inj h
    exact ⟨_, hx.choose_spec.choose_spec⟩
  · rw [dif_neg hx] at h
    cases h
theorem Ls.res_on {s s' : S} (h : L.cls (L.rnd s) = .on s') : L.res s = (L.res s').map fun q => (q.1 + 1, q.2) := by
  cases e : L.res s' with
  | some q =>
    obtain ⟨f, hf⟩ := L.res_ex e
    refine L.res_of (f := f + 1) ?_
    simp only [Ls.go, h, hf, Option.map_some]
  | none =>
    cases e2 : L.res s with
    | none => rfl
    | some q =>
      obtain ⟨f, hf⟩ := L.res_ex e2
      cases f with
      | zero => cases hf
      | succ f =>
        simp only [Ls.go, h] at hf
        obtain ⟨r, hr, _⟩ := Option.map_eq_some_iff.1 hf
        rw [L.res_of hr] at e
        cases e
noncomputable def Ls.end_ (s : S) : Bool × S := match L.res s with
  | some q => q.2
  | none => (false, s)
noncomputable def Ls.ok (m : Nat) (s : S) : Bool := match L.res s with
  | some q => mdB m q.2.1
  | none => false
def Ls.fin (m : Nat) (b : Bool) (s : S) : Tr (Ex × List AV × List Ob) := match m with
  | 0 => .leaf (.exit L.id, L.vs s, L.hp s)
  | 1 => .leaf (.ret, L.vs s, L.hp s)
  | _ => .node b (.leaf (.ret, L.vs s, L.hp s)) (.leaf (.exit L.id, L.vs s, L.hp s))
theorem Ls.fin_eq {m : Nat} {b : Bool} {s : S} (h : mdB m b = true) : (L.fin m b s).run = some (bif b then (.ret, L.vs s, L.hp s) else (.exit L.id, L.vs s, L.hp s)) := by
  match m with
  | 0 => cases b with
    | false => rfl
    | true => cases h
  | 1 => cases b with
    | true => rfl
    | false => cases h
  | m + 2 => cases b <;> rfl
def Ls.To (s : S) (b : Bool) (s' : S) : Prop := ∃ k, L.res s = some (k, b, s')
theorem Ls.To.on {s s1 s2 : S} {b : Bool} (h : L.cls (L.rnd s) = .on s1) (h2 : L.To s1 b s2) : L.To s b s2 := by
  obtain ⟨k, hk⟩ := h2
  exact ⟨k + 1, by rw [L.res_on h, hk]; rfl⟩
theorem Ls.To.out {s s1 : S} (h : L.cls (L.rnd s) = .out s1) : L.To s false s1 := ⟨0, L.res_of (f := 1) (by simp only [Ls.go, h])⟩
theorem Ls.To.ret {s s1 : S} (h : L.cls (L.rnd s) = .ret s1) : L.To s true s1 := ⟨0, L.res_of (f := 1) (by simp only [Ls.go, h])⟩
theorem Ls.To.end_ {s s' : S} {b : Bool} (h : L.To s b s') : L.end_ s = (b, s') := by
  obtain ⟨k, hk⟩ := h
  unfold Ls.end_
  rw [hk]
theorem Ls.To.ok {s s' : S} {b : Bool} (h : L.To s b s') {m : Nat} (hm : mdB m b = true) : L.ok m s = true := by
  obtain ⟨k, hk⟩ := h
  unfold Ls.ok
  rw [hk]
  exact hm
theorem Ls.ok_to {m : Nat} {s : S} (h : L.ok m s = true) : L.To s (L.end_ s).1 (L.end_ s).2 ∧ mdB m (L.end_ s).1 = true := by
  unfold Ls.ok at h
  unfold Ls.end_ Ls.To
  cases e : L.res s with
  | none => rw [e] at h; cases h
  | some q =>
    rw [e] at h
    exact ⟨⟨q.1, rfl⟩, h⟩
theorem Ls.to_on {s s1 s2 : S} {b : Bool} (h : L.rnd s = some (.normal, L.vs s1, L.hp s1)) (hd : L.dec (L.vs s1) (L.hp s1) = some s1) (h2 : L.To s1 b s2) : L.To s b s2 := Ls.To.on L (by simp only [Ls.cls, h, hd]) h2
theorem Ls.to_out {s s1 : S} (h : L.rnd s = some (.exit L.id, L.vs s1, L.hp s1)) (hd : L.dec (L.vs s1) (L.hp s1) = some s1) : L.To s false s1 := Ls.To.out L (by simp only [Ls.cls, h, hd, if_pos])
theorem Ls.to_ret {s s1 : S} (h : L.rnd s = some (.ret, L.vs s1, L.hp s1)) (hd : L.dec (L.vs s1) (L.hp s1) = some s1) : L.To s true s1 := Ls.To.ret L (by simp only [Ls.cls, h, hd])
section
variable {P : Program} {sp : Sp} {inl : FuncId → Bool} {ext : FuncId → Option (List AV → Option (Bool × AV))} {cK : {β : Type} → CallK β}
theorem sum_ls {lp : Nat → LT} {nt : Nat} {body : Code} {keep : List Nat} (m : Nat) (hL : L.Ok) (hr : ∀ s, evC P sp inl ext cK lp body ⟨mkF nt keep (L.vs s), L.hp s⟩ (fun e st => (cutBack keep (L.hp s).length st).map fun q => (e, q.1, q.2)) = L.rnd s) :
    SumOkT P sp inl ext cK lp nt body keep (stF L.dec (L.ok m) fun s => L.fin m (L.end_ s).1 (L.end_ s).2) := by
  refine sum_st L.dec (L.ok m) _ L.vs L.hp (fun s => match L.res s with | some q => q.1 | none => 0) hL fun s R hd hR => ?_
  obtain ⟨hto, hm⟩ := L.ok_to hd
  rw [L.fin_eq hm] at hR
  obtain rfl := Option.some.inj hR
  rw [hr s]
  obtain ⟨k, hk⟩ := hto
  obtain ⟨f, hf⟩ := L.res_ex hk
  cases f with
  | zero => cases hf
  | succ f =>
    simp only [Ls.go] at hf
    split at hf
    · rename_i s1 e
      left
      obtain ⟨⟨k1, r⟩, hr1, er⟩ := Option.map_eq_some_iff.1 hf
      simp only [Prod.mk.injEq] at er
      obtain ⟨ek, rfl⟩ := er
      have hres := L.res_of hr1
      have hto1 : L.To s1 (L.end_ s).1 (L.end_ s).2 := ⟨k1, hres⟩
      have hex : ∃ vs H, L.rnd s = some (.normal, vs, H) ∧ L.dec vs H = some s1 := by
        unfold Ls.cls at e
        split at e
        · rename_i vs H hrn
          split at e
          · rename_i s2 hd2
            cases e
            exact ⟨vs, H, hrn, hd2⟩
          · cases e
        · split at e
          · split at e <;> cases e
          · cases e
        · split at e <;> cases e
        · cases e
      obtain ⟨vs, H, h1, h2⟩ := hex
      obtain ⟨rfl, rfl⟩ := hL vs H s1 h2
      refine ⟨s1, h1, h2, hto1.ok L hm, ?_, ?_⟩
      · rw [hto1.end_ L]
        exact L.fin_eq hm
      · rw [hres, hk]
        show k1 < k
        omega
    · rename_i s1 e
      right
      simp only [Option.some.injEq, Prod.mk.injEq] at hf
      obtain ⟨_, e2, e3⟩ := hf
      rw [← e2, ← e3]
      refine ⟨by simp, ?_⟩
      unfold Ls.cls at e
      split at e
      · split at e <;> cases e
      · rename_i j vs H hrn
        split at e
        · rename_i hj
          split at e
          · rename_i s2 hd2
            cases e
            obtain ⟨rfl, rfl⟩ := hL vs H s1 hd2
            rw [hrn, hj]
            rfl
          · cases e
        · cases e
      · split at e <;> cases e
      · cases e
    · rename_i s1 e
      right
      simp only [Option.some.injEq, Prod.mk.injEq] at hf
      obtain ⟨_, e2, e3⟩ := hf
      rw [← e2, ← e3]
      refine ⟨by simp, ?_⟩
      unfold Ls.cls at e
      split at e
      · split at e <;> cases e
      · split at e
        · split at e <;> cases e
        · cases e
      · rename_i vs H hrn
        split at e
        · rename_i s2 hd2
          cases e
          obtain ⟨rfl, rfl⟩ := hL vs H s1 hd2
          rw [hrn]
          rfl
        · cases e
      · cases e
    · cases hf
end
structure RgS (C : Type) where
  c : C
  tm : List AV
  ps : Array Tmp
  asg : Code
  bd : Code
structure Lg (C : Type) where
  id : Nat
  dec : List AV → List Ob → Option (RgS C)
  vs : RgS C → List AV
  hp : RgS C → List Ob
  emb : C → RgS C
  rnd : C → Option (Ex × List AV × List Ob)
section
variable {C : Type} (L : Lg C)
def Lg.Ok : Prop := (∀ vs H s, L.dec vs H = some s → vs = L.vs s ∧ H = L.hp s) ∧ ∀ c, (L.emb c).c = c
noncomputable def Lg.gd (s : RgS C) : Bool := @decide (s = L.emb s.c) (Classical.propDecidable _)
noncomputable def Lg.ls : Ls C := ⟨L.id, fun vs H => match L.dec vs H with
  | some s => if L.gd s then some s.c else none
  | none => none, fun c => L.vs (L.emb c), fun c => L.hp (L.emb c), L.rnd⟩
variable {P : Program} {sp : Sp} {inl : FuncId → Bool} {ext : FuncId → Option (List AV → Option (Bool × AV))} {cK : {β : Type} → CallK β}
end
end
open Go.RowKit
end Go.Evl
namespace Go.Proofs.YtfepnmpoplcbmaaGreat.T
open Go.Evl Go.RowKit
noncomputable abbrev cKL (l : List Ent) (il : List FuncId) (ls : List (FuncId × (Nat → LT))) {β : Type} : CallK β := callLK Tryz.prog (spOf l) (inlOf il) extD (cKD l il) ls
set_option maxRecDepth 20000 in
theorem lps_one {sp : Sp} {inl : FuncId → Bool} {cK : {β : Type} → CallK β} {cf : CallF} (hcf : ∀ {β : Type}, CallEq (β := β) cK cf) {f : FuncId} {lp : Nat → LT} {fn : Func} {c : Code} (hfn : Tryz.prog.funcs[f]? = some fn) (hb : fn.body = some c)
    (h : ∀ p ∈ loops c, LoopOkT Tryz.prog sp inl extD cK lp fn.ntmps p.2 (lp p.1)) : LpsOk (mkCx Tryz.prog sp inl extD) cf [(f, lp)] := by
  intro g lp' hf fn' c' hfn' hc'
  simp only [List.mem_singleton, Prod.mk.injEq] at hf
  obtain ⟨rfl, rfl⟩ := hf
  obtain rfl := Option.some.inj (hfn'.symm.trans hfn)
  obtain rfl := Option.some.inj (hc'.symm.trans hb)
  exact loopsOk_of Tryz.prog sp inl extD cK hcf h
theorem specDL {l : List Ent} {il : List FuncId} {ls : List (FuncId × (Nat → LT))} (hl : (mkCx Tryz.prog (spOf l) (inlOf il) extD).Ok InvD) (hls : LpsOk (mkCx Tryz.prog (spOf l) (inlOf il) extD) (callN (mkCx Tryz.prog (spOf l) (inlOf il) extD) attD uD 20) ls)
    {f : FuncId} {fn : Func} (hfn : Tryz.prog.funcs[f]? = some fn) {c : Code} (hb : fn.body = some c) (lp : Nat → LT)
    (hlp : ∀ p ∈ loops c, LoopOkT Tryz.prog (spOf l) (inlOf il) extD (cKL l il ls) lp fn.ntmps p.2 (lp p.1)) {s : List AV → Tr Res}
    (h : ∀ args r, (s args).run = some r → Nat.ble args.length fn.ntmps = true ∧ okRes r = true ∧ evFn Tryz.prog (spOf l) (inlOf il) extD (cKL l il ls) lp fn args [] (fun r _ => some r) = some r) :
    SpecHolds Tryz.prog InvD f fun a => (s a).run :=
  spec_of_ev Tryz.prog (spOf l) (inlOf il) extD (cKL l il ls) (fun {β} => callLK_eq (β := β) Tryz.prog (spOf l) (inlOf il) extD (callK_eq (β := β) Tryz.prog (spOf l) (inlOf il) extD attD uD 20) ls) hl stableD mixedD
    (callLN_sound hl stableD mixedD (callN_sound attD_ok hl stableD mixedD 20) hls) hfn hb lp hlp h
open Go.Evl Go.RowKit
end Go.Proofs.YtfepnmpoplcbmaaGreat.T
namespace Go.Evl
open Go.RowKit
noncomputable def clB (p : Prop) : Bool := @decide p (Classical.propDecidable p)
theorem clB_true {p : Prop} (h : p) : clB p = true := by unfold clB; exact @decide_eq_true p (Classical.propDecidable p) h
theorem clB_false {p : Prop} (h : ¬ p) : clB p = false := by unfold clB; exact @decide_eq_false p (Classical.propDecidable p) h
theorem clB_iff {p : Prop} : clB p = true ↔ p := ⟨fun h => Classical.byContradiction fun z => (by rw [clB_false z] at h; cases h), clB_true⟩
theorem clB_congr {p q : Prop} (h : p ↔ q) : clB p = clB q := by rw [propext h]
section
variable {S : Type} (L : Ls S)
theorem Ls.to_scan {n : Nat} (st rt : Nat → S) (P : Nat → Prop) (hon : ∀ k s2 b, k < n → P k → L.To (st (k + 1)) b s2 → L.To (st k) b s2) (hbad : ∀ k, k < n → ¬ P k → L.To (st k) true (rt k)) (hend : L.To (st n) false (st n)) :
    ∀ d i, i + d = n → ((∀ k, i ≤ k → k < n → P k) ∧ L.To (st i) false (st n)) ∨ ∃ k, i ≤ k ∧ k < n ∧ ¬ P k ∧ (∀ j, i ≤ j → j < k → P j) ∧ L.To (st i) true (rt k)
  | 0, i, h => by
    obtain rfl : i = n := by omega
    exact .inl ⟨fun k h1 h2 => by omega, hend⟩
  | d + 1, i, h => by
    by_cases hp : P i
    · rcases Ls.to_scan st rt P hon hbad hend d (i + 1) (by omega) with ⟨h1, h2⟩ | ⟨k, h1, h2, h3, h4, h5⟩
      · refine .inl ⟨fun k a b => ?_, hon i _ _ (by omega) hp h2⟩
        by_cases e : k = i
        · rw [e]; exact hp
        · exact h1 k (by omega) b
      · refine .inr ⟨k, by omega, h2, h3, fun j a b => ?_, hon i _ _ (by omega) hp h5⟩
        by_cases e : j = i
        · rw [e]; exact hp
        · exact h4 j (by omega) b
    · exact .inr ⟨i, Nat.le_refl _, by omega, hp, fun j a b => by omega, hbad i (by omega) hp⟩
end
end Go.Evl
namespace Go.Proofs.YtfepnmpoplcbmaaGreat
open Go.Evl Go.RowKit
def allOk : Tr Res → Bool
  | .non => true
  | .leaf r => okRes r
  | .node _ x y => allOk x && allOk y
  | .chk _ x => allOk x
set_option maxRecDepth 20000 in
theorem tr_ok {t : Tr Res} {r : Res} (ht : allOk t = true) (h : t.run = some r) : okRes r = true := by
  induction t with
  | non => simp [Tr.run] at h
  | leaf a => simp only [Tr.run, Option.some.injEq] at h; subst h; exact ht
  | node b x y hx hy =>
    simp only [allOk, Bool.and_eq_true] at ht
    cases b with
    | true => exact hx ht.1 h
    | false => exact hy ht.2 h
  | chk b x hx =>
    cases b with
    | true => exact hx ht h
    | false => simp [Tr.run] at h
theorem cx15 : (mkCx Tryz.prog (spOf [e13]) (inlOf []) extD).Ok InvD := cx_of [] (by kernel_rfl) (by
  intro p hp
  simp only [List.mem_cons, List.not_mem_nil, or_false] at hp
  subst hp
  exact e13_ok)
set_option maxRecDepth 20000 in
theorem e44_ok : SpecHolds Tryz.prog InvD 99 fun a => (e44.2 a).run := by
  refine specD cx15 Tryz.func99 (c := codeOf Tryz.prog 99) (by kernel_rfl) (fun _ => .unroll 0) (fun _ _ => trivial) fun args r h => ?_
  simp only [e44] at h
  split at h
  · rename_i a b c d
    exact ⟨by kernel_rfl, tr_ok (by rfl) h, by rw [tree44]; exact h⟩
  · simp [Tr.run] at h
theorem cx52 : (mkCx Tryz.prog (spOf []) (inlOf [136]) extD).Ok InvD := cx_of [136] (by kernel_rfl) (fun p hp => by cases hp)
set_option maxRecDepth 20000 in
theorem e52_ok : SpecHolds Tryz.prog InvD 97 fun a => (e52.2 a).run := by
  refine specD cx52 Tryz.func97 (c := codeOf Tryz.prog 97) (by kernel_rfl) (fun _ => .unroll 0) (fun _ _ => trivial) fun args r h => ?_
  simp only [e52] at h
  split at h
  · rename_i a b
    have ha : (a != a) = false := by simp
    have hb : (b != b) = false := by simp
    exact ⟨by kernel_rfl, tr_ok (by rfl) h, by rw [tree52, ha, hb]; exact h⟩
  · simp [Tr.run] at h
theorem inU_iff {x : Int} : inU x = true ↔ 0 ≤ x ∧ x < 18446744073709551616 := by simp [inU]
set_option maxRecDepth 20000 in
theorem e70_ok : SpecHolds Tryz.prog InvD 174 fun a => (e70.2 a).run := by
  intro args r h ρ A w vs hA hi hv
  simp only [e70] at h
  split at h
  · rename_i x y
    rcases node_run h with ⟨hc, h⟩ | ⟨_, h⟩
    · simp only [Tr.run, Option.some.injEq] at h
      subst h
      simp only [Bool.and_eq_true, inU_iff] at hc
      obtain ⟨⟨hx0, hx1⟩, hy0, hy1⟩ := hc
      obtain ⟨X, rfl⟩ := Int.eq_ofNat_of_zero_le hx0
      obtain ⟨Y, rfl⟩ := Int.eq_ofNat_of_zero_le hy0
      rw [rvs_int2 hv]
      refine (Tryz.bits_Mul64 X Y (by omega) (by omega) w).mono ?_
      rintro e w' ⟨rfl, rfl⟩
      refine ⟨Below.refl _ _, _, rfl, ?_⟩
      have e1 : (X : Int) * Y / 18446744073709551616 = ((X * Y / 18446744073709551616 : Nat) : Int) := by omega
      have e2 : (X : Int) * Y % 18446744073709551616 = ((X * Y % 18446744073709551616 : Nat) : Int) := by omega
      rw [e1, e2]
      exact rv_tup2
    · simp [Tr.run] at h
  · simp [Tr.run] at h
theorem cx53 : (mkCx Tryz.prog (spOf [e70]) (inlOf []) extD).Ok InvD := cx_of [] (by kernel_rfl) (by
  intro p hp
  simp only [List.mem_cons, List.not_mem_nil, or_false] at hp
  subst hp
  exact e70_ok)
set_option maxRecDepth 20000 in
theorem e53_ok : SpecHolds Tryz.prog InvD 137 fun a => (e53.2 a).run := by
  refine specD cx53 Tryz.func137 (c := codeOf Tryz.prog 137) (by kernel_rfl) (fun _ => .unroll 0) (fun _ _ => trivial) fun args r h => ?_
  simp only [e53] at h
  split at h
  · rename_i a b
    exact ⟨by kernel_rfl, tr_ok (by rfl) h, by rw [tree53]; exact h⟩
  · simp [Tr.run] at h
set_option maxRecDepth 20000 in
theorem e54_ok : SpecHolds Tryz.prog InvD 138 fun a => (e54.2 a).run := by
  refine specD cx0 Tryz.func138 (c := codeOf Tryz.prog 138) (by kernel_rfl) (fun _ => .unroll 0) (fun _ _ => trivial) fun args r h => ?_
  simp only [e54] at h
  split at h
  · rename_i a b c d
    exact ⟨by kernel_rfl, tr_ok (by rfl) h, by rw [tree54]; exact h⟩
  · simp [Tr.run] at h
theorem cx26 : (mkCx Tryz.prog (spOf [e36, e44, e52, e53, e54]) (inlOf []) extD).Ok InvD := cx_of [] (by kernel_rfl) (by
  intro p hp
  simp only [List.mem_cons, List.not_mem_nil, or_false] at hp
  rcases hp with rfl | rfl | rfl | rfl | rfl
  · exact e36_ok
  · exact e44_ok
  · exact e52_ok
  · exact e53_ok
  · exact e54_ok)
theorem mul_bound {x y : Int} (hx : 0 ≤ x) (hy : 0 ≤ y) : 0 ≤ x * y := Int.mul_nonneg hx hy
theorem cmp26 (a b c d : Int) : evFn Tryz.prog (spOf [e36, e44, e52, e53, e54]) (inlOf []) extD (cKD [e36, e44, e52, e53, e54] []) (fun _ => .unroll 0) Tryz.f98 [.agg [.int .i64 a, .int .i64 b], .agg [.int .i64 c, .int .i64 d]] [] (fun r _ => some r) =
    bif okB a b && okB c d then (bif decide (a * d < c * b) then some (.ret (.int .i64 (-1))) else bif decide (a * d = c * b) then some (.ret (.int .i64 0)) else some (.ret (.int .i64 1))) else some (.ret (.int .i64 0)) := by
  rw [tree26]
  cases hok : okB a b with
  | false => rfl
  | true =>
  cases hok2 : okB c d with
  | false => rfl
  | true =>
    obtain ⟨h1, h2, h3, h4, h5⟩ := okB_iff.1 hok
    obtain ⟨k1, k2, k3, k4, k5⟩ := okB_iff.1 hok2
    have e1 : (decide (-9223372036854775808 ≤ a) && decide (a < 9223372036854775808)) = true := by simp; omega
    have e2 : (decide (-9223372036854775808 ≤ c) && decide (c < 9223372036854775808)) = true := by simp; omega
    have hA : 0 ≤ absI a ∧ absI a < 18446744073709551616 := by rw [absI_eq]; omega
    have hC : 0 ≤ absI c ∧ absI c < 18446744073709551616 := by rw [absI_eq]; omega
    rw [wrapU (x := d) (by omega) (by omega), wrapU (x := b) (by omega) (by omega)]
    have e3 : (inU (absI a) && inU d) = true := by simp only [Bool.and_eq_true, inU_iff]; omega
    have e4 : (inU (absI c) && inU b) = true := by simp only [Bool.and_eq_true, inU_iff]; omega
    have hX0 := mul_bound hA.1 (show 0 ≤ d by omega)
    have hY0 := mul_bound hC.1 (show 0 ≤ b by omega)
    simp only [e1, e2, e3, e4, cond_true, Bool.and_self, Bool.and_true]
    by_cases ha : a < 0 <;> by_cases hc : c < 0
    · have hx : absI a * d = -(a * d) := by rw [absI_eq, show ((a.natAbs : Nat) : Int) = -a by omega, Int.neg_mul]
      have hy : absI c * b = -(c * b) := by rw [absI_eq, show ((c.natAbs : Nat) : Int) = -c by omega, Int.neg_mul]
      rw [hx] at hX0 ⊢
      rw [hy] at hY0 ⊢
      generalize a * d = p at *
      generalize c * b = q at *
      have h0 : ¬ a ≥ 0 := by omega
      simp only [ha, hc, h0, decide_true, decide_false, cond_true, cond_false]
      by_cases hpq : p = q
      · subst hpq; simp
      · have hne : (-p / 18446744073709551616 == -q / 18446744073709551616 && -p % 18446744073709551616 == -q % 18446744073709551616) = false := by
          rw [Bool.and_eq_false_iff]; simp only [beq_eq_false_iff_ne, ne_eq]; omega
        simp only [hne, cond_false, hpq, decide_false]
        by_cases hl : p < q
        · have l1 : ¬ (-p / 18446744073709551616 < -q / 18446744073709551616) := by omega
          simp only [l1, hl, decide_true, decide_false, cond_true, cond_false]
          by_cases l2 : -p / 18446744073709551616 = -q / 18446744073709551616
          · have l3 : ¬ (-p % 18446744073709551616 < -q % 18446744073709551616) := by omega
            simp [l2, l3]
          · rw [show (-p / 18446744073709551616 == -q / 18446744073709551616) = false from beq_false_of_ne l2]; rfl
        · simp only [hl, decide_false, cond_false]
          by_cases l1 : -p / 18446744073709551616 < -q / 18446744073709551616
          · simp [l1]
          · have l2 : -p / 18446744073709551616 = -q / 18446744073709551616 := by omega
            have l3 : -p % 18446744073709551616 < -q % 18446744073709551616 := by omega
            simp [l2, l3]
    · have hlt : a * d < c * b := by
        have h6 : a * d < 0 := Int.mul_neg_of_neg_of_pos ha (by omega)
        have h7 : 0 ≤ c * b := Int.mul_nonneg (by omega) (by omega)
        omega
      have hac : a < c := by omega
      simp [ha, hc, hlt, hac]
    · have h6 : 0 ≤ a * d := Int.mul_nonneg (by omega) (by omega)
      have h7 : c * b < 0 := Int.mul_neg_of_neg_of_pos hc (by omega)
      have h8 : ¬ a * d < c * b := by omega
      have h9 : ¬ a * d = c * b := by omega
      have hac : ¬ a < c := by omega
      have hac2 : a > c := by omega
      simp [ha, hc, h8, h9, hac, hac2]
    · have hx : absI a * d = a * d := by rw [absI_eq, show ((a.natAbs : Nat) : Int) = a by omega]
      have hy : absI c * b = c * b := by rw [absI_eq, show ((c.natAbs : Nat) : Int) = c by omega]
      rw [hx] at hX0 ⊢
      rw [hy] at hY0 ⊢
      generalize a * d = p at *
      generalize c * b = q at *
      have h0 : a ≥ 0 := by omega
      simp only [ha, hc, h0, decide_true, decide_false, cond_true, cond_false]
      by_cases hpq : p = q
      · subst hpq; simp
      · have hne : (p / 18446744073709551616 == q / 18446744073709551616 && p % 18446744073709551616 == q % 18446744073709551616) = false := by
          rw [Bool.and_eq_false_iff]; simp only [beq_eq_false_iff_ne, ne_eq]; omega
        simp only [hne, cond_false, hpq, decide_false]
        by_cases hl : p < q
        · simp only [hl, decide_true, cond_true]
          by_cases l1 : p / 18446744073709551616 < q / 18446744073709551616
          · simp [l1]
          · have l2 : p / 18446744073709551616 = q / 18446744073709551616 := by omega
            have l3 : p % 18446744073709551616 < q % 18446744073709551616 := by omega
            simp [l2, l3]
        · have l1 : ¬ (p / 18446744073709551616 < q / 18446744073709551616) := by omega
          simp only [l1, hl, decide_false, cond_false]
          by_cases l2 : p / 18446744073709551616 = q / 18446744073709551616
          · have l3 : ¬ (p % 18446744073709551616 < q % 18446744073709551616) := by omega
            simp [l2, l3]
          · rw [show (p / 18446744073709551616 == q / 18446744073709551616) = false from beq_false_of_ne l2]; rfl
set_option maxRecDepth 20000 in
theorem e26_ok : SpecHolds Tryz.prog InvD 98 fun a => (e26.2 a).run := by
  refine specD cx26 Tryz.func98 (c := codeOf Tryz.prog 98) (by kernel_rfl) (fun _ => .unroll 0) (fun _ _ => trivial) fun args r h => ?_
  simp only [e26] at h
  split at h
  · rename_i a b c d
    exact ⟨by kernel_rfl, tr_ok (by rfl) h, by rw [cmp26]; exact h⟩
  · simp [Tr.run] at h
open Go.Evl Go.RowKit
structure DigInv (q r y1 y0 d u : Int) : Prop where
  y1lo : 2147483648 ≤ y1
  y1hi : y1 < 4294967296
  y0lo : 0 ≤ y0
  y0hi : y0 < 4294967296
  dlo : 0 ≤ d
  dhi : d < 4294967296
  ulo : 0 ≤ u
  uhi : u < y1 * 4294967296 + y0
  part : q * y1 + r = u
  rlo : 0 ≤ r
  rhi : r < 4294967296
  qhi : q ≤ 4294967297
  least : (u * 4294967296 + d) / (y1 * 4294967296 + y0) ≤ q
theorem dig_pos {y1 y0 : Int} (h : 2147483648 ≤ y1) (h0 : 0 ≤ y0) : 0 < y1 * 4294967296 + y0 := by omega
theorem dig_test {q r y1 y0 d u : Int} (hp : q * y1 + r = u) (h1 : 2147483648 ≤ y1) (h0 : 0 ≤ y0) :
    q * y0 > 4294967296 * r + d ↔ (u * 4294967296 + d) / (y1 * 4294967296 + y0) < q := by
  rw [Int.ediv_lt_iff_lt_mul (dig_pos h1 h0)]
  have e : q * (y1 * 4294967296 + y0) = q * y1 * 4294967296 + q * y0 := by rw [Int.mul_add, Int.mul_assoc]
  rw [e, ← hp]
  generalize q * y1 = p
  generalize q * y0 = s
  omega
theorem dig_big {q y1 y0 d u : Int} (h1 : 2147483648 ≤ y1) (h0 : 0 ≤ y0) (hd : d < 4294967296) (hu : u < y1 * 4294967296 + y0) (hq : 4294967296 ≤ q) : (u * 4294967296 + d) / (y1 * 4294967296 + y0) < q := by
  have h : (u * 4294967296 + d) / (y1 * 4294967296 + y0) < 4294967296 := by
    rw [Int.ediv_lt_iff_lt_mul (dig_pos h1 h0)]
    generalize y1 * 4294967296 + y0 = y at *
    omega
  omega
theorem dig_init {y1 y0 d u : Int} (h1 : 2147483648 ≤ y1) (h2 : y1 < 4294967296) (h0 : 0 ≤ y0) (h3 : y0 < 4294967296) (hd : 0 ≤ d) (hd2 : d < 4294967296) (hu : 0 ≤ u) (hu2 : u < y1 * 4294967296 + y0) :
    DigInv (u / y1) (u % y1) y1 y0 d u where
  y1lo := h1
  y1hi := h2
  y0lo := h0
  y0hi := h3
  dlo := hd
  dhi := hd2
  ulo := hu
  uhi := hu2
  part := by rw [Int.mul_comm]; exact Int.mul_ediv_add_emod u y1
  rlo := Int.emod_nonneg _ (by omega)
  rhi := by have := Int.emod_lt_of_pos u (show 0 < y1 by omega); omega
  qhi := by
    have : u / y1 < 4294967298 := by
      rw [Int.ediv_lt_iff_lt_mul (by omega)]
      omega
    omega
  least := by
    have hm := Int.lt_ediv_add_one_mul_self u (show 0 < y1 by omega)
    have hq0 : 0 ≤ u / y1 := Int.ediv_nonneg hu (by omega)
    have : (u * 4294967296 + d) / (y1 * 4294967296 + y0) < u / y1 + 1 := by
      rw [Int.ediv_lt_iff_lt_mul (dig_pos h1 h0)]
      rw [Int.mul_add, ← Int.mul_assoc]
      have hs : 0 ≤ (u / y1 + 1) * y0 := Int.mul_nonneg (by omega) h0
      generalize (u / y1 + 1) * y1 = p at *
      generalize (u / y1 + 1) * y0 = s at *
      omega
    omega
theorem dig_step {q r y1 y0 d u : Int} (h : DigInv q r y1 y0 d u) (hlt : (u * 4294967296 + d) / (y1 * 4294967296 + y0) < q) (hr : r + y1 < 4294967296) : DigInv (q - 1) (r + y1) y1 y0 d u where
  y1lo := h.y1lo
  y1hi := h.y1hi
  y0lo := h.y0lo
  y0hi := h.y0hi
  dlo := h.dlo
  dhi := h.dhi
  ulo := h.ulo
  uhi := h.uhi
  part := by rw [Int.sub_mul, ← h.part]; omega
  rlo := by have := h.rlo; have := h.y1lo; omega
  rhi := hr
  qhi := by have := h.qhi; omega
  least := by omega
theorem dig_break {q r y1 y0 d u : Int} (h : DigInv q r y1 y0 d u) (hlt : (u * 4294967296 + d) / (y1 * 4294967296 + y0) < q) (hr : 4294967296 ≤ r + y1) : (u * 4294967296 + d) / (y1 * 4294967296 + y0) = q - 1 := by
  have hp : (q - 1) * y1 + (r + y1) = u := by rw [Int.sub_mul, ← h.part]; omega
  have ht := dig_test (d := d) hp h.y1lo h.y0lo
  have hq0 : 0 ≤ (u * 4294967296 + d) / (y1 * 4294967296 + y0) := Int.ediv_nonneg (by have := h.ulo; have := h.dlo; omega) (by have := dig_pos h.y1lo h.y0lo; omega)
  have hn : ¬ (q - 1) * y0 > 4294967296 * (r + y1) + d := by
    have h1 : (q - 1) * y0 ≤ 4294967296 * y0 := Int.mul_le_mul_of_nonneg_right (by have := h.qhi; omega) h.y0lo
    have := h.y0hi; have := h.dlo
    omega
  rw [ht] at hn
  omega
end Go.Proofs.YtfepnmpoplcbmaaGreat
namespace Go.Proofs
open Go.Shelf
def Tryz.lays134_ren : Go.Shelf.Ren := ⟨fun | 134 => 192 | 129 => 165 | n => n, fun | 53 => 132 | 3 => 3 | 4 => 4 | 46 => 154 | 5 => 5 | 9 => 9 | n => n, fun | n => n⟩
theorem Tryz.lays134 : Go.Proofs.Lays.n134 Tryz.prog Tryz.lays134_ren := {
  mixed := by kernel_rfl
  f129 := Tryz.func165.trans (congrArg some (by kernel_rfl))
  f134 := Tryz.func192.trans (congrArg some (by kernel_rfl))
  t3 := Tryz.underlying3
  a3 := Tryz.isAgg3
  z3 := Tryz.sizeOf3
  v3 := Tryz.zeroValue3
  t4 := Tryz.underlying4
  a4 := Tryz.isAgg4
  z4 := Tryz.sizeOf4
  v4 := Tryz.zeroValue4
  t5 := Tryz.underlying5
  a5 := Tryz.isAgg5
  z5 := Tryz.sizeOf5
  v5 := Tryz.zeroValue5
  t9 := Tryz.underlying9
  a9 := Tryz.isAgg9
  z9 := Tryz.sizeOf9
  v9 := Tryz.zeroValue9
  t46 := Tryz.underlying154
  a46 := Tryz.isAgg154
  z46 := Tryz.sizeOf154
  v46 := Tryz.zeroValue154
  t53 := Tryz.underlying132
  a53 := Tryz.isAgg132
  z53 := Tryz.sizeOf132
  v53 := Tryz.zeroValue132 }
theorem Tryz.bits_LeadingZeros64 (x : Int) (w : World) (h0 : 0 ≤ x) (h1 : x ≤ 18446744073709551615) :
    Calls Tryz.prog 192 #[.int .u64 x] w fun e w' => e = .returned (.int .i64 (64 - (Lib.bitLen x.toNat : Int))) ∧ w' = w := Any.bits_LeadingZeros64 Tryz.lays134 x w h0 h1
end Go.Proofs
namespace Go.Proofs.YtfepnmpoplcbmaaGreat
open Go.Evl Go.RowKit
def digQ (u d y1 y0 : Int) : Int := (u * 4294967296 + d) / (y1 * 4294967296 + y0)
def digB (q r y1 y0 d u : Int) : Bool := decide (2147483648 ≤ y1 ∧ y1 < 4294967296 ∧ 0 ≤ y0 ∧ y0 < 4294967296 ∧ 0 ≤ d ∧ d < 4294967296 ∧ 0 ≤ u ∧ u < y1 * 4294967296 + y0 ∧ q * y1 + r = u ∧ 0 ≤ r ∧ r < 4294967296 ∧ q ≤ 4294967297 ∧ digQ u d y1 y0 ≤ q)
theorem digB_iff {q r y1 y0 d u : Int} : digB q r y1 y0 d u = true ↔ DigInv q r y1 y0 d u := by
  unfold digB
  rw [decide_eq_true_eq]
  constructor
  · rintro ⟨a1, a2, a3, a4, a5, a6, a7, a8, a9, a10, a11, a12, a13⟩
    exact ⟨a1, a2, a3, a4, a5, a6, a7, a8, a9, a10, a11, a12, a13⟩
  · rintro ⟨a1, a2, a3, a4, a5, a6, a7, a8, a9, a10, a11, a12, a13⟩
    exact ⟨a1, a2, a3, a4, a5, a6, a7, a8, a9, a10, a11, a12, a13⟩
abbrev roundK (id : Nat) (b1 b2 b3 : Bool) (x1 x2 _x3 : List AV) : Option (Ex × List AV × List Ob) :=
  bif b1 then (bif b2 then some (.exit id, x2, []) else some (.normal, x2, [])) else bif b3 then (bif b2 then some (.exit id, x2, []) else some (.normal, x2, [])) else some (.exit id, x1, [])
theorem dig_round {q r y1 y0 d u : Int} (h : DigInv q r y1 y0 d u) :
    ((digQ u d y1 y0 < q) ∧ IntKind.u64.wrap (q - 1) = q - 1 ∧ IntKind.u64.wrap (r + y1) = r + y1 ∧
      (decide (q ≥ 4294967296) = true ∨ (decide (q ≥ 4294967296) = false ∧ decide (IntKind.u64.wrap (q * y0) > IntKind.u64.wrap (IntKind.u64.wrap (4294967296 * r) + d)) = true)) ∧
      ((decide (r + y1 ≥ 4294967296) = true ∧ digQ u d y1 y0 = q - 1 ∧ r + y1 = u - (q - 1) * y1) ∨ (decide (r + y1 ≥ 4294967296) = false ∧ DigInv (q - 1) (r + y1) y1 y0 d u))) ∨
    (digQ u d y1 y0 = q ∧ r = u - q * y1 ∧ decide (q ≥ 4294967296) = false ∧ decide (IntKind.u64.wrap (q * y0) > IntKind.u64.wrap (IntKind.u64.wrap (4294967296 * r) + d)) = false) := by
  have hQ0 : 0 ≤ digQ u d y1 y0 := Int.ediv_nonneg (by have := h.ulo; have := h.dlo; omega) (by have := dig_pos h.y1lo h.y0lo; omega)
  have hl : digQ u d y1 y0 ≤ q := h.least
  have hw : ∀ (hq : q < 4294967296), decide (IntKind.u64.wrap (q * y0) > IntKind.u64.wrap (IntKind.u64.wrap (4294967296 * r) + d)) = decide (q * y0 > 4294967296 * r + d) := by
    intro hq
    have h1 : 0 ≤ q * y0 := Int.mul_nonneg (by omega) h.y0lo
    have h2 : q * y0 ≤ 4294967295 * y0 := Int.mul_le_mul_of_nonneg_right (by omega) h.y0lo
    have := h.y0hi; have := h.rlo; have := h.rhi; have := h.dlo; have := h.dhi
    rw [wrapU h1 (by omega), wrapU (x := 4294967296 * r) (by omega) (by omega), wrapU (by omega) (by omega)]
  by_cases hlt : digQ u d y1 y0 < q
  · left
    have := h.rlo; have := h.rhi; have := h.y1lo; have := h.y1hi; have := h.qhi
    refine ⟨hlt, wrapU (by omega) (by omega), wrapU (by omega) (by omega), ?_, ?_⟩
    · by_cases hq : q ≥ 4294967296
      · exact .inl (decide_eq_true hq)
      · exact .inr ⟨decide_eq_false hq, by rw [hw (by omega)]; exact decide_eq_true ((dig_test (d := d) h.part h.y1lo h.y0lo).2 hlt)⟩
    · by_cases hr : r + y1 ≥ 4294967296
      · exact .inl ⟨decide_eq_true hr, dig_break h hlt hr, by rw [Int.sub_mul, ← h.part]; omega⟩
      · exact .inr ⟨decide_eq_false hr, dig_step h hlt (by omega)⟩
  · right
    have hq : ¬ q ≥ 4294967296 := fun hq => hlt (dig_big h.y1lo h.y0lo h.dhi h.uhi hq)
    refine ⟨by omega, by rw [← h.part]; omega, decide_eq_false hq, ?_⟩
    rw [hw (by omega)]
    exact decide_eq_false fun ht => hlt ((dig_test (d := d) h.part h.y1lo h.y0lo).1 ht)
def lzI (x : Int) : Int := if x < 0 then 0 else 64 - (Lib.bitLen x.toNat : Int)
def e91 : Ent := ⟨192, fun
  | [.int .u64 x] => .node (inU x) (.leaf (.ret (.int .i64 (lzI x)))) .non
  | _ => .non⟩
set_option maxRecDepth 20000 in
theorem e91_ok : SpecHolds Tryz.prog InvD 192 fun a => (e91.2 a).run := by
  intro args r h ρ A w vs hA hi hv
  simp only [e91] at h
  split at h
  · rename_i x
    rcases node_run h with ⟨hc, h⟩ | ⟨_, h⟩
    · simp only [Tr.run, Option.some.injEq] at h
      subst h
      rw [inU_iff] at hc
      rw [rvs_int1 hv]
      refine (Tryz.bits_LeadingZeros64 x w hc.1 (by omega)).mono ?_
      rintro e w' ⟨rfl, rfl⟩
      have hx : ¬ x < 0 := by omega
      refine ⟨Below.refl _ _, _, rfl, ?_⟩
      simp only [lzI, hx, if_false]
      exact .int
    · simp [Tr.run] at h
  · simp [Tr.run] at h
def keepA : List Nat := [15, 16, 9, 10, 13, 11, 2, 8, 14]
def f80a : List AV → List Ob → Tr (Ex × List AV × List Ob)
  | [.int .u64 q, .int .u64 r, .int .u64 y1, .int .u64 y0, .int .u64 d, .int .u64 u, .int .u64 y, .int .u64 s, .int .u64 e], [] =>
    .node (digB q r y1 y0 d u) (.leaf (.exit 0, [.int .u64 (digQ u d y1 y0), .int .u64 (u - digQ u d y1 y0 * y1), .int .u64 y1, .int .u64 y0, .int .u64 d, .int .u64 u, .int .u64 y, .int .u64 s, .int .u64 e], [])) .non
  | _, _ => .non
def keepB : List Nat := [18, 16, 9, 10, 14, 17, 2, 8, 15]
def f80b : List AV → List Ob → Tr (Ex × List AV × List Ob)
  | [.int .u64 q, .int .u64 r, .int .u64 y1, .int .u64 y0, .int .u64 d, .int .u64 u, .int .u64 y, .int .u64 s, .int .u64 e], [] =>
    .node (digB q r y1 y0 d u) (.leaf (.exit 2, [.int .u64 (digQ u d y1 y0), .int .u64 (u - digQ u d y1 y0 * y1), .int .u64 y1, .int .u64 y0, .int .u64 d, .int .u64 u, .int .u64 y, .int .u64 s, .int .u64 e], [])) .non
  | _, _ => .non
def lp80 (i : Nat) : LT := bif Nat.beq i 0 then .sum keepA f80a else bif Nat.beq i 2 then .sum keepB f80b else bif Nat.beq i 1000015 then .forget [2, 8, 9, 10, 11, 13, 14] else .unroll 0
theorem loop80a (q r y1 y0 d u y s e : Int) : evC (β := Ex × List AV × List Ob) Tryz.prog (spOf [e91]) (inlOf []) extD (cKD [e91] []) lp80 (bodyOf Tryz.prog 180 0)
      ⟨mkF Tryz.f180.ntmps keepA [.int .u64 q, .int .u64 r, .int .u64 y1, .int .u64 y0, .int .u64 d, .int .u64 u, .int .u64 y, .int .u64 s, .int .u64 e], []⟩ (fun e st => (cutBack keepA ([] : List Ob).length st).map fun q => (e, q.1, q.2)) =
    roundK 0 (decide (q ≥ 4294967296)) (decide (IntKind.u64.wrap (r + y1) ≥ 4294967296)) (decide (IntKind.u64.wrap (q * y0) > IntKind.u64.wrap (IntKind.u64.wrap (4294967296 * r) + d)))
      [.int .u64 q, .int .u64 r, .int .u64 y1, .int .u64 y0, .int .u64 d, .int .u64 u, .int .u64 y, .int .u64 s, .int .u64 e]
      [.int .u64 (IntKind.u64.wrap (q - 1)), .int .u64 (IntKind.u64.wrap (r + y1)), .int .u64 y1, .int .u64 y0, .int .u64 d, .int .u64 u, .int .u64 y, .int .u64 s, .int .u64 e] [] := by kernel_rfl
set_option maxRecDepth 20000 in
theorem sum80a : SumOkT Tryz.prog (spOf [e91]) (inlOf []) extD (cKD [e91] []) lp80 Tryz.f180.ntmps (bodyOf Tryz.prog 180 0) keepA f80a := by
  refine ⟨fun vs _ => match vs with | .int _ q :: _ => q.toNat | _ => 0, fun vs H R hv hR => ?_⟩
  unfold f80a at hR
  split at hR
  · rename_i q r y1 y0 d u y s e
    rcases node_run hR with ⟨hc, hR⟩ | ⟨_, hR⟩
    · simp only [Tr.run, Option.some.injEq] at hR
      subst hR
      have hi := digB_iff.1 hc
      have ht := loop80a q r y1 y0 d u y s e
      rcases dig_round hi with ⟨hlt, w1, w2, hb, hr⟩ | ⟨hQ, hrr, hb1, hb3⟩
      · rw [w1, w2] at ht
        have ht2 : roundK 0 (decide (q ≥ 4294967296)) (decide (r + y1 ≥ 4294967296)) (decide (IntKind.u64.wrap (q * y0) > IntKind.u64.wrap (IntKind.u64.wrap (4294967296 * r) + d)))
            [.int .u64 q, .int .u64 r, .int .u64 y1, .int .u64 y0, .int .u64 d, .int .u64 u, .int .u64 y, .int .u64 s, .int .u64 e]
            [.int .u64 (q - 1), .int .u64 (r + y1), .int .u64 y1, .int .u64 y0, .int .u64 d, .int .u64 u, .int .u64 y, .int .u64 s, .int .u64 e] [] =
            bif decide (r + y1 ≥ 4294967296) then some (.exit 0, [.int .u64 (q - 1), .int .u64 (r + y1), .int .u64 y1, .int .u64 y0, .int .u64 d, .int .u64 u, .int .u64 y, .int .u64 s, .int .u64 e], [])
            else some (.normal, [.int .u64 (q - 1), .int .u64 (r + y1), .int .u64 y1, .int .u64 y0, .int .u64 d, .int .u64 u, .int .u64 y, .int .u64 s, .int .u64 e], []) := by
          rcases hb with hb | ⟨hb, hb3⟩
          · rw [hb]; rfl
          · rw [hb, hb3]; rfl
        rw [ht2] at ht
        rcases hr with ⟨hr, hQ, hrr⟩ | ⟨hr, hi'⟩
        · rw [hr] at ht
          refine ⟨_, _, _, ht, ?_⟩
          dsimp only
          rw [hQ, hrr]
        · rw [hr] at ht
          refine ⟨_, _, _, ht, ?_, ?_⟩
          · simp only [f80a, Tr.run, digB_iff.2 hi', cond_true]
          · have hQ0 : 0 ≤ digQ u d y1 y0 := Int.ediv_nonneg (by have := hi.ulo; have := hi.dlo; omega) (by have := dig_pos hi.y1lo hi.y0lo; omega)
            dsimp only
            omega
      · rw [hb1, hb3] at ht
        refine ⟨_, _, _, ht, ?_⟩
        dsimp only
        rw [hQ, ← hrr]
    · simp [Tr.run] at hR
  · simp [Tr.run] at hR
open Go.Evl Go.RowKit
theorem loop80b (q r y1 y0 d u y s e : Int) : evC (β := Ex × List AV × List Ob) Tryz.prog (spOf [e91]) (inlOf []) extD (cKD [e91] []) lp80 (bodyOf Tryz.prog 180 2)
      ⟨mkF Tryz.f180.ntmps keepB [.int .u64 q, .int .u64 r, .int .u64 y1, .int .u64 y0, .int .u64 d, .int .u64 u, .int .u64 y, .int .u64 s, .int .u64 e], []⟩ (fun e st => (cutBack keepB ([] : List Ob).length st).map fun q => (e, q.1, q.2)) =
    roundK 2 (decide (q ≥ 4294967296)) (decide (IntKind.u64.wrap (r + y1) ≥ 4294967296)) (decide (IntKind.u64.wrap (q * y0) > IntKind.u64.wrap (IntKind.u64.wrap (4294967296 * r) + d)))
      [.int .u64 q, .int .u64 r, .int .u64 y1, .int .u64 y0, .int .u64 d, .int .u64 u, .int .u64 y, .int .u64 s, .int .u64 e]
      [.int .u64 (IntKind.u64.wrap (q - 1)), .int .u64 (IntKind.u64.wrap (r + y1)), .int .u64 y1, .int .u64 y0, .int .u64 d, .int .u64 u, .int .u64 y, .int .u64 s, .int .u64 e] [] := by kernel_rfl
set_option maxRecDepth 20000 in
theorem sum80b : SumOkT Tryz.prog (spOf [e91]) (inlOf []) extD (cKD [e91] []) lp80 Tryz.f180.ntmps (bodyOf Tryz.prog 180 2) keepB f80b := by
  refine ⟨fun vs _ => match vs with | .int _ q :: _ => q.toNat | _ => 0, fun vs H R hv hR => ?_⟩
  unfold f80b at hR
  split at hR
  · rename_i q r y1 y0 d u y s e
    rcases node_run hR with ⟨hc, hR⟩ | ⟨_, hR⟩
    · simp only [Tr.run, Option.some.injEq] at hR
      subst hR
      have hi := digB_iff.1 hc
      have ht := loop80b q r y1 y0 d u y s e
      rcases dig_round hi with ⟨hlt, w1, w2, hb, hr⟩ | ⟨hQ, hrr, hb1, hb3⟩
      · rw [w1, w2] at ht
        have ht2 : roundK 2 (decide (q ≥ 4294967296)) (decide (r + y1 ≥ 4294967296)) (decide (IntKind.u64.wrap (q * y0) > IntKind.u64.wrap (IntKind.u64.wrap (4294967296 * r) + d)))
            [.int .u64 q, .int .u64 r, .int .u64 y1, .int .u64 y0, .int .u64 d, .int .u64 u, .int .u64 y, .int .u64 s, .int .u64 e]
            [.int .u64 (q - 1), .int .u64 (r + y1), .int .u64 y1, .int .u64 y0, .int .u64 d, .int .u64 u, .int .u64 y, .int .u64 s, .int .u64 e] [] =
            bif decide (r + y1 ≥ 4294967296) then some (.exit 2, [.int .u64 (q - 1), .int .u64 (r + y1), .int .u64 y1, .int .u64 y0, .int .u64 d, .int .u64 u, .int .u64 y, .int .u64 s, .int .u64 e], [])
            else some (.normal, [.int .u64 (q - 1), .int .u64 (r + y1), .int .u64 y1, .int .u64 y0, .int .u64 d, .int .u64 u, .int .u64 y, .int .u64 s, .int .u64 e], []) := by
          rcases hb with hb | ⟨hb, hb3⟩
          · rw [hb]; rfl
          · rw [hb, hb3]; rfl
        rw [ht2] at ht
        rcases hr with ⟨hr, hQ, hrr⟩ | ⟨hr, hi'⟩
        · rw [hr] at ht
          refine ⟨_, _, _, ht, ?_⟩
          dsimp only
          rw [hQ, hrr]
        · rw [hr] at ht
          refine ⟨_, _, _, ht, ?_, ?_⟩
          · simp only [f80b, Tr.run, digB_iff.2 hi', cond_true]
          · have hQ0 : 0 ≤ digQ u d y1 y0 := Int.ediv_nonneg (by have := hi.ulo; have := hi.dlo; omega) (by have := dig_pos hi.y1lo hi.y0lo; omega)
            dsimp only
            omega
      · rw [hb1, hb3] at ht
        refine ⟨_, _, _, ht, ?_⟩
        dsimp only
        rw [hQ, ← hrr]
    · simp [Tr.run] at hR
  · simp [Tr.run] at hR
theorem cx80 : (mkCx Tryz.prog (spOf [e91]) (inlOf []) extD).Ok InvD := cx_of [] (by kernel_rfl) (by
  intro p hp
  simp only [List.mem_cons, List.not_mem_nil, or_false] at hp
  subst hp
  exact e91_ok)
open Go.Evl Go.RowKit
def dropSeq : Nat → Code → Code
  | n + 1, .seq _ b => dropSeq n b
  | _, c => c
noncomputable def tail80 (y s y1 y0 u d e : Int) : Option Res := evC (β := Res) Tryz.prog (spOf [e91]) (inlOf []) extD (cKD [e91] []) lp80 (dropSeq 12 (codeOf Tryz.prog 180)) ⟨mkF Tryz.f180.ntmps [2, 8, 9, 10, 11, 13, 14] [.int .u64 y, .int .u64 s, .int .u64 y1, .int .u64 y0, .int .u64 u, .int .u64 d, .int .u64 e], []⟩ (endK Tryz.prog Tryz.f180 0 fun r _ => some r)
theorem treeTail (y s y1 y0 u d e : Int) : tail80 y s y1 y0 u d e =
    (bif !decide (y1 = 0) then
      bif
          digB (IntKind.u64.wrap (u.tdiv y1)) (IntKind.u64.wrap (u - IntKind.u64.wrap (IntKind.u64.wrap (u.tdiv y1) * y1)))
            y1 y0 d u then
        bif !decide (y1 = 0) then
          bif
              digB
                (IntKind.u64.wrap
                  ((IntKind.u64.wrap
                        (IntKind.u64.wrap (IntKind.u64.wrap (u * 4294967296) + d) -
                          IntKind.u64.wrap (digQ u d y1 y0 * y))).tdiv
                    y1))
                (IntKind.u64.wrap
                  (IntKind.u64.wrap
                      (IntKind.u64.wrap (IntKind.u64.wrap (u * 4294967296) + d) - IntKind.u64.wrap (digQ u d y1 y0 * y)) -
                    IntKind.u64.wrap
                      (IntKind.u64.wrap
                          ((IntKind.u64.wrap
                                (IntKind.u64.wrap (IntKind.u64.wrap (u * 4294967296) + d) -
                                  IntKind.u64.wrap (digQ u d y1 y0 * y))).tdiv
                            y1) *
                        y1)))
                y1 y0 e
                (IntKind.u64.wrap
                  (IntKind.u64.wrap (IntKind.u64.wrap (u * 4294967296) + d) - IntKind.u64.wrap (digQ u d y1 y0 * y))) then
            bif !decide (s < 0) then
              some
                (Res.ret
                  (AV.tup
                    [AV.int IntKind.u64
                        (IntKind.u64.wrap
                          (IntKind.u64.wrap (digQ u d y1 y0 * 4294967296) +
                            digQ
                              (IntKind.u64.wrap
                                (IntKind.u64.wrap (IntKind.u64.wrap (u * 4294967296) + d) -
                                  IntKind.u64.wrap (digQ u d y1 y0 * y)))
                              e y1 y0)),
                      AV.int IntKind.u64
                        ((IntKind.u64.wrap
                              (IntKind.u64.wrap
                                  (IntKind.u64.wrap
                                      (IntKind.u64.wrap
                                          (IntKind.u64.wrap (IntKind.u64.wrap (u * 4294967296) + d) -
                                            IntKind.u64.wrap (digQ u d y1 y0 * y)) *
                                        4294967296) +
                                    e) -
                                IntKind.u64.wrap
                                  (digQ
                                      (IntKind.u64.wrap
                                        (IntKind.u64.wrap (IntKind.u64.wrap (u * 4294967296) + d) -
                                          IntKind.u64.wrap (digQ u d y1 y0 * y)))
                                      e y1 y0 *
                                    y))).fdiv
                          (2 ^ min s.toNat 64))]))
            else none
          else none
        else none
      else none
    else none : Option Res) := by kernel_rfl
theorem digQ_range {u d y1 y0 : Int} (h1 : 2147483648 ≤ y1) (h0 : 0 ≤ y0) (hd : 0 ≤ d) (hd2 : d < 4294967296) (hu : 0 ≤ u) (hu2 : u < y1 * 4294967296 + y0) : 0 ≤ digQ u d y1 y0 ∧ digQ u d y1 y0 < 4294967296 := by
  have hy := dig_pos h1 h0
  refine ⟨Int.ediv_nonneg (by omega) (by omega), ?_⟩
  unfold digQ
  rw [Int.ediv_lt_iff_lt_mul hy]
  generalize y1 * 4294967296 + y0 = y at *
  omega
theorem dig_rest {u d y1 y0 y : Int} (hy : y = y1 * 4294967296 + y0) (h1 : 2147483648 ≤ y1) (h2 : y1 < 4294967296) (h0 : 0 ≤ y0) (h3 : y0 < 4294967296) (_hd : 0 ≤ d) (_hd2 : d < 4294967296) (_hu : 0 ≤ u) (_hu2 : u < y) :
    IntKind.u64.wrap (IntKind.u64.wrap (IntKind.u64.wrap (u * 4294967296) + d) - IntKind.u64.wrap (digQ u d y1 y0 * y)) = (u * 4294967296 + d) % y := by
  have hQ : digQ u d y1 y0 = (u * 4294967296 + d) / y := by rw [hy]; rfl
  have hyp : 0 < y := by rw [hy]; exact dig_pos h1 h0
  have hm := Int.emod_add_mul_ediv (u * 4294967296 + d) y
  have hm0 := Int.emod_nonneg (u * 4294967296 + d) (show y ≠ 0 by omega)
  have hm1 := Int.emod_lt_of_pos (u * 4294967296 + d) hyp
  rw [hQ, Int.mul_comm ((u * 4294967296 + d) / y) y]
  simp only [IntKind.wrap_u64]
  generalize (u * 4294967296 + d) % y = r at *
  generalize y * ((u * 4294967296 + d) / y) = p at *
  omega
theorem tail80_eq {y s y1 y0 u d e : Int} (hy : y = y1 * 4294967296 + y0) (h1 : 2147483648 ≤ y1) (h2 : y1 < 4294967296) (h0 : 0 ≤ y0) (h3 : y0 < 4294967296) (hd : 0 ≤ d) (hd2 : d < 4294967296) (he : 0 ≤ e) (he2 : e < 4294967296)
    (hu : 0 ≤ u) (hu2 : u < y) (hs : 0 ≤ s) : tail80 y s y1 y0 u d e =
    some (.ret (.tup [.int .u64 ((u * 4294967296 + d) / y * 4294967296 + ((u * 4294967296 + d) % y * 4294967296 + e) / y), .int .u64 ((((u * 4294967296 + d) % y * 4294967296 + e) % y).fdiv (2 ^ min s.toNat 64))])) := by
  have hyp : 0 < y := by rw [hy]; exact dig_pos h1 h0
  have hy64 : y < 18446744073709551616 := by omega
  have hr0 := Int.emod_nonneg (u * 4294967296 + d) (show y ≠ 0 by omega)
  have hr1 := Int.emod_lt_of_pos (u * 4294967296 + d) hyp
  have init : ∀ {v f : Int}, 0 ≤ v → v < y → 0 ≤ f → f < 4294967296 → digB (IntKind.u64.wrap (v.tdiv y1)) (IntKind.u64.wrap (v - IntKind.u64.wrap (IntKind.u64.wrap (v.tdiv y1) * y1))) y1 y0 f v = true := by
    intro v f hv hv2 hf hf2
    have hi := dig_init (d := f) h1 h2 h0 h3 hf hf2 hv (by rw [← hy]; exact hv2)
    have hq0 : 0 ≤ v / y1 := Int.ediv_nonneg hv (by omega)
    have hqhi := hi.qhi
    have hpart := hi.part
    have hrlo := hi.rlo
    have hrhi := hi.rhi
    rw [Int.tdiv_eq_ediv_of_nonneg hv, wrapU (x := v / y1) hq0 (by omega)]
    have hp0 : 0 ≤ v / y1 * y1 := Int.mul_nonneg hq0 (by omega)
    rw [wrapU (x := v / y1 * y1) hp0 (by omega)]
    have e1 : v - v / y1 * y1 = v % y1 := by omega
    rw [e1, wrapU hrlo (by omega)]
    exact digB_iff.2 hi
  rw [treeTail, dig_rest hy h1 h2 h0 h3 hd hd2 hu hu2]
  rw [dig_rest (u := (u * 4294967296 + d) % y) hy h1 h2 h0 h3 he he2 hr0 hr1]
  rw [init hu hu2 hd hd2, init hr0 hr1 he he2]
  have c1 : (!decide (y1 = 0)) = true := by simp; omega
  have c2 : (!decide (s < 0)) = true := by simp; omega
  rw [c1, c2]
  obtain ⟨q0, q1⟩ := digQ_range h1 h0 hd hd2 hu (by rw [← hy]; exact hu2)
  obtain ⟨p0, p1⟩ := digQ_range (u := (u * 4294967296 + d) % y) h1 h0 he he2 hr0 (by rw [← hy]; exact hr1)
  rw [wrapU (x := digQ u d y1 y0 * 4294967296) (by omega) (by omega), wrapU (by omega) (by omega)]
  unfold digQ
  rw [← hy]
  rfl
open Go.Evl Go.RowKit
theorem bitLenAux_bounds : ∀ (f x : Nat), x < 2 ^ f → x < 2 ^ Lib.bitLenAux f x ∧ (x ≠ 0 → 1 ≤ Lib.bitLenAux f x ∧ 2 ^ (Lib.bitLenAux f x - 1) ≤ x) ∧ Lib.bitLenAux f x ≤ f := by
  intro f
  induction f with
  | zero => intro x h; simp at h; subst h; simp [Lib.bitLenAux]
  | succ f ih =>
    intro x h
    simp only [Lib.bitLenAux]
    by_cases h0 : x = 0
    · subst h0; simp
    · simp only [h0, if_false]
      obtain ⟨i1, i2, i3⟩ := ih (x / 2) (by rw [Nat.pow_succ] at h; omega)
      refine ⟨?_, fun _ => ⟨by omega, ?_⟩, by omega⟩
      · rw [Nat.pow_add]; omega
      · rw [Nat.add_sub_cancel_left]
        by_cases h1 : x / 2 = 0
        · rw [h1]
          have : Lib.bitLenAux f 0 = 0 := by cases f <;> simp [Lib.bitLenAux]
          rw [this]; simp; omega
        · obtain ⟨j1, j2⟩ := i2 h1
          have : 2 ^ Lib.bitLenAux f (x / 2) = 2 * 2 ^ (Lib.bitLenAux f (x / 2) - 1) := by
            rw [← Nat.pow_succ']; congr 1; omega
          omega
theorem lz_bounds {c : Int} (h0 : 0 < c) (h1 : c < 18446744073709551616) : 0 ≤ lzI c ∧ lzI c ≤ 63 ∧ 9223372036854775808 ≤ c * 2 ^ (lzI c).toNat ∧ c * 2 ^ (lzI c).toNat < 18446744073709551616 := by
  obtain ⟨x, rfl⟩ := Int.eq_ofNat_of_zero_le (show 0 ≤ c by omega)
  have hx : ¬ ((x : Int) < 0) := by omega
  obtain ⟨b1, b2, b3⟩ := bitLenAux_bounds 64 x (by omega)
  obtain ⟨b4, b5⟩ := b2 (by omega)
  simp only [lzI, hx, if_false, Int.toNat_natCast]
  have hb : Lib.bitLen x = Lib.bitLenAux 64 x := rfl
  rw [hb]
  generalize Lib.bitLenAux 64 x = n at *
  have e : ((64 : Int) - (n : Int)).toNat = 64 - n := by omega
  rw [e]
  refine ⟨by omega, by omega, ?_, ?_⟩
  · have h2 : 2 ^ (n - 1) * 2 ^ (64 - n) = 2 ^ 63 := by rw [← Nat.pow_add]; congr 1; omega
    have h3 : 2 ^ (n - 1) * 2 ^ (64 - n) ≤ x * 2 ^ (64 - n) := Nat.mul_le_mul_right _ b5
    have h4 : ((x * 2 ^ (64 - n) : Nat) : Int) = (x : Int) * 2 ^ (64 - n) := by rw [Int.natCast_mul, Int.natCast_pow]; rfl
    rw [← h4]
    rw [h2] at h3
    omega
  · have h2 : 2 ^ n * 2 ^ (64 - n) = 2 ^ 64 := by rw [← Nat.pow_add]; congr 1; omega
    have h3 : x * 2 ^ (64 - n) < 2 ^ n * 2 ^ (64 - n) := Nat.mul_lt_mul_of_pos_right b1 (Nat.pow_pos (by omega))
    have h4 : ((x * 2 ^ (64 - n) : Nat) : Int) = (x : Int) * 2 ^ (64 - n) := by rw [Int.natCast_mul, Int.natCast_pow]; rfl
    rw [← h4]
    rw [h2] at h3
    omega
theorem two_digits {T d y B : Int} (hy : 0 < y) : (T * B + d) / y = T / y * B + (T % y * B + d) / y ∧ (T * B + d) % y = (T % y * B + d) % y := by
  have h := Int.emod_add_mul_ediv T y
  have e : T * B + d = T % y * B + d + y * (T / y * B) := by
    conv => lhs; rw [← h]
    rw [Int.add_mul, Int.mul_assoc]; omega
  constructor
  · rw [e, Int.add_mul_ediv_left _ _ (by omega)]; omega
  · rw [e, Int.add_mul_emod_self_left]
open Go.Evl Go.RowKit
theorem head80 (a b c : Int) : evFn Tryz.prog (spOf [e91]) (inlOf []) extD (cKD [e91] []) lp80 Tryz.f180 [.int .u64 a, .int .u64 b, .int .u64 c] [] (fun r _ => some r) =
  bif c == 0 then none else bif decide (c ≤ a) then none else bif a == 0 then (bif !decide (c = 0) then bif !decide (c = 0) then some (.ret (.tup [.int .u64 (IntKind.u64.wrap (b.tdiv c)), .int .u64 (b.tmod c)])) else none else none)
  else bif inU c then bif !decide (IntKind.u64.wrap (lzI c) < 0) then bif !decide (IntKind.u64.wrap (lzI c) < 0) then bif !decide (IntKind.u64.wrap (64 - IntKind.u64.wrap (lzI c)) < 0) then bif !decide (IntKind.u64.wrap (lzI c) < 0) then
    tail80 (IntKind.u64.wrap (c * 2 ^ min (IntKind.u64.wrap (lzI c)).toNat 64)) (IntKind.u64.wrap (lzI c)) ((IntKind.u64.wrap (c * 2 ^ min (IntKind.u64.wrap (lzI c)).toNat 64)).fdiv (2 ^ min (Int.toNat 32) 64))
      (IntKind.u64.wrap (BitVec.ofInt 64 (IntKind.u64.wrap (c * 2 ^ min (IntKind.u64.wrap (lzI c)).toNat 64)) &&& BitVec.ofInt 64 4294967295).toNat)
      (IntKind.u64.wrap (BitVec.ofInt 64 (IntKind.u64.wrap (a * 2 ^ min (IntKind.u64.wrap (lzI c)).toNat 64)) ||| BitVec.ofInt 64 (b.fdiv (2 ^ min (IntKind.u64.wrap (64 - IntKind.u64.wrap (lzI c))).toNat 64))).toNat)
      ((IntKind.u64.wrap (b * 2 ^ min (IntKind.u64.wrap (lzI c)).toNat 64)).fdiv (2 ^ min (Int.toNat 32) 64))
      (IntKind.u64.wrap (BitVec.ofInt 64 (IntKind.u64.wrap (b * 2 ^ min (IntKind.u64.wrap (lzI c)).toNat 64)) &&& BitVec.ofInt 64 4294967295).toNat)
    else none else none else none else none else none := by kernel_rfl
open Go.Evl Go.RowKit
theorem toNat_ofInt64 {x : Int} (h0 : 0 ≤ x) (h1 : x < 18446744073709551616) : (BitVec.ofInt 64 x).toNat = x.toNat := by
  rw [BitVec.toNat_ofInt]
  have : x % ((2 ^ 64 : Nat) : Int) = x := Int.emod_eq_of_lt h0 (by omega)
  rw [this]
theorem and_low {y : Int} (h0 : 0 ≤ y) (h1 : y < 18446744073709551616) : IntKind.u64.wrap ((BitVec.ofInt 64 y &&& BitVec.ofInt 64 4294967295).toNat : Int) = y % 4294967296 := by
  rw [BitVec.toNat_and, toNat_ofInt64 h0 h1, toNat_ofInt64 (x := 4294967295) (by omega) (by omega)]
  have : y.toNat &&& (4294967295 : Int).toNat = y.toNat % 2 ^ 32 := Nat.and_two_pow_sub_one_eq_mod y.toNat 32
  rw [this]
  obtain ⟨n, rfl⟩ := Int.eq_ofNat_of_zero_le h0
  simp only [Int.toNat_natCast, IntKind.wrap_u64]
  omega
theorem or_join {p t : Int} {s : Nat} (hp : 0 ≤ p) (ht : 0 ≤ t) (ht2 : t < 2 ^ s) (hb : p * 2 ^ s + t < 18446744073709551616) :
    IntKind.u64.wrap ((BitVec.ofInt 64 (p * 2 ^ s) ||| BitVec.ofInt 64 t).toNat : Int) = p * 2 ^ s + t := by
  obtain ⟨P, rfl⟩ := Int.eq_ofNat_of_zero_le hp
  obtain ⟨T, rfl⟩ := Int.eq_ofNat_of_zero_le ht
  have e : (P : Int) * 2 ^ s = ((P * 2 ^ s : Nat) : Int) := by rw [Int.natCast_mul, Int.natCast_pow]; rfl
  have hT : T < 2 ^ s := by
    have e2 : (2 : Int) ^ s = ((2 ^ s : Nat) : Int) := by rw [Int.natCast_pow]; rfl
    rw [e2] at ht2; exact Int.ofNat_lt.1 ht2
  rw [e] at hb ⊢
  have h0 : 0 ≤ ((P * 2 ^ s : Nat) : Int) := Int.natCast_nonneg _
  rw [BitVec.toNat_or, toNat_ofInt64 h0 (by omega), toNat_ofInt64 (x := (T : Int)) (by omega) (by omega)]
  simp only [Int.toNat_natCast]
  have : P * 2 ^ s ||| T = P * 2 ^ s + T := by
    rw [← Nat.shiftLeft_eq]
    exact (Nat.shiftLeft_add_eq_or_of_lt hT P).symm
  rw [this, IntKind.wrap_u64]
  omega
theorem pow_split {s : Nat} (hs : s ≤ 64) : (2 : Int) ^ s * 2 ^ (64 - s) = 18446744073709551616 := by
  rw [← Int.pow_add, show s + (64 - s) = 64 by omega]; rfl
theorem two_pow_pos (s : Nat) : (0 : Int) < 2 ^ s := Int.pow_pos (by omega)
theorem shl_parts {b : Int} {s : Nat} (hs : s ≤ 64) : b * 2 ^ s / 18446744073709551616 = b / 2 ^ (64 - s) := by
  rw [← pow_split hs, Int.mul_comm b, Int.mul_ediv_mul_of_pos _ _ (two_pow_pos s)]
def e80 : Ent := ⟨180, fun
  | [.int .u64 a, .int .u64 b, .int .u64 c] => .node (inU a && inU b && inU c && decide (a < c)) (.leaf (.ret (.tup [.int .u64 ((a * 18446744073709551616 + b) / c), .int .u64 ((a * 18446744073709551616 + b) % c)]))) .non
  | _ => .non⟩
theorem div80 {a b c : Int} (ha0 : 0 ≤ a) (hac : a < c) (hc1 : c < 18446744073709551616) (hb0 : 0 ≤ b) (hb1 : b < 18446744073709551616) :
    evFn Tryz.prog (spOf [e91]) (inlOf []) extD (cKD [e91] []) lp80 Tryz.f180 [.int .u64 a, .int .u64 b, .int .u64 c] [] (fun r _ => some r) =
    some (.ret (.tup [.int .u64 ((a * 18446744073709551616 + b) / c), .int .u64 ((a * 18446744073709551616 + b) % c)])) := by
  rw [head80]
  have c1 : (c == 0) = false := by simp; omega
  have c2 : decide (c ≤ a) = false := by simp; omega
  have c3 : (!decide (c = 0)) = true := by simp; omega
  rw [c1, c2, c3]
  by_cases h0 : a = 0
  · subst h0
    have : ((0 : Int) == 0) = true := rfl
    rw [this]
    simp only [cond_true, cond_false, Option.some.injEq, Res.ret.injEq, AV.tup.injEq, List.cons.injEq, AV.int.injEq, true_and, and_true]
    rw [Int.tdiv_eq_ediv_of_nonneg hb0, Int.tmod_eq_emod_of_nonneg hb0]
    have hd0 : 0 ≤ b / c := Int.ediv_nonneg hb0 (by omega)
    have hd1 : b / c ≤ b := Int.ediv_le_self _ hb0
    rw [wrapU hd0 (by omega)]
    simp
  · have c4 : (a == 0) = false := by simp; exact h0
    have c5 : inU c = true := inU_iff.2 ⟨by omega, hc1⟩
    obtain ⟨l0, l1, l2, l3⟩ := lz_bounds (c := c) (by omega) hc1
    rw [c4, c5]
    generalize hz : lzI c = z at *
    rw [wrapU (x := z) (by omega) (by omega)]
    rw [wrapU (x := 64 - z) (by omega) (by omega)]
    have c6 : (!decide (z < 0)) = true := by simp; omega
    have c7 : (!decide (64 - z < 0)) = true := by simp; omega
    rw [c6, c7]
    obtain ⟨s, rfl⟩ := Int.eq_ofNat_of_zero_le l0
    simp only [Int.toNat_natCast] at l2 l3 ⊢
    have m1 : min s 64 = s := by omega
    have m2 : (64 - (s : Int)).toNat = 64 - s := by omega
    have m3 : min (64 - s) 64 = 64 - s := by omega
    have m4 : min (Int.toNat 32) 64 = 32 := rfl
    rw [m2, m1, m3, m4]
    have hs : s ≤ 64 := by omega
    have hpow := two_pow_pos s
    have hyp : 0 < c * 2 ^ s := Int.mul_pos (by omega) hpow
    have hau : a * 2 ^ s < c * 2 ^ s := Int.mul_lt_mul_of_pos_right hac hpow
    have ha2 : 0 ≤ a * 2 ^ s := Int.mul_nonneg ha0 (by omega)
    have hb2 : 0 ≤ b * 2 ^ s := Int.mul_nonneg hb0 (by omega)
    rw [wrapU (x := c * 2 ^ s) (by omega) l3, wrapU (x := a * 2 ^ s) ha2 (by omega)]
    rw [Int.fdiv_eq_ediv_of_nonneg _ (show (0 : Int) ≤ 2 ^ 32 by omega), Int.fdiv_eq_ediv_of_nonneg _ (show (0 : Int) ≤ 2 ^ 32 by omega), Int.fdiv_eq_ediv_of_nonneg b (show (0 : Int) ≤ 2 ^ (64 - s) by have := two_pow_pos (64 - s); omega)]
    rw [and_low (y := c * 2 ^ s) (by omega) l3]
    have hw0 : 0 ≤ IntKind.u64.wrap (b * 2 ^ s) := by simp only [IntKind.wrap_u64]; omega
    have hw1 : IntKind.u64.wrap (b * 2 ^ s) < 18446744073709551616 := by simp only [IntKind.wrap_u64]; omega
    rw [and_low hw0 hw1]
    have hwb : IntKind.u64.wrap (b * 2 ^ s) = b * 2 ^ s % 18446744073709551616 := by simp only [IntKind.wrap_u64]
    have hq := shl_parts (b := b) hs
    have ht0 : 0 ≤ b / 2 ^ (64 - s) := Int.ediv_nonneg hb0 (by have := two_pow_pos (64 - s); omega)
    have ht1 : b / 2 ^ (64 - s) < 2 ^ s := by
      rw [Int.ediv_lt_iff_lt_mul (two_pow_pos _), pow_split hs]; exact hb1
    have hle : a * 2 ^ s + 2 ^ s ≤ c * 2 ^ s := by
      have : (a + 1) * 2 ^ s ≤ c * 2 ^ s := Int.mul_le_mul_of_nonneg_right (by omega) (by omega)
      rw [Int.add_mul, Int.one_mul] at this; exact this
    rw [or_join ha0 ht0 ht1 (by omega)]
    have e32 : (2 : Int) ^ 32 = 4294967296 := rfl
    rw [e32]
    generalize hY : c * 2 ^ s = Y at *
    generalize hW : IntKind.u64.wrap (b * 2 ^ s) = W at *
    have hu0 : 0 ≤ a * 2 ^ s + b / 2 ^ (64 - s) := by omega
    have hu1 : a * 2 ^ s + b / 2 ^ (64 - s) < Y := by omega
    simp only [cond_true, cond_false]
    rw [tail80_eq (y := Y) (by omega) (by omega) (by omega) (by omega) (by omega) (by omega) (by omega) (by omega) (by omega) hu0 hu1 (by omega)]
    have hN : ((a * 2 ^ s + b / 2 ^ (64 - s)) * 4294967296 + W / 4294967296) * 4294967296 + W % 4294967296 = (a * 18446744073709551616 + b) * 2 ^ s := by
      have e1 : (a * 18446744073709551616 + b) * 2 ^ s = a * 2 ^ s * 18446744073709551616 + b * 2 ^ s := by rw [Int.add_mul, Int.mul_assoc, Int.mul_comm 18446744073709551616, ← Int.mul_assoc]
      rw [e1, hwb, ← hq]
      generalize a * 2 ^ s = p
      generalize b * 2 ^ s = q
      omega
    obtain ⟨t1, t2⟩ := two_digits (T := (a * 2 ^ s + b / 2 ^ (64 - s)) * 4294967296 + W / 4294967296) (d := W % 4294967296) (y := Y) (B := 4294967296) hyp
    rw [← t1, ← t2, hN, ← hY]
    simp only [Int.toNat_natCast, m1]
    rw [Int.mul_ediv_mul_of_pos_left _ _ hpow, Int.mul_comm _ ((2 : Int) ^ s), Int.mul_comm c, Int.mul_emod_mul_of_pos _ _ hpow, Int.fdiv_eq_ediv_of_nonneg _ (by omega), Int.mul_ediv_cancel_left _ (by omega)]
set_option maxRecDepth 20000 in
theorem e80_ok : SpecHolds Tryz.prog InvD 180 fun a => (e80.2 a).run := by
  refine specD cx80 Tryz.func180 (c := codeOf Tryz.prog 180) (by kernel_rfl) lp80 (fun p hp => ?_) fun args r h => ?_
  · have hl : loops (codeOf Tryz.prog 180) = [(0, bodyOf Tryz.prog 180 0), (2, bodyOf Tryz.prog 180 2)] := by kernel_rfl
    rw [hl] at hp
    simp only [List.mem_cons, List.not_mem_nil, or_false] at hp
    rcases hp with rfl | rfl
    · dsimp only [LoopOkT, lp80]
      exact ⟨by decide, by decide, sum80a⟩
    · dsimp only [LoopOkT, lp80]
      exact ⟨by decide, by decide, sum80b⟩
  · simp only [e80] at h
    split at h
    · rename_i a b c
      rcases node_run h with ⟨hc, h⟩ | ⟨_, h⟩
      · simp only [Tr.run, Option.some.injEq] at h
        subst h
        simp only [Bool.and_eq_true, inU_iff, decide_eq_true_eq] at hc
        obtain ⟨⟨⟨⟨a0, a1⟩, b0, b1⟩, c0, c1⟩, hac⟩ := hc
        exact ⟨by kernel_rfl, rfl, div80 a0 hac c1 b0 b1⟩
      · simp [Tr.run] at h
    · simp [Tr.run] at h
open Go.Evl Go.RowKit
def fitB (hi lo : Int) : Bool := decide (hi = 0 ∧ lo ≤ 1152921504606846976)
def inI (x : Int) : Bool := decide (-9223372036854775808 ≤ x ∧ x < 9223372036854775808)
def e63 : Ent := ⟨149, fun
  | [.agg [.int .u64 hi, .int .u64 lo]] => .node (inU lo) (.node (fitB hi lo) (.leaf (.ret (.int .i64 lo))) (.leaf .pan)) .non
  | _ => .non⟩
def e38 : Ent := ⟨118, fun
  | [.bool n, .agg [.int .u64 a, .int .u64 b], .agg [.int .u64 c, .int .u64 d]] => .node (inU b && inU d) (.node (fitB a b) (.node (fitB c d) (.leaf (.ret (.agg [.int .i64 (bif n then -b else b), .int .i64 d]))) (.leaf .pan)) (.leaf .pan)) .non
  | _ => .non⟩
def mkG (num den : Int) : Int := gcdI (absI num) (absI den)
def mkA (num den : Int) : Int := absI num / mkG num den
def mkD (num den : Int) : Int := absI den / mkG num den
def mkN (num den : Int) : Int := bif (decide (num < 0) != decide (den < 0)) then -mkA num den else mkA num den
def mkFits (num den : Int) : Bool := decide (mkA num den ≤ 1152921504606846976) && decide (mkD num den ≤ 1152921504606846976)
def e11 : Ent := ⟨77, fun
  | [.int .i64 num, .int .i64 den] => .node (inI num && inI den) (.node (decide (den = 0)) (.leaf (.ret (.tup [.agg [.int .i64 0, .int .i64 0], .int .i64 26])))
      (.node (mkFits num den) (.leaf (.ret (.tup [.agg [.int .i64 (mkN num den), .int .i64 (mkD num den)], .int .i64 0]))) (.leaf (.ret (.tup [.agg [.int .i64 0, .int .i64 0], .int .i64 14]))))) .non
  | _ => .non⟩
open Go.Evl Go.RowKit
def wV (hi lo : Int) : Int := hi * 18446744073709551616 + lo
def e79 : Ent := ⟨179, fun
  | [.int .u64 a, .int .u64 b, .int .u64 c] => .node (inU a && inU b && inU c && decide (0 < c)) (.leaf (.ret (.int .u64 (wV a b % c)))) .non
  | _ => .non⟩
def e65 : Ent := ⟨144, fun
  | [.agg [.int .u64 a, .int .u64 b], .agg [.int .u64 c, .int .u64 d]] => .node (inU a && inU b && inU c && inU d && decide (a + c < 18446744073709551615)) (.leaf (.ret (.agg [.int .u64 ((wV a b + wV c d) / 18446744073709551616), .int .u64 ((wV a b + wV c d) % 18446744073709551616)]))) .non
  | _ => .non⟩
def e66 : Ent := ⟨145, fun
  | [.agg [.int .u64 a, .int .u64 b], .agg [.int .u64 c, .int .u64 d]] => .node (inU a && inU b && inU c && inU d && decide (wV c d ≤ wV a b)) (.leaf (.ret (.agg [.int .u64 ((wV a b - wV c d) / 18446744073709551616), .int .u64 ((wV a b - wV c d) % 18446744073709551616)]))) .non
  | _ => .non⟩
def e67 : Ent := ⟨146, fun
  | [.agg [.int .u64 a, .int .u64 b], .int .u64 c] => .node (inU a && inU b && inU c && decide (0 < c)) (.leaf (.ret (.int .u64 (wV a b % c)))) .non
  | _ => .non⟩
def e68 : Ent := ⟨147, fun
  | [.agg [.int .u64 a, .int .u64 b], .int .u64 c] => .node (inU a && inU b && inU c && decide (0 < c)) (.leaf (.ret (.agg [.int .u64 (wV a b / c / 18446744073709551616), .int .u64 (wV a b / c % 18446744073709551616)]))) .non
  | _ => .non⟩
open Go.Evl Go.RowKit
theorem tree79 (a b c : Int) : evFn Tryz.prog (spOf [e80]) (inlOf []) extD (cKD [e80] []) (fun _ => .unroll 0) Tryz.f179 [.int .u64 a, .int .u64 b, .int .u64 c] [] (fun r _ => some r) =
    (bif !decide (c = 0) then
      bif inU (a.tmod c) && inU b && inU c && decide (a.tmod c < c) then
        some (Res.ret (AV.int IntKind.u64 ((a.tmod c * 18446744073709551616 + b) % c)))
      else none
    else none : Option Res) := by kernel_rfl
theorem tree65 (a b c d : Int) : evFn Tryz.prog (spOf []) (inlOf []) extD (cKD [] []) (fun _ => .unroll 0) Tryz.f144 [.agg [.int .u64 a, .int .u64 b], .agg [.int .u64 c, .int .u64 d]] [] (fun r _ => some r) =
    (bif decide (0 ≤ b) && decide (0 ≤ d) && true && true then
      bif
          decide (0 ≤ a) && decide (0 ≤ c) && decide (0 ≤ (b + d + 0) / 18446744073709551616) &&
            decide ((b + d + 0) / 18446744073709551616 ≤ 1) then
        some
          (Res.ret
            (AV.agg
              [AV.int IntKind.u64 ((a + c + (b + d + 0) / 18446744073709551616) % 18446744073709551616),
                AV.int IntKind.u64 ((b + d + 0) % 18446744073709551616)]))
      else none
    else none : Option Res) := by kernel_rfl
theorem tree66 (a b c d : Int) : evFn Tryz.prog (spOf []) (inlOf []) extD (cKD [] []) (fun _ => .unroll 0) Tryz.f145 [.agg [.int .u64 a, .int .u64 b], .agg [.int .u64 c, .int .u64 d]] [] (fun r _ => some r) =
    (bif decide (0 ≤ b) && decide (0 ≤ d) && decide (d < 18446744073709551616) && true && true then
      bif
          decide (0 ≤ a) && decide (0 ≤ c) && decide (c < 18446744073709551616) &&
              decide (0 ≤ bif decide (b < d + 0) then (1 : Int) else 0) &&
            decide ((bif decide (b < d + 0) then (1 : Int) else 0) ≤ 1) then
        some
          (Res.ret
            (AV.agg
              [AV.int IntKind.u64 ((a - c - bif decide (b < d + 0) then (1 : Int) else 0) % 18446744073709551616),
                AV.int IntKind.u64 ((b - d - 0) % 18446744073709551616)]))
      else none
    else none : Option Res) := by kernel_rfl
theorem tree67 (a b c : Int) : evFn Tryz.prog (spOf [e79]) (inlOf []) extD (cKD [e79] []) (fun _ => .unroll 0) Tryz.f146 [.agg [.int .u64 a, .int .u64 b], .int .u64 c] [] (fun r _ => some r) =
    (bif inU a && inU b && inU c && decide (0 < c) then some (Res.ret (AV.int IntKind.u64 (wV a b % c))) else none : Option Res) := by kernel_rfl
theorem tree68 (a b c : Int) : evFn Tryz.prog (spOf [e80]) (inlOf []) extD (cKD [e80] []) (fun _ => .unroll 0) Tryz.f147 [.agg [.int .u64 a, .int .u64 b], .int .u64 c] [] (fun r _ => some r) =
    (bif !decide (c = 0) then
      bif inU (a.tmod c) && inU b && inU c && decide (a.tmod c < c) then
        bif !decide (c = 0) then
          some
            (Res.ret
              (AV.agg
                [AV.int IntKind.u64 (IntKind.u64.wrap (a.tdiv c)),
                  AV.int IntKind.u64 ((a.tmod c * 18446744073709551616 + b) / c)]))
        else none
      else none
    else none : Option Res) := by kernel_rfl
theorem wide_mod {a b c : Int} (hc : 0 < c) : wV (a % c) b % c = wV a b % c := (two_digits (T := a) (d := b) (B := 18446744073709551616) hc).2.symm
theorem wide_q {a b c : Int} (hb : 0 ≤ b) (hb1 : b < 18446744073709551616) (hc : 0 < c) : 0 ≤ wV (a % c) b / c ∧ wV (a % c) b / c < 18446744073709551616 := by
  have h1 := Int.emod_nonneg a (show c ≠ 0 by omega)
  have h2 := Int.emod_lt_of_pos a hc
  unfold wV
  refine ⟨Int.ediv_nonneg (by omega) (by omega), ?_⟩
  rw [Int.ediv_lt_iff_lt_mul hc]
  omega
theorem wide_div {a b c : Int} (hb : 0 ≤ b) (hb1 : b < 18446744073709551616) (hc : 0 < c) : wV a b / c / 18446744073709551616 = a / c ∧ wV a b / c % 18446744073709551616 = wV (a % c) b / c := by
  have h := (two_digits (T := a) (d := b) (B := 18446744073709551616) hc).1
  obtain ⟨h1, h2⟩ := wide_q (a := a) hb hb1 hc
  unfold wV at *
  rw [h]
  omega
theorem div_le_self' {a c : Int} (ha : 0 ≤ a) (hc : 0 < c) : 0 ≤ a / c ∧ a / c ≤ a := ⟨Int.ediv_nonneg ha (by omega), Int.ediv_le_self _ ha⟩
theorem cx79 : (mkCx Tryz.prog (spOf [e80]) (inlOf []) extD).Ok InvD := cx_of [] (by kernel_rfl) (by
  intro p hp
  simp only [List.mem_cons, List.not_mem_nil, or_false] at hp
  subst hp
  exact e80_ok)
set_option maxRecDepth 20000 in
theorem e79_ok : SpecHolds Tryz.prog InvD 179 fun a => (e79.2 a).run := by
  refine specD cx79 Tryz.func179 (c := codeOf Tryz.prog 179) (by kernel_rfl) (fun _ => .unroll 0) (fun _ _ => trivial) fun args r h => ?_
  simp only [e79] at h
  split at h
  · rename_i a b c
    rcases node_run h with ⟨hc, h⟩ | ⟨_, h⟩
    · simp only [Tr.run, Option.some.injEq] at h
      subst h
      simp only [Bool.and_eq_true, inU_iff, decide_eq_true_eq] at hc
      obtain ⟨⟨⟨⟨a0, a1⟩, b0, b1⟩, c0, c1⟩, hac⟩ := hc
      refine ⟨by kernel_rfl, rfl, ?_⟩
      have h1 := Int.emod_nonneg a (show c ≠ 0 by omega)
      have h2 := Int.emod_lt_of_pos a hac
      rw [tree79, Int.tmod_eq_emod_of_nonneg a0]
      have k1 : (!decide (c = 0)) = true := by simp; omega
      have k2 : (inU (a % c) && inU b && inU c && decide (a % c < c)) = true := by simp only [Bool.and_eq_true, inU_iff, decide_eq_true_eq]; omega
      rw [k1, k2, ← wide_mod hac]
      rfl
    · simp [Tr.run] at h
  · simp [Tr.run] at h
theorem cx67 : (mkCx Tryz.prog (spOf [e79]) (inlOf []) extD).Ok InvD := cx_of [] (by kernel_rfl) (by
  intro p hp
  simp only [List.mem_cons, List.not_mem_nil, or_false] at hp
  subst hp
  exact e79_ok)
set_option maxRecDepth 20000 in
theorem e67_ok : SpecHolds Tryz.prog InvD 146 fun a => (e67.2 a).run := by
  refine specD cx67 Tryz.func146 (c := codeOf Tryz.prog 146) (by kernel_rfl) (fun _ => .unroll 0) (fun _ _ => trivial) fun args r h => ?_
  simp only [e67] at h
  split at h
  · rename_i a b c
    exact ⟨by kernel_rfl, tr_ok (by rfl) h, by rw [tree67]; exact h⟩
  · simp [Tr.run] at h
set_option maxRecDepth 20000 in
theorem e68_ok : SpecHolds Tryz.prog InvD 147 fun a => (e68.2 a).run := by
  refine specD cx79 Tryz.func147 (c := codeOf Tryz.prog 147) (by kernel_rfl) (fun _ => .unroll 0) (fun _ _ => trivial) fun args r h => ?_
  simp only [e68] at h
  split at h
  · rename_i a b c
    rcases node_run h with ⟨hc, h⟩ | ⟨_, h⟩
    · simp only [Tr.run, Option.some.injEq] at h
      subst h
      simp only [Bool.and_eq_true, inU_iff, decide_eq_true_eq] at hc
      obtain ⟨⟨⟨⟨a0, a1⟩, b0, b1⟩, c0, c1⟩, hac⟩ := hc
      refine ⟨by kernel_rfl, rfl, ?_⟩
      have h1 := Int.emod_nonneg a (show c ≠ 0 by omega)
      have h2 := Int.emod_lt_of_pos a hac
      obtain ⟨d1, d2⟩ := div_le_self' a0 hac
      rw [tree68, Int.tmod_eq_emod_of_nonneg a0, Int.tdiv_eq_ediv_of_nonneg a0, wrapU d1 (by omega)]
      have k1 : (!decide (c = 0)) = true := by simp; omega
      have k2 : (inU (a % c) && inU b && inU c && decide (a % c < c)) = true := by simp only [Bool.and_eq_true, inU_iff, decide_eq_true_eq]; omega
      obtain ⟨w1, w2⟩ := wide_div (a := a) b0 b1 hac
      rw [k1, k2, w1, w2]
      rfl
    · simp [Tr.run] at h
  · simp [Tr.run] at h
set_option maxRecDepth 20000 in
theorem e65_ok : SpecHolds Tryz.prog InvD 144 fun a => (e65.2 a).run := by
  refine specD cx0 Tryz.func144 (c := codeOf Tryz.prog 144) (by kernel_rfl) (fun _ => .unroll 0) (fun _ _ => trivial) fun args r h => ?_
  simp only [e65] at h
  split at h
  · rename_i a b c d
    rcases node_run h with ⟨hc, h⟩ | ⟨_, h⟩
    · simp only [Tr.run, Option.some.injEq] at h
      subst h
      simp only [Bool.and_eq_true, inU_iff, decide_eq_true_eq] at hc
      obtain ⟨⟨⟨⟨⟨a0, a1⟩, b0, b1⟩, c0, c1⟩, d0, d1⟩, hac⟩ := hc
      refine ⟨by kernel_rfl, rfl, ?_⟩
      rw [tree65]
      have k1 : (decide (0 ≤ b) && decide (0 ≤ d) && true && true) = true := by simp; omega
      have k2 : (decide (0 ≤ a) && decide (0 ≤ c) && decide (0 ≤ (b + d + 0) / 18446744073709551616) && decide ((b + d + 0) / 18446744073709551616 ≤ 1)) = true := by simp only [Bool.and_eq_true, decide_eq_true_eq]; omega
      rw [k1, k2]
      have w1 : (wV a b + wV c d) / 18446744073709551616 = (a + c + (b + d + 0) / 18446744073709551616) % 18446744073709551616 := by unfold wV; omega
      have w2 : (wV a b + wV c d) % 18446744073709551616 = (b + d + 0) % 18446744073709551616 := by unfold wV; omega
      rw [w1, w2]
      rfl
    · simp [Tr.run] at h
  · simp [Tr.run] at h
set_option maxRecDepth 20000 in
theorem e66_ok : SpecHolds Tryz.prog InvD 145 fun a => (e66.2 a).run := by
  refine specD cx0 Tryz.func145 (c := codeOf Tryz.prog 145) (by kernel_rfl) (fun _ => .unroll 0) (fun _ _ => trivial) fun args r h => ?_
  simp only [e66] at h
  split at h
  · rename_i a b c d
    rcases node_run h with ⟨hc, h⟩ | ⟨_, h⟩
    · simp only [Tr.run, Option.some.injEq] at h
      subst h
      simp only [Bool.and_eq_true, inU_iff, decide_eq_true_eq] at hc
      obtain ⟨⟨⟨⟨⟨a0, a1⟩, b0, b1⟩, c0, c1⟩, d0, d1⟩, hac⟩ := hc
      refine ⟨by kernel_rfl, rfl, ?_⟩
      rw [tree66]
      unfold wV at hac ⊢
      have k1 : (decide (0 ≤ b) && decide (0 ≤ d) && decide (d < 18446744073709551616) && true && true) = true := by simp; omega
      rw [k1]
      have w2 : (a * 18446744073709551616 + b - (c * 18446744073709551616 + d)) % 18446744073709551616 = (b - d - 0) % 18446744073709551616 := by omega
      rw [w2]
      by_cases hb : b < d + 0
      · rw [decide_eq_true hb]
        have w1 : (a * 18446744073709551616 + b - (c * 18446744073709551616 + d)) / 18446744073709551616 = (a - c - 1) % 18446744073709551616 := by omega
        rw [w1]
        simp only [cond_true]
        have k2 : (decide (0 ≤ a) && decide (0 ≤ c) && decide (c < 18446744073709551616) && decide ((0 : Int) ≤ 1) && decide ((1 : Int) ≤ 1)) = true := by simp; omega
        rw [k2]
        rfl
      · rw [decide_eq_false hb]
        have w1 : (a * 18446744073709551616 + b - (c * 18446744073709551616 + d)) / 18446744073709551616 = (a - c - 0) % 18446744073709551616 := by omega
        rw [w1]
        simp only [cond_true, cond_false]
        have k2 : (decide (0 ≤ a) && decide (0 ≤ c) && decide (c < 18446744073709551616) && decide ((0 : Int) ≤ 0) && decide ((0 : Int) ≤ 1)) = true := by simp; omega
        rw [k2]
        rfl
    · simp [Tr.run] at h
  · simp [Tr.run] at h
open Go.Evl Go.RowKit
theorem gcdI_int {x y : Int} (hx : 0 ≤ x) (hy : 0 ≤ y) : gcdI x y = (Int.gcd x y : Int) := by
  obtain ⟨X, rfl⟩ := Int.eq_ofNat_of_zero_le hx
  obtain ⟨Y, rfl⟩ := Int.eq_ofNat_of_zero_le hy
  rw [gcdI_eq]; rfl
theorem absI_nonneg (x : Int) : 0 ≤ absI x := by rw [absI_eq]; omega
theorem gcd_absI (x y : Int) : Int.gcd (absI x) y = Int.gcd x y := by rw [absI_eq]; simp [Int.gcd]
theorem gcdI_abs {x y : Int} (hy : 0 ≤ y) : gcdI (absI x) y = (Int.gcd x y : Int) := by rw [gcdI_int (absI_nonneg x) hy, gcd_absI]
theorem mul_law {a b c d : Int} (hb : 1 ≤ b) (hd : 1 ≤ d) (hab : Nat.gcd a.natAbs b.natAbs = 1) (hcd : Nat.gcd c.natAbs d.natAbs = 1) :
    0 < gcdI (absI a) d ∧ 0 < gcdI (absI c) b ∧ absI a / gcdI (absI a) d * gcdI (absI a) d = absI a ∧ d / gcdI (absI a) d * gcdI (absI a) d = d ∧ absI c / gcdI (absI c) b * gcdI (absI c) b = absI c ∧ b / gcdI (absI c) b * gcdI (absI c) b = b ∧
    mkA (a * c) (b * d) = absI a / gcdI (absI a) d * (absI c / gcdI (absI c) b) ∧ mkD (a * c) (b * d) = b / gcdI (absI c) b * (d / gcdI (absI a) d) := by
  obtain ⟨A, hA⟩ : ∃ A : Nat, absI a = A := ⟨a.natAbs, absI_eq a⟩
  obtain ⟨C, hC⟩ : ∃ C : Nat, absI c = C := ⟨c.natAbs, absI_eq c⟩
  obtain ⟨B, rfl⟩ := Int.eq_ofNat_of_zero_le (show 0 ≤ b by omega)
  obtain ⟨D, rfl⟩ := Int.eq_ofNat_of_zero_le (show 0 ≤ d by omega)
  have hAB : Nat.Coprime A B := by
    have e : a.natAbs = A := by have := absI_eq a; omega
    rw [← e]; exact hab
  have hCD : Nat.Coprime C D := by
    have e : c.natAbs = C := by have := absI_eq c; omega
    rw [← e]; exact hcd
  have hac : absI (a * c) = ((A * C : Nat) : Int) := by
    rw [absI_eq, Int.natAbs_mul]
    have e : a.natAbs = A := by have := absI_eq a; omega
    have e2 : c.natAbs = C := by have := absI_eq c; omega
    rw [e, e2]
  have hbd : absI ((B : Int) * D) = ((B * D : Nat) : Int) := by rw [← Int.natCast_mul, absI_eq]; omega
  have hp : 0 < Nat.gcd A D := Nat.gcd_pos_of_pos_right _ (by omega)
  have hq : 0 < Nat.gcd C B := Nat.gcd_pos_of_pos_right _ (by omega)
  unfold mkA mkD mkG
  rw [hac, hbd, hA, hC, gcdI_eq, gcdI_eq, gcdI_eq]
  simp only [← Int.natCast_ediv, ← Int.natCast_mul]
  have hA1 : A / Nat.gcd A D * Nat.gcd A D = A := Nat.div_mul_cancel (Nat.gcd_dvd_left ..)
  have hD1 : D / Nat.gcd A D * Nat.gcd A D = D := Nat.div_mul_cancel (Nat.gcd_dvd_right ..)
  have hC1 : C / Nat.gcd C B * Nat.gcd C B = C := Nat.div_mul_cancel (Nat.gcd_dvd_left ..)
  have hB1 : B / Nat.gcd C B * Nat.gcd C B = B := Nat.div_mul_cancel (Nat.gcd_dvd_right ..)
  have c1 : Nat.Coprime (A / Nat.gcd A D) (D / Nat.gcd A D) := Nat.coprime_div_gcd_div_gcd hp
  have c2 : Nat.Coprime (C / Nat.gcd C B) (B / Nat.gcd C B) := Nat.coprime_div_gcd_div_gcd hq
  have c3 : Nat.Coprime (A / Nat.gcd A D) (B / Nat.gcd C B) := (hAB.coprime_dvd_left ⟨_, hA1.symm⟩).coprime_dvd_right ⟨_, hB1.symm⟩
  have c4 : Nat.Coprime (C / Nat.gcd C B) (D / Nat.gcd A D) := (hCD.coprime_dvd_left ⟨_, hC1.symm⟩).coprime_dvd_right ⟨_, hD1.symm⟩
  generalize Nat.gcd A D = p at *
  generalize Nat.gcd C B = q at *
  generalize A / p = A' at *
  generalize D / p = D' at *
  generalize C / q = C' at *
  generalize B / q = B' at *
  have hg : Nat.gcd (A * C) (B * D) = p * q := by
    have e1 : A * C = A' * C' * (p * q) := by rw [← hA1, ← hC1]; simp only [Nat.mul_assoc, Nat.mul_left_comm]
    have e2 : B * D = B' * D' * (p * q) := by
      rw [← hB1, ← hD1, Nat.mul_comm p q]; simp only [Nat.mul_assoc, Nat.mul_left_comm]
    rw [e1, e2, Nat.gcd_mul_right]
    have : Nat.gcd (A' * C') (B' * D') = 1 := Nat.Coprime.mul_left (Nat.Coprime.mul_right c3 c1) (Nat.Coprime.mul_right c2 c4)
    rw [this, Nat.one_mul]
  have hpq : 0 < p * q := Nat.mul_pos hp hq
  refine ⟨by omega, by omega, by rw [hA1], by rw [hD1], by rw [hC1], by rw [hB1], ?_, ?_⟩
  · rw [hg, show A * C = A' * C' * (p * q) by rw [← hA1, ← hC1]; simp only [Nat.mul_assoc, Nat.mul_left_comm], Nat.mul_div_cancel _ hpq]
  · rw [hg, show B * D = B' * D' * (p * q) by rw [← hB1, ← hD1, Nat.mul_comm p q]; simp only [Nat.mul_assoc, Nat.mul_left_comm], Nat.mul_div_cancel _ hpq]
open Go.Evl Go.RowKit
def w48_0 (a b c d : Int) : List (Bool × Bool) := [(decide (-9223372036854775808 ≤ a) && decide (a < 9223372036854775808), true), (decide (0 ≤ absI a) && decide (0 ≤ IntKind.u64.wrap d), true), (decide (-9223372036854775808 ≤ c) && decide (c < 9223372036854775808), true), (decide (0 ≤ absI c) && decide (0 ≤ IntKind.u64.wrap b), true), (decide (-9223372036854775808 ≤ a) && decide (a < 9223372036854775808), true), (!decide (gcdI (absI a) (IntKind.u64.wrap d) = 0), true), (decide (-9223372036854775808 ≤ c) && decide (c < 9223372036854775808), true), (!decide (gcdI (absI c) (IntKind.u64.wrap b) = 0), true), (inU (IntKind.u64.wrap ((absI a).tdiv (gcdI (absI a) (IntKind.u64.wrap d)))) &&
  inU (IntKind.u64.wrap ((absI c).tdiv (gcdI (absI c) (IntKind.u64.wrap b)))), true), (!decide (gcdI (absI c) (IntKind.u64.wrap b) = 0), true), (!decide (gcdI (absI a) (IntKind.u64.wrap d) = 0), true), (inU (IntKind.u64.wrap ((IntKind.u64.wrap b).tdiv (gcdI (absI c) (IntKind.u64.wrap b)))) &&
  inU (IntKind.u64.wrap ((IntKind.u64.wrap d).tdiv (gcdI (absI a) (IntKind.u64.wrap d)))), true), (decide (a < 0), true), (decide (c < 0), true), (inU
    (IntKind.u64.wrap ((absI a).tdiv (gcdI (absI a) (IntKind.u64.wrap d))) *
        IntKind.u64.wrap ((absI c).tdiv (gcdI (absI c) (IntKind.u64.wrap b))) %
      18446744073709551616) &&
  inU
    (IntKind.u64.wrap ((IntKind.u64.wrap b).tdiv (gcdI (absI c) (IntKind.u64.wrap b))) *
        IntKind.u64.wrap ((IntKind.u64.wrap d).tdiv (gcdI (absI a) (IntKind.u64.wrap d))) %
      18446744073709551616), true), (fitB
  (IntKind.u64.wrap ((absI a).tdiv (gcdI (absI a) (IntKind.u64.wrap d))) *
      IntKind.u64.wrap ((absI c).tdiv (gcdI (absI c) (IntKind.u64.wrap b))) /
    18446744073709551616)
  (IntKind.u64.wrap ((absI a).tdiv (gcdI (absI a) (IntKind.u64.wrap d))) *
      IntKind.u64.wrap ((absI c).tdiv (gcdI (absI c) (IntKind.u64.wrap b))) %
    18446744073709551616), true), (fitB
  (IntKind.u64.wrap ((IntKind.u64.wrap b).tdiv (gcdI (absI c) (IntKind.u64.wrap b))) *
      IntKind.u64.wrap ((IntKind.u64.wrap d).tdiv (gcdI (absI a) (IntKind.u64.wrap d))) /
    18446744073709551616)
  (IntKind.u64.wrap ((IntKind.u64.wrap b).tdiv (gcdI (absI c) (IntKind.u64.wrap b))) *
      IntKind.u64.wrap ((IntKind.u64.wrap d).tdiv (gcdI (absI a) (IntKind.u64.wrap d))) %
    18446744073709551616), true)]
set_option maxRecDepth 20000 in
theorem w48_0_ok (a b c d : Int) (h : allB (w48_0 a b c d) = true) : (evFnT Tryz.prog (spOf [e36, e37, e38, e53]) (inlOf []) extD (cKD [e36, e37, e38, e53] []) (fun _ => .unroll 0) Tryz.f102 [.agg [.int .i64 a, .int .i64 b], .agg [.int .i64 c, .int .i64 d]] [] (fun r _ => .ofOpt (some r))).run = some (Res.ret
  (AV.agg
    [AV.int IntKind.i64
        (bif false then
          -(IntKind.u64.wrap ((absI a).tdiv (gcdI (absI a) (IntKind.u64.wrap d))) *
                IntKind.u64.wrap ((absI c).tdiv (gcdI (absI c) (IntKind.u64.wrap b))) %
              18446744073709551616)
        else
          IntKind.u64.wrap ((absI a).tdiv (gcdI (absI a) (IntKind.u64.wrap d))) *
              IntKind.u64.wrap ((absI c).tdiv (gcdI (absI c) (IntKind.u64.wrap b))) %
            18446744073709551616),
      AV.int IntKind.i64
        (IntKind.u64.wrap ((IntKind.u64.wrap b).tdiv (gcdI (absI c) (IntKind.u64.wrap b))) *
            IntKind.u64.wrap ((IntKind.u64.wrap d).tdiv (gcdI (absI a) (IntKind.u64.wrap d))) %
          18446744073709551616)]) : Res) := way (gs := [true, true, true, true, true, true, true, true, true, true, false, true, true, true]) (by kernel_rfl) h
def w48_1 (a b c d : Int) : List (Bool × Bool) := [(decide (-9223372036854775808 ≤ a) && decide (a < 9223372036854775808), true), (decide (0 ≤ absI a) && decide (0 ≤ IntKind.u64.wrap d), true), (decide (-9223372036854775808 ≤ c) && decide (c < 9223372036854775808), true), (decide (0 ≤ absI c) && decide (0 ≤ IntKind.u64.wrap b), true), (decide (-9223372036854775808 ≤ a) && decide (a < 9223372036854775808), true), (!decide (gcdI (absI a) (IntKind.u64.wrap d) = 0), true), (decide (-9223372036854775808 ≤ c) && decide (c < 9223372036854775808), true), (!decide (gcdI (absI c) (IntKind.u64.wrap b) = 0), true), (inU (IntKind.u64.wrap ((absI a).tdiv (gcdI (absI a) (IntKind.u64.wrap d)))) &&
  inU (IntKind.u64.wrap ((absI c).tdiv (gcdI (absI c) (IntKind.u64.wrap b)))), true), (!decide (gcdI (absI c) (IntKind.u64.wrap b) = 0), true), (!decide (gcdI (absI a) (IntKind.u64.wrap d) = 0), true), (inU (IntKind.u64.wrap ((IntKind.u64.wrap b).tdiv (gcdI (absI c) (IntKind.u64.wrap b)))) &&
  inU (IntKind.u64.wrap ((IntKind.u64.wrap d).tdiv (gcdI (absI a) (IntKind.u64.wrap d)))), true), (decide (a < 0), true), (decide (c < 0), true), (inU
    (IntKind.u64.wrap ((absI a).tdiv (gcdI (absI a) (IntKind.u64.wrap d))) *
        IntKind.u64.wrap ((absI c).tdiv (gcdI (absI c) (IntKind.u64.wrap b))) %
      18446744073709551616) &&
  inU
    (IntKind.u64.wrap ((IntKind.u64.wrap b).tdiv (gcdI (absI c) (IntKind.u64.wrap b))) *
        IntKind.u64.wrap ((IntKind.u64.wrap d).tdiv (gcdI (absI a) (IntKind.u64.wrap d))) %
      18446744073709551616), true), (fitB
  (IntKind.u64.wrap ((absI a).tdiv (gcdI (absI a) (IntKind.u64.wrap d))) *
      IntKind.u64.wrap ((absI c).tdiv (gcdI (absI c) (IntKind.u64.wrap b))) /
    18446744073709551616)
  (IntKind.u64.wrap ((absI a).tdiv (gcdI (absI a) (IntKind.u64.wrap d))) *
      IntKind.u64.wrap ((absI c).tdiv (gcdI (absI c) (IntKind.u64.wrap b))) %
    18446744073709551616), true), (fitB
  (IntKind.u64.wrap ((IntKind.u64.wrap b).tdiv (gcdI (absI c) (IntKind.u64.wrap b))) *
      IntKind.u64.wrap ((IntKind.u64.wrap d).tdiv (gcdI (absI a) (IntKind.u64.wrap d))) /
    18446744073709551616)
  (IntKind.u64.wrap ((IntKind.u64.wrap b).tdiv (gcdI (absI c) (IntKind.u64.wrap b))) *
      IntKind.u64.wrap ((IntKind.u64.wrap d).tdiv (gcdI (absI a) (IntKind.u64.wrap d))) %
    18446744073709551616), false)]
set_option maxRecDepth 20000 in
theorem w48_1_ok (a b c d : Int) (h : allB (w48_1 a b c d) = true) : (evFnT Tryz.prog (spOf [e36, e37, e38, e53]) (inlOf []) extD (cKD [e36, e37, e38, e53] []) (fun _ => .unroll 0) Tryz.f102 [.agg [.int .i64 a, .int .i64 b], .agg [.int .i64 c, .int .i64 d]] [] (fun r _ => .ofOpt (some r))).run = some (Res.pan : Res) := way (gs := [true, true, true, true, true, true, true, true, true, true, false, true, true, false]) (by kernel_rfl) h
def w48_2 (a b c d : Int) : List (Bool × Bool) := [(decide (-9223372036854775808 ≤ a) && decide (a < 9223372036854775808), true), (decide (0 ≤ absI a) && decide (0 ≤ IntKind.u64.wrap d), true), (decide (-9223372036854775808 ≤ c) && decide (c < 9223372036854775808), true), (decide (0 ≤ absI c) && decide (0 ≤ IntKind.u64.wrap b), true), (decide (-9223372036854775808 ≤ a) && decide (a < 9223372036854775808), true), (!decide (gcdI (absI a) (IntKind.u64.wrap d) = 0), true), (decide (-9223372036854775808 ≤ c) && decide (c < 9223372036854775808), true), (!decide (gcdI (absI c) (IntKind.u64.wrap b) = 0), true), (inU (IntKind.u64.wrap ((absI a).tdiv (gcdI (absI a) (IntKind.u64.wrap d)))) &&
  inU (IntKind.u64.wrap ((absI c).tdiv (gcdI (absI c) (IntKind.u64.wrap b)))), true), (!decide (gcdI (absI c) (IntKind.u64.wrap b) = 0), true), (!decide (gcdI (absI a) (IntKind.u64.wrap d) = 0), true), (inU (IntKind.u64.wrap ((IntKind.u64.wrap b).tdiv (gcdI (absI c) (IntKind.u64.wrap b)))) &&
  inU (IntKind.u64.wrap ((IntKind.u64.wrap d).tdiv (gcdI (absI a) (IntKind.u64.wrap d)))), true), (decide (a < 0), true), (decide (c < 0), true), (inU
    (IntKind.u64.wrap ((absI a).tdiv (gcdI (absI a) (IntKind.u64.wrap d))) *
        IntKind.u64.wrap ((absI c).tdiv (gcdI (absI c) (IntKind.u64.wrap b))) %
      18446744073709551616) &&
  inU
    (IntKind.u64.wrap ((IntKind.u64.wrap b).tdiv (gcdI (absI c) (IntKind.u64.wrap b))) *
        IntKind.u64.wrap ((IntKind.u64.wrap d).tdiv (gcdI (absI a) (IntKind.u64.wrap d))) %
      18446744073709551616), true), (fitB
  (IntKind.u64.wrap ((absI a).tdiv (gcdI (absI a) (IntKind.u64.wrap d))) *
      IntKind.u64.wrap ((absI c).tdiv (gcdI (absI c) (IntKind.u64.wrap b))) /
    18446744073709551616)
  (IntKind.u64.wrap ((absI a).tdiv (gcdI (absI a) (IntKind.u64.wrap d))) *
      IntKind.u64.wrap ((absI c).tdiv (gcdI (absI c) (IntKind.u64.wrap b))) %
    18446744073709551616), false)]
set_option maxRecDepth 20000 in
theorem w48_2_ok (a b c d : Int) (h : allB (w48_2 a b c d) = true) : (evFnT Tryz.prog (spOf [e36, e37, e38, e53]) (inlOf []) extD (cKD [e36, e37, e38, e53] []) (fun _ => .unroll 0) Tryz.f102 [.agg [.int .i64 a, .int .i64 b], .agg [.int .i64 c, .int .i64 d]] [] (fun r _ => .ofOpt (some r))).run = some (Res.pan : Res) := way (gs := [true, true, true, true, true, true, true, true, true, true, false, true, false]) (by kernel_rfl) h
def w48_3 (a b c d : Int) : List (Bool × Bool) := [(decide (-9223372036854775808 ≤ a) && decide (a < 9223372036854775808), true), (decide (0 ≤ absI a) && decide (0 ≤ IntKind.u64.wrap d), true), (decide (-9223372036854775808 ≤ c) && decide (c < 9223372036854775808), true), (decide (0 ≤ absI c) && decide (0 ≤ IntKind.u64.wrap b), true), (decide (-9223372036854775808 ≤ a) && decide (a < 9223372036854775808), true), (!decide (gcdI (absI a) (IntKind.u64.wrap d) = 0), true), (decide (-9223372036854775808 ≤ c) && decide (c < 9223372036854775808), true), (!decide (gcdI (absI c) (IntKind.u64.wrap b) = 0), true), (inU (IntKind.u64.wrap ((absI a).tdiv (gcdI (absI a) (IntKind.u64.wrap d)))) &&
  inU (IntKind.u64.wrap ((absI c).tdiv (gcdI (absI c) (IntKind.u64.wrap b)))), true), (!decide (gcdI (absI c) (IntKind.u64.wrap b) = 0), true), (!decide (gcdI (absI a) (IntKind.u64.wrap d) = 0), true), (inU (IntKind.u64.wrap ((IntKind.u64.wrap b).tdiv (gcdI (absI c) (IntKind.u64.wrap b)))) &&
  inU (IntKind.u64.wrap ((IntKind.u64.wrap d).tdiv (gcdI (absI a) (IntKind.u64.wrap d)))), true), (decide (a < 0), true), (decide (c < 0), false), (inU
    (IntKind.u64.wrap ((absI a).tdiv (gcdI (absI a) (IntKind.u64.wrap d))) *
        IntKind.u64.wrap ((absI c).tdiv (gcdI (absI c) (IntKind.u64.wrap b))) %
      18446744073709551616) &&
  inU
    (IntKind.u64.wrap ((IntKind.u64.wrap b).tdiv (gcdI (absI c) (IntKind.u64.wrap b))) *
        IntKind.u64.wrap ((IntKind.u64.wrap d).tdiv (gcdI (absI a) (IntKind.u64.wrap d))) %
      18446744073709551616), true), (fitB
  (IntKind.u64.wrap ((absI a).tdiv (gcdI (absI a) (IntKind.u64.wrap d))) *
      IntKind.u64.wrap ((absI c).tdiv (gcdI (absI c) (IntKind.u64.wrap b))) /
    18446744073709551616)
  (IntKind.u64.wrap ((absI a).tdiv (gcdI (absI a) (IntKind.u64.wrap d))) *
      IntKind.u64.wrap ((absI c).tdiv (gcdI (absI c) (IntKind.u64.wrap b))) %
    18446744073709551616), true), (fitB
  (IntKind.u64.wrap ((IntKind.u64.wrap b).tdiv (gcdI (absI c) (IntKind.u64.wrap b))) *
      IntKind.u64.wrap ((IntKind.u64.wrap d).tdiv (gcdI (absI a) (IntKind.u64.wrap d))) /
    18446744073709551616)
  (IntKind.u64.wrap ((IntKind.u64.wrap b).tdiv (gcdI (absI c) (IntKind.u64.wrap b))) *
      IntKind.u64.wrap ((IntKind.u64.wrap d).tdiv (gcdI (absI a) (IntKind.u64.wrap d))) %
    18446744073709551616), true)]
set_option maxRecDepth 20000 in
theorem w48_3_ok (a b c d : Int) (h : allB (w48_3 a b c d) = true) : (evFnT Tryz.prog (spOf [e36, e37, e38, e53]) (inlOf []) extD (cKD [e36, e37, e38, e53] []) (fun _ => .unroll 0) Tryz.f102 [.agg [.int .i64 a, .int .i64 b], .agg [.int .i64 c, .int .i64 d]] [] (fun r _ => .ofOpt (some r))).run = some (Res.ret
  (AV.agg
    [AV.int IntKind.i64
        (bif true then
          -(IntKind.u64.wrap ((absI a).tdiv (gcdI (absI a) (IntKind.u64.wrap d))) *
                IntKind.u64.wrap ((absI c).tdiv (gcdI (absI c) (IntKind.u64.wrap b))) %
              18446744073709551616)
        else
          IntKind.u64.wrap ((absI a).tdiv (gcdI (absI a) (IntKind.u64.wrap d))) *
              IntKind.u64.wrap ((absI c).tdiv (gcdI (absI c) (IntKind.u64.wrap b))) %
            18446744073709551616),
      AV.int IntKind.i64
        (IntKind.u64.wrap ((IntKind.u64.wrap b).tdiv (gcdI (absI c) (IntKind.u64.wrap b))) *
            IntKind.u64.wrap ((IntKind.u64.wrap d).tdiv (gcdI (absI a) (IntKind.u64.wrap d))) %
          18446744073709551616)]) : Res) := way (gs := [true, true, true, true, true, true, true, true, true, false, true, true, true, true]) (by kernel_rfl) h
def w48_4 (a b c d : Int) : List (Bool × Bool) := [(decide (-9223372036854775808 ≤ a) && decide (a < 9223372036854775808), true), (decide (0 ≤ absI a) && decide (0 ≤ IntKind.u64.wrap d), true), (decide (-9223372036854775808 ≤ c) && decide (c < 9223372036854775808), true), (decide (0 ≤ absI c) && decide (0 ≤ IntKind.u64.wrap b), true), (decide (-9223372036854775808 ≤ a) && decide (a < 9223372036854775808), true), (!decide (gcdI (absI a) (IntKind.u64.wrap d) = 0), true), (decide (-9223372036854775808 ≤ c) && decide (c < 9223372036854775808), true), (!decide (gcdI (absI c) (IntKind.u64.wrap b) = 0), true), (inU (IntKind.u64.wrap ((absI a).tdiv (gcdI (absI a) (IntKind.u64.wrap d)))) &&
  inU (IntKind.u64.wrap ((absI c).tdiv (gcdI (absI c) (IntKind.u64.wrap b)))), true), (!decide (gcdI (absI c) (IntKind.u64.wrap b) = 0), true), (!decide (gcdI (absI a) (IntKind.u64.wrap d) = 0), true), (inU (IntKind.u64.wrap ((IntKind.u64.wrap b).tdiv (gcdI (absI c) (IntKind.u64.wrap b)))) &&
  inU (IntKind.u64.wrap ((IntKind.u64.wrap d).tdiv (gcdI (absI a) (IntKind.u64.wrap d)))), true), (decide (a < 0), true), (decide (c < 0), false), (inU
    (IntKind.u64.wrap ((absI a).tdiv (gcdI (absI a) (IntKind.u64.wrap d))) *
        IntKind.u64.wrap ((absI c).tdiv (gcdI (absI c) (IntKind.u64.wrap b))) %
      18446744073709551616) &&
  inU
    (IntKind.u64.wrap ((IntKind.u64.wrap b).tdiv (gcdI (absI c) (IntKind.u64.wrap b))) *
        IntKind.u64.wrap ((IntKind.u64.wrap d).tdiv (gcdI (absI a) (IntKind.u64.wrap d))) %
      18446744073709551616), true), (fitB
  (IntKind.u64.wrap ((absI a).tdiv (gcdI (absI a) (IntKind.u64.wrap d))) *
      IntKind.u64.wrap ((absI c).tdiv (gcdI (absI c) (IntKind.u64.wrap b))) /
    18446744073709551616)
  (IntKind.u64.wrap ((absI a).tdiv (gcdI (absI a) (IntKind.u64.wrap d))) *
      IntKind.u64.wrap ((absI c).tdiv (gcdI (absI c) (IntKind.u64.wrap b))) %
    18446744073709551616), true), (fitB
  (IntKind.u64.wrap ((IntKind.u64.wrap b).tdiv (gcdI (absI c) (IntKind.u64.wrap b))) *
      IntKind.u64.wrap ((IntKind.u64.wrap d).tdiv (gcdI (absI a) (IntKind.u64.wrap d))) /
    18446744073709551616)
  (IntKind.u64.wrap ((IntKind.u64.wrap b).tdiv (gcdI (absI c) (IntKind.u64.wrap b))) *
      IntKind.u64.wrap ((IntKind.u64.wrap d).tdiv (gcdI (absI a) (IntKind.u64.wrap d))) %
    18446744073709551616), false)]
set_option maxRecDepth 20000 in
theorem w48_4_ok (a b c d : Int) (h : allB (w48_4 a b c d) = true) : (evFnT Tryz.prog (spOf [e36, e37, e38, e53]) (inlOf []) extD (cKD [e36, e37, e38, e53] []) (fun _ => .unroll 0) Tryz.f102 [.agg [.int .i64 a, .int .i64 b], .agg [.int .i64 c, .int .i64 d]] [] (fun r _ => .ofOpt (some r))).run = some (Res.pan : Res) := way (gs := [true, true, true, true, true, true, true, true, true, false, true, true, true, false]) (by kernel_rfl) h
def w48_5 (a b c d : Int) : List (Bool × Bool) := [(decide (-9223372036854775808 ≤ a) && decide (a < 9223372036854775808), true), (decide (0 ≤ absI a) && decide (0 ≤ IntKind.u64.wrap d), true), (decide (-9223372036854775808 ≤ c) && decide (c < 9223372036854775808), true), (decide (0 ≤ absI c) && decide (0 ≤ IntKind.u64.wrap b), true), (decide (-9223372036854775808 ≤ a) && decide (a < 9223372036854775808), true), (!decide (gcdI (absI a) (IntKind.u64.wrap d) = 0), true), (decide (-9223372036854775808 ≤ c) && decide (c < 9223372036854775808), true), (!decide (gcdI (absI c) (IntKind.u64.wrap b) = 0), true), (inU (IntKind.u64.wrap ((absI a).tdiv (gcdI (absI a) (IntKind.u64.wrap d)))) &&
  inU (IntKind.u64.wrap ((absI c).tdiv (gcdI (absI c) (IntKind.u64.wrap b)))), true), (!decide (gcdI (absI c) (IntKind.u64.wrap b) = 0), true), (!decide (gcdI (absI a) (IntKind.u64.wrap d) = 0), true), (inU (IntKind.u64.wrap ((IntKind.u64.wrap b).tdiv (gcdI (absI c) (IntKind.u64.wrap b)))) &&
  inU (IntKind.u64.wrap ((IntKind.u64.wrap d).tdiv (gcdI (absI a) (IntKind.u64.wrap d)))), true), (decide (a < 0), true), (decide (c < 0), false), (inU
    (IntKind.u64.wrap ((absI a).tdiv (gcdI (absI a) (IntKind.u64.wrap d))) *
        IntKind.u64.wrap ((absI c).tdiv (gcdI (absI c) (IntKind.u64.wrap b))) %
      18446744073709551616) &&
  inU
    (IntKind.u64.wrap ((IntKind.u64.wrap b).tdiv (gcdI (absI c) (IntKind.u64.wrap b))) *
        IntKind.u64.wrap ((IntKind.u64.wrap d).tdiv (gcdI (absI a) (IntKind.u64.wrap d))) %
      18446744073709551616), true), (fitB
  (IntKind.u64.wrap ((absI a).tdiv (gcdI (absI a) (IntKind.u64.wrap d))) *
      IntKind.u64.wrap ((absI c).tdiv (gcdI (absI c) (IntKind.u64.wrap b))) /
    18446744073709551616)
  (IntKind.u64.wrap ((absI a).tdiv (gcdI (absI a) (IntKind.u64.wrap d))) *
      IntKind.u64.wrap ((absI c).tdiv (gcdI (absI c) (IntKind.u64.wrap b))) %
    18446744073709551616), false)]
set_option maxRecDepth 20000 in
theorem w48_5_ok (a b c d : Int) (h : allB (w48_5 a b c d) = true) : (evFnT Tryz.prog (spOf [e36, e37, e38, e53]) (inlOf []) extD (cKD [e36, e37, e38, e53] []) (fun _ => .unroll 0) Tryz.f102 [.agg [.int .i64 a, .int .i64 b], .agg [.int .i64 c, .int .i64 d]] [] (fun r _ => .ofOpt (some r))).run = some (Res.pan : Res) := way (gs := [true, true, true, true, true, true, true, true, true, false, true, true, false]) (by kernel_rfl) h
def w48_6 (a b c d : Int) : List (Bool × Bool) := [(decide (-9223372036854775808 ≤ a) && decide (a < 9223372036854775808), true), (decide (0 ≤ absI a) && decide (0 ≤ IntKind.u64.wrap d), true), (decide (-9223372036854775808 ≤ c) && decide (c < 9223372036854775808), true), (decide (0 ≤ absI c) && decide (0 ≤ IntKind.u64.wrap b), true), (decide (-9223372036854775808 ≤ a) && decide (a < 9223372036854775808), true), (!decide (gcdI (absI a) (IntKind.u64.wrap d) = 0), true), (decide (-9223372036854775808 ≤ c) && decide (c < 9223372036854775808), true), (!decide (gcdI (absI c) (IntKind.u64.wrap b) = 0), true), (inU (IntKind.u64.wrap ((absI a).tdiv (gcdI (absI a) (IntKind.u64.wrap d)))) &&
  inU (IntKind.u64.wrap ((absI c).tdiv (gcdI (absI c) (IntKind.u64.wrap b)))), true), (!decide (gcdI (absI c) (IntKind.u64.wrap b) = 0), true), (!decide (gcdI (absI a) (IntKind.u64.wrap d) = 0), true), (inU (IntKind.u64.wrap ((IntKind.u64.wrap b).tdiv (gcdI (absI c) (IntKind.u64.wrap b)))) &&
  inU (IntKind.u64.wrap ((IntKind.u64.wrap d).tdiv (gcdI (absI a) (IntKind.u64.wrap d)))), true), (decide (a < 0), false), (decide (c < 0), true), (inU
    (IntKind.u64.wrap ((absI a).tdiv (gcdI (absI a) (IntKind.u64.wrap d))) *
        IntKind.u64.wrap ((absI c).tdiv (gcdI (absI c) (IntKind.u64.wrap b))) %
      18446744073709551616) &&
  inU
    (IntKind.u64.wrap ((IntKind.u64.wrap b).tdiv (gcdI (absI c) (IntKind.u64.wrap b))) *
        IntKind.u64.wrap ((IntKind.u64.wrap d).tdiv (gcdI (absI a) (IntKind.u64.wrap d))) %
      18446744073709551616), true), (fitB
  (IntKind.u64.wrap ((absI a).tdiv (gcdI (absI a) (IntKind.u64.wrap d))) *
      IntKind.u64.wrap ((absI c).tdiv (gcdI (absI c) (IntKind.u64.wrap b))) /
    18446744073709551616)
  (IntKind.u64.wrap ((absI a).tdiv (gcdI (absI a) (IntKind.u64.wrap d))) *
      IntKind.u64.wrap ((absI c).tdiv (gcdI (absI c) (IntKind.u64.wrap b))) %
    18446744073709551616), true), (fitB
  (IntKind.u64.wrap ((IntKind.u64.wrap b).tdiv (gcdI (absI c) (IntKind.u64.wrap b))) *
      IntKind.u64.wrap ((IntKind.u64.wrap d).tdiv (gcdI (absI a) (IntKind.u64.wrap d))) /
    18446744073709551616)
  (IntKind.u64.wrap ((IntKind.u64.wrap b).tdiv (gcdI (absI c) (IntKind.u64.wrap b))) *
      IntKind.u64.wrap ((IntKind.u64.wrap d).tdiv (gcdI (absI a) (IntKind.u64.wrap d))) %
    18446744073709551616), true)]
set_option maxRecDepth 20000 in
theorem w48_6_ok (a b c d : Int) (h : allB (w48_6 a b c d) = true) : (evFnT Tryz.prog (spOf [e36, e37, e38, e53]) (inlOf []) extD (cKD [e36, e37, e38, e53] []) (fun _ => .unroll 0) Tryz.f102 [.agg [.int .i64 a, .int .i64 b], .agg [.int .i64 c, .int .i64 d]] [] (fun r _ => .ofOpt (some r))).run = some (Res.ret
  (AV.agg
    [AV.int IntKind.i64
        (bif true then
          -(IntKind.u64.wrap ((absI a).tdiv (gcdI (absI a) (IntKind.u64.wrap d))) *
                IntKind.u64.wrap ((absI c).tdiv (gcdI (absI c) (IntKind.u64.wrap b))) %
              18446744073709551616)
        else
          IntKind.u64.wrap ((absI a).tdiv (gcdI (absI a) (IntKind.u64.wrap d))) *
              IntKind.u64.wrap ((absI c).tdiv (gcdI (absI c) (IntKind.u64.wrap b))) %
            18446744073709551616),
      AV.int IntKind.i64
        (IntKind.u64.wrap ((IntKind.u64.wrap b).tdiv (gcdI (absI c) (IntKind.u64.wrap b))) *
            IntKind.u64.wrap ((IntKind.u64.wrap d).tdiv (gcdI (absI a) (IntKind.u64.wrap d))) %
          18446744073709551616)]) : Res) := way (gs := [true, true, true, true, true, true, true, true, false, true, true, true, true, true]) (by kernel_rfl) h
def w48_7 (a b c d : Int) : List (Bool × Bool) := [(decide (-9223372036854775808 ≤ a) && decide (a < 9223372036854775808), true), (decide (0 ≤ absI a) && decide (0 ≤ IntKind.u64.wrap d), true), (decide (-9223372036854775808 ≤ c) && decide (c < 9223372036854775808), true), (decide (0 ≤ absI c) && decide (0 ≤ IntKind.u64.wrap b), true), (decide (-9223372036854775808 ≤ a) && decide (a < 9223372036854775808), true), (!decide (gcdI (absI a) (IntKind.u64.wrap d) = 0), true), (decide (-9223372036854775808 ≤ c) && decide (c < 9223372036854775808), true), (!decide (gcdI (absI c) (IntKind.u64.wrap b) = 0), true), (inU (IntKind.u64.wrap ((absI a).tdiv (gcdI (absI a) (IntKind.u64.wrap d)))) &&
  inU (IntKind.u64.wrap ((absI c).tdiv (gcdI (absI c) (IntKind.u64.wrap b)))), true), (!decide (gcdI (absI c) (IntKind.u64.wrap b) = 0), true), (!decide (gcdI (absI a) (IntKind.u64.wrap d) = 0), true), (inU (IntKind.u64.wrap ((IntKind.u64.wrap b).tdiv (gcdI (absI c) (IntKind.u64.wrap b)))) &&
  inU (IntKind.u64.wrap ((IntKind.u64.wrap d).tdiv (gcdI (absI a) (IntKind.u64.wrap d)))), true), (decide (a < 0), false), (decide (c < 0), true), (inU
    (IntKind.u64.wrap ((absI a).tdiv (gcdI (absI a) (IntKind.u64.wrap d))) *
        IntKind.u64.wrap ((absI c).tdiv (gcdI (absI c) (IntKind.u64.wrap b))) %
      18446744073709551616) &&
  inU
    (IntKind.u64.wrap ((IntKind.u64.wrap b).tdiv (gcdI (absI c) (IntKind.u64.wrap b))) *
        IntKind.u64.wrap ((IntKind.u64.wrap d).tdiv (gcdI (absI a) (IntKind.u64.wrap d))) %
      18446744073709551616), true), (fitB
  (IntKind.u64.wrap ((absI a).tdiv (gcdI (absI a) (IntKind.u64.wrap d))) *
      IntKind.u64.wrap ((absI c).tdiv (gcdI (absI c) (IntKind.u64.wrap b))) /
    18446744073709551616)
  (IntKind.u64.wrap ((absI a).tdiv (gcdI (absI a) (IntKind.u64.wrap d))) *
      IntKind.u64.wrap ((absI c).tdiv (gcdI (absI c) (IntKind.u64.wrap b))) %
    18446744073709551616), true), (fitB
  (IntKind.u64.wrap ((IntKind.u64.wrap b).tdiv (gcdI (absI c) (IntKind.u64.wrap b))) *
      IntKind.u64.wrap ((IntKind.u64.wrap d).tdiv (gcdI (absI a) (IntKind.u64.wrap d))) /
    18446744073709551616)
  (IntKind.u64.wrap ((IntKind.u64.wrap b).tdiv (gcdI (absI c) (IntKind.u64.wrap b))) *
      IntKind.u64.wrap ((IntKind.u64.wrap d).tdiv (gcdI (absI a) (IntKind.u64.wrap d))) %
    18446744073709551616), false)]
set_option maxRecDepth 20000 in
theorem w48_7_ok (a b c d : Int) (h : allB (w48_7 a b c d) = true) : (evFnT Tryz.prog (spOf [e36, e37, e38, e53]) (inlOf []) extD (cKD [e36, e37, e38, e53] []) (fun _ => .unroll 0) Tryz.f102 [.agg [.int .i64 a, .int .i64 b], .agg [.int .i64 c, .int .i64 d]] [] (fun r _ => .ofOpt (some r))).run = some (Res.pan : Res) := way (gs := [true, true, true, true, true, true, true, true, false, true, true, true, true, false]) (by kernel_rfl) h
def w48_8 (a b c d : Int) : List (Bool × Bool) := [(decide (-9223372036854775808 ≤ a) && decide (a < 9223372036854775808), true), (decide (0 ≤ absI a) && decide (0 ≤ IntKind.u64.wrap d), true), (decide (-9223372036854775808 ≤ c) && decide (c < 9223372036854775808), true), (decide (0 ≤ absI c) && decide (0 ≤ IntKind.u64.wrap b), true), (decide (-9223372036854775808 ≤ a) && decide (a < 9223372036854775808), true), (!decide (gcdI (absI a) (IntKind.u64.wrap d) = 0), true), (decide (-9223372036854775808 ≤ c) && decide (c < 9223372036854775808), true), (!decide (gcdI (absI c) (IntKind.u64.wrap b) = 0), true), (inU (IntKind.u64.wrap ((absI a).tdiv (gcdI (absI a) (IntKind.u64.wrap d)))) &&
  inU (IntKind.u64.wrap ((absI c).tdiv (gcdI (absI c) (IntKind.u64.wrap b)))), true), (!decide (gcdI (absI c) (IntKind.u64.wrap b) = 0), true), (!decide (gcdI (absI a) (IntKind.u64.wrap d) = 0), true), (inU (IntKind.u64.wrap ((IntKind.u64.wrap b).tdiv (gcdI (absI c) (IntKind.u64.wrap b)))) &&
  inU (IntKind.u64.wrap ((IntKind.u64.wrap d).tdiv (gcdI (absI a) (IntKind.u64.wrap d)))), true), (decide (a < 0), false), (decide (c < 0), true), (inU
    (IntKind.u64.wrap ((absI a).tdiv (gcdI (absI a) (IntKind.u64.wrap d))) *
        IntKind.u64.wrap ((absI c).tdiv (gcdI (absI c) (IntKind.u64.wrap b))) %
      18446744073709551616) &&
  inU
    (IntKind.u64.wrap ((IntKind.u64.wrap b).tdiv (gcdI (absI c) (IntKind.u64.wrap b))) *
        IntKind.u64.wrap ((IntKind.u64.wrap d).tdiv (gcdI (absI a) (IntKind.u64.wrap d))) %
      18446744073709551616), true), (fitB
  (IntKind.u64.wrap ((absI a).tdiv (gcdI (absI a) (IntKind.u64.wrap d))) *
      IntKind.u64.wrap ((absI c).tdiv (gcdI (absI c) (IntKind.u64.wrap b))) /
    18446744073709551616)
  (IntKind.u64.wrap ((absI a).tdiv (gcdI (absI a) (IntKind.u64.wrap d))) *
      IntKind.u64.wrap ((absI c).tdiv (gcdI (absI c) (IntKind.u64.wrap b))) %
    18446744073709551616), false)]
set_option maxRecDepth 20000 in
theorem w48_8_ok (a b c d : Int) (h : allB (w48_8 a b c d) = true) : (evFnT Tryz.prog (spOf [e36, e37, e38, e53]) (inlOf []) extD (cKD [e36, e37, e38, e53] []) (fun _ => .unroll 0) Tryz.f102 [.agg [.int .i64 a, .int .i64 b], .agg [.int .i64 c, .int .i64 d]] [] (fun r _ => .ofOpt (some r))).run = some (Res.pan : Res) := way (gs := [true, true, true, true, true, true, true, true, false, true, true, true, false]) (by kernel_rfl) h
def w48_9 (a b c d : Int) : List (Bool × Bool) := [(decide (-9223372036854775808 ≤ a) && decide (a < 9223372036854775808), true), (decide (0 ≤ absI a) && decide (0 ≤ IntKind.u64.wrap d), true), (decide (-9223372036854775808 ≤ c) && decide (c < 9223372036854775808), true), (decide (0 ≤ absI c) && decide (0 ≤ IntKind.u64.wrap b), true), (decide (-9223372036854775808 ≤ a) && decide (a < 9223372036854775808), true), (!decide (gcdI (absI a) (IntKind.u64.wrap d) = 0), true), (decide (-9223372036854775808 ≤ c) && decide (c < 9223372036854775808), true), (!decide (gcdI (absI c) (IntKind.u64.wrap b) = 0), true), (inU (IntKind.u64.wrap ((absI a).tdiv (gcdI (absI a) (IntKind.u64.wrap d)))) &&
  inU (IntKind.u64.wrap ((absI c).tdiv (gcdI (absI c) (IntKind.u64.wrap b)))), true), (!decide (gcdI (absI c) (IntKind.u64.wrap b) = 0), true), (!decide (gcdI (absI a) (IntKind.u64.wrap d) = 0), true), (inU (IntKind.u64.wrap ((IntKind.u64.wrap b).tdiv (gcdI (absI c) (IntKind.u64.wrap b)))) &&
  inU (IntKind.u64.wrap ((IntKind.u64.wrap d).tdiv (gcdI (absI a) (IntKind.u64.wrap d)))), true), (decide (a < 0), false), (decide (c < 0), false), (inU
    (IntKind.u64.wrap ((absI a).tdiv (gcdI (absI a) (IntKind.u64.wrap d))) *
        IntKind.u64.wrap ((absI c).tdiv (gcdI (absI c) (IntKind.u64.wrap b))) %
      18446744073709551616) &&
  inU
    (IntKind.u64.wrap ((IntKind.u64.wrap b).tdiv (gcdI (absI c) (IntKind.u64.wrap b))) *
        IntKind.u64.wrap ((IntKind.u64.wrap d).tdiv (gcdI (absI a) (IntKind.u64.wrap d))) %
      18446744073709551616), true), (fitB
  (IntKind.u64.wrap ((absI a).tdiv (gcdI (absI a) (IntKind.u64.wrap d))) *
      IntKind.u64.wrap ((absI c).tdiv (gcdI (absI c) (IntKind.u64.wrap b))) /
    18446744073709551616)
  (IntKind.u64.wrap ((absI a).tdiv (gcdI (absI a) (IntKind.u64.wrap d))) *
      IntKind.u64.wrap ((absI c).tdiv (gcdI (absI c) (IntKind.u64.wrap b))) %
    18446744073709551616), true), (fitB
  (IntKind.u64.wrap ((IntKind.u64.wrap b).tdiv (gcdI (absI c) (IntKind.u64.wrap b))) *
      IntKind.u64.wrap ((IntKind.u64.wrap d).tdiv (gcdI (absI a) (IntKind.u64.wrap d))) /
    18446744073709551616)
  (IntKind.u64.wrap ((IntKind.u64.wrap b).tdiv (gcdI (absI c) (IntKind.u64.wrap b))) *
      IntKind.u64.wrap ((IntKind.u64.wrap d).tdiv (gcdI (absI a) (IntKind.u64.wrap d))) %
    18446744073709551616), true)]
set_option maxRecDepth 20000 in
theorem w48_9_ok (a b c d : Int) (h : allB (w48_9 a b c d) = true) : (evFnT Tryz.prog (spOf [e36, e37, e38, e53]) (inlOf []) extD (cKD [e36, e37, e38, e53] []) (fun _ => .unroll 0) Tryz.f102 [.agg [.int .i64 a, .int .i64 b], .agg [.int .i64 c, .int .i64 d]] [] (fun r _ => .ofOpt (some r))).run = some (Res.ret
  (AV.agg
    [AV.int IntKind.i64
        (bif false then
          -(IntKind.u64.wrap ((absI a).tdiv (gcdI (absI a) (IntKind.u64.wrap d))) *
                IntKind.u64.wrap ((absI c).tdiv (gcdI (absI c) (IntKind.u64.wrap b))) %
              18446744073709551616)
        else
          IntKind.u64.wrap ((absI a).tdiv (gcdI (absI a) (IntKind.u64.wrap d))) *
              IntKind.u64.wrap ((absI c).tdiv (gcdI (absI c) (IntKind.u64.wrap b))) %
            18446744073709551616),
      AV.int IntKind.i64
        (IntKind.u64.wrap ((IntKind.u64.wrap b).tdiv (gcdI (absI c) (IntKind.u64.wrap b))) *
            IntKind.u64.wrap ((IntKind.u64.wrap d).tdiv (gcdI (absI a) (IntKind.u64.wrap d))) %
          18446744073709551616)]) : Res) := way (gs := [true, true, true, true, true, true, true, true, false, false, false, true, true, true]) (by kernel_rfl) h
def w48_10 (a b c d : Int) : List (Bool × Bool) := [(decide (-9223372036854775808 ≤ a) && decide (a < 9223372036854775808), true), (decide (0 ≤ absI a) && decide (0 ≤ IntKind.u64.wrap d), true), (decide (-9223372036854775808 ≤ c) && decide (c < 9223372036854775808), true), (decide (0 ≤ absI c) && decide (0 ≤ IntKind.u64.wrap b), true), (decide (-9223372036854775808 ≤ a) && decide (a < 9223372036854775808), true), (!decide (gcdI (absI a) (IntKind.u64.wrap d) = 0), true), (decide (-9223372036854775808 ≤ c) && decide (c < 9223372036854775808), true), (!decide (gcdI (absI c) (IntKind.u64.wrap b) = 0), true), (inU (IntKind.u64.wrap ((absI a).tdiv (gcdI (absI a) (IntKind.u64.wrap d)))) &&
  inU (IntKind.u64.wrap ((absI c).tdiv (gcdI (absI c) (IntKind.u64.wrap b)))), true), (!decide (gcdI (absI c) (IntKind.u64.wrap b) = 0), true), (!decide (gcdI (absI a) (IntKind.u64.wrap d) = 0), true), (inU (IntKind.u64.wrap ((IntKind.u64.wrap b).tdiv (gcdI (absI c) (IntKind.u64.wrap b)))) &&
  inU (IntKind.u64.wrap ((IntKind.u64.wrap d).tdiv (gcdI (absI a) (IntKind.u64.wrap d)))), true), (decide (a < 0), false), (decide (c < 0), false), (inU
    (IntKind.u64.wrap ((absI a).tdiv (gcdI (absI a) (IntKind.u64.wrap d))) *
        IntKind.u64.wrap ((absI c).tdiv (gcdI (absI c) (IntKind.u64.wrap b))) %
      18446744073709551616) &&
  inU
    (IntKind.u64.wrap ((IntKind.u64.wrap b).tdiv (gcdI (absI c) (IntKind.u64.wrap b))) *
        IntKind.u64.wrap ((IntKind.u64.wrap d).tdiv (gcdI (absI a) (IntKind.u64.wrap d))) %
      18446744073709551616), true), (fitB
  (IntKind.u64.wrap ((absI a).tdiv (gcdI (absI a) (IntKind.u64.wrap d))) *
      IntKind.u64.wrap ((absI c).tdiv (gcdI (absI c) (IntKind.u64.wrap b))) /
    18446744073709551616)
  (IntKind.u64.wrap ((absI a).tdiv (gcdI (absI a) (IntKind.u64.wrap d))) *
      IntKind.u64.wrap ((absI c).tdiv (gcdI (absI c) (IntKind.u64.wrap b))) %
    18446744073709551616), true), (fitB
  (IntKind.u64.wrap ((IntKind.u64.wrap b).tdiv (gcdI (absI c) (IntKind.u64.wrap b))) *
      IntKind.u64.wrap ((IntKind.u64.wrap d).tdiv (gcdI (absI a) (IntKind.u64.wrap d))) /
    18446744073709551616)
  (IntKind.u64.wrap ((IntKind.u64.wrap b).tdiv (gcdI (absI c) (IntKind.u64.wrap b))) *
      IntKind.u64.wrap ((IntKind.u64.wrap d).tdiv (gcdI (absI a) (IntKind.u64.wrap d))) %
    18446744073709551616), false)]
set_option maxRecDepth 20000 in
theorem w48_10_ok (a b c d : Int) (h : allB (w48_10 a b c d) = true) : (evFnT Tryz.prog (spOf [e36, e37, e38, e53]) (inlOf []) extD (cKD [e36, e37, e38, e53] []) (fun _ => .unroll 0) Tryz.f102 [.agg [.int .i64 a, .int .i64 b], .agg [.int .i64 c, .int .i64 d]] [] (fun r _ => .ofOpt (some r))).run = some (Res.pan : Res) := way (gs := [true, true, true, true, true, true, true, true, false, false, false, true, true, false]) (by kernel_rfl) h
def w48_11 (a b c d : Int) : List (Bool × Bool) := [(decide (-9223372036854775808 ≤ a) && decide (a < 9223372036854775808), true), (decide (0 ≤ absI a) && decide (0 ≤ IntKind.u64.wrap d), true), (decide (-9223372036854775808 ≤ c) && decide (c < 9223372036854775808), true), (decide (0 ≤ absI c) && decide (0 ≤ IntKind.u64.wrap b), true), (decide (-9223372036854775808 ≤ a) && decide (a < 9223372036854775808), true), (!decide (gcdI (absI a) (IntKind.u64.wrap d) = 0), true), (decide (-9223372036854775808 ≤ c) && decide (c < 9223372036854775808), true), (!decide (gcdI (absI c) (IntKind.u64.wrap b) = 0), true), (inU (IntKind.u64.wrap ((absI a).tdiv (gcdI (absI a) (IntKind.u64.wrap d)))) &&
  inU (IntKind.u64.wrap ((absI c).tdiv (gcdI (absI c) (IntKind.u64.wrap b)))), true), (!decide (gcdI (absI c) (IntKind.u64.wrap b) = 0), true), (!decide (gcdI (absI a) (IntKind.u64.wrap d) = 0), true), (inU (IntKind.u64.wrap ((IntKind.u64.wrap b).tdiv (gcdI (absI c) (IntKind.u64.wrap b)))) &&
  inU (IntKind.u64.wrap ((IntKind.u64.wrap d).tdiv (gcdI (absI a) (IntKind.u64.wrap d)))), true), (decide (a < 0), false), (decide (c < 0), false), (inU
    (IntKind.u64.wrap ((absI a).tdiv (gcdI (absI a) (IntKind.u64.wrap d))) *
        IntKind.u64.wrap ((absI c).tdiv (gcdI (absI c) (IntKind.u64.wrap b))) %
      18446744073709551616) &&
  inU
    (IntKind.u64.wrap ((IntKind.u64.wrap b).tdiv (gcdI (absI c) (IntKind.u64.wrap b))) *
        IntKind.u64.wrap ((IntKind.u64.wrap d).tdiv (gcdI (absI a) (IntKind.u64.wrap d))) %
      18446744073709551616), true), (fitB
  (IntKind.u64.wrap ((absI a).tdiv (gcdI (absI a) (IntKind.u64.wrap d))) *
      IntKind.u64.wrap ((absI c).tdiv (gcdI (absI c) (IntKind.u64.wrap b))) /
    18446744073709551616)
  (IntKind.u64.wrap ((absI a).tdiv (gcdI (absI a) (IntKind.u64.wrap d))) *
      IntKind.u64.wrap ((absI c).tdiv (gcdI (absI c) (IntKind.u64.wrap b))) %
    18446744073709551616), false)]
set_option maxRecDepth 20000 in
theorem w48_11_ok (a b c d : Int) (h : allB (w48_11 a b c d) = true) : (evFnT Tryz.prog (spOf [e36, e37, e38, e53]) (inlOf []) extD (cKD [e36, e37, e38, e53] []) (fun _ => .unroll 0) Tryz.f102 [.agg [.int .i64 a, .int .i64 b], .agg [.int .i64 c, .int .i64 d]] [] (fun r _ => .ofOpt (some r))).run = some (Res.pan : Res) := way (gs := [true, true, true, true, true, true, true, true, false, false, false, true, false]) (by kernel_rfl) h
open Go.Evl Go.RowKit
theorem tree63 (a b : Int) : evFn Tryz.prog (spOf []) (inlOf []) extD (cKD [] []) (fun _ => .unroll 0) Tryz.f149 [.agg [.int .u64 a, .int .u64 b]] [] (fun r _ => some r) =
    (bif a != 0 then some Res.pan
    else
      bif decide (b > 1152921504606846976) then some Res.pan else some (Res.ret (AV.int IntKind.i64 (IntKind.i64.wrap b))) : Option Res) := by kernel_rfl
theorem tree38t (a b c d : Int) : evFn Tryz.prog (spOf [e63]) (inlOf []) extD (cKD [e63] []) (fun _ => .unroll 0) Tryz.f118 [.bool true, .agg [.int .u64 a, .int .u64 b], .agg [.int .u64 c, .int .u64 d]] [] (fun r _ => some r) =
    (bif inU b then
      bif fitB a b then
        bif inU d then
          bif fitB c d then some (Res.ret (AV.agg [AV.int IntKind.i64 (IntKind.i64.wrap (0 - b)), AV.int IntKind.i64 d]))
          else some Res.pan
        else none
      else some Res.pan
    else none : Option Res) := by kernel_rfl
theorem tree38f (a b c d : Int) : evFn Tryz.prog (spOf [e63]) (inlOf []) extD (cKD [e63] []) (fun _ => .unroll 0) Tryz.f118 [.bool false, .agg [.int .u64 a, .int .u64 b], .agg [.int .u64 c, .int .u64 d]] [] (fun r _ => some r) =
    (bif inU b then
      bif fitB a b then
        bif inU d then
          bif fitB c d then some (Res.ret (AV.agg [AV.int IntKind.i64 b, AV.int IntKind.i64 d])) else some Res.pan
        else none
      else some Res.pan
    else none : Option Res) := by kernel_rfl
theorem tree11 (a b : Int) : evFn Tryz.prog (spOf [e36, e37, e38]) (inlOf [100, 117]) extD (cKD [e36, e37, e38] [100, 117]) (fun _ => .unroll 0) Tryz.f77 [.int .i64 a, .int .i64 b] [] (fun r _ => some r) =
    (bif b == 0 then some (Res.ret (AV.tup [AV.agg [AV.int IntKind.i64 0, AV.int IntKind.i64 0], AV.int IntKind.i64 26]))
    else
      bif decide (-9223372036854775808 ≤ a) && decide (a < 9223372036854775808) then
        bif decide (-9223372036854775808 ≤ b) && decide (b < 9223372036854775808) then
          bif decide (0 ≤ absI a) && decide (0 ≤ absI b) then
            bif decide (a < 0) then
              bif decide (b < 0) then
                bif !decide (gcdI (absI a) (absI b) = 0) then
                  bif !decide (gcdI (absI a) (absI b) = 0) then
                    bif
                        inU (IntKind.u64.wrap ((absI a).tdiv (gcdI (absI a) (absI b)))) &&
                          inU (IntKind.u64.wrap ((absI b).tdiv (gcdI (absI a) (absI b)))) then
                      bif fitB 0 (IntKind.u64.wrap ((absI a).tdiv (gcdI (absI a) (absI b)))) then
                        bif fitB 0 (IntKind.u64.wrap ((absI b).tdiv (gcdI (absI a) (absI b)))) then
                          some
                            (Res.ret
                              (AV.tup
                                [AV.agg
                                    [AV.int IntKind.i64
                                        (bif false then -IntKind.u64.wrap ((absI a).tdiv (gcdI (absI a) (absI b)))
                                        else IntKind.u64.wrap ((absI a).tdiv (gcdI (absI a) (absI b)))),
                                      AV.int IntKind.i64 (IntKind.u64.wrap ((absI b).tdiv (gcdI (absI a) (absI b))))],
                                  AV.int IntKind.i64 0]))
                        else
                          some
                            (Res.ret (AV.tup [AV.agg [AV.int IntKind.i64 0, AV.int IntKind.i64 0], AV.int IntKind.i64 14]))
                      else
                        some (Res.ret (AV.tup [AV.agg [AV.int IntKind.i64 0, AV.int IntKind.i64 0], AV.int IntKind.i64 14]))
                    else none
                  else none
                else none
              else
                bif !decide (gcdI (absI a) (absI b) = 0) then
                  bif !decide (gcdI (absI a) (absI b) = 0) then
                    bif
                        inU (IntKind.u64.wrap ((absI a).tdiv (gcdI (absI a) (absI b)))) &&
                          inU (IntKind.u64.wrap ((absI b).tdiv (gcdI (absI a) (absI b)))) then
                      bif fitB 0 (IntKind.u64.wrap ((absI a).tdiv (gcdI (absI a) (absI b)))) then
                        bif fitB 0 (IntKind.u64.wrap ((absI b).tdiv (gcdI (absI a) (absI b)))) then
                          some
                            (Res.ret
                              (AV.tup
                                [AV.agg
                                    [AV.int IntKind.i64
                                        (bif true then -IntKind.u64.wrap ((absI a).tdiv (gcdI (absI a) (absI b)))
                                        else IntKind.u64.wrap ((absI a).tdiv (gcdI (absI a) (absI b)))),
                                      AV.int IntKind.i64 (IntKind.u64.wrap ((absI b).tdiv (gcdI (absI a) (absI b))))],
                                  AV.int IntKind.i64 0]))
                        else
                          some
                            (Res.ret (AV.tup [AV.agg [AV.int IntKind.i64 0, AV.int IntKind.i64 0], AV.int IntKind.i64 14]))
                      else
                        some (Res.ret (AV.tup [AV.agg [AV.int IntKind.i64 0, AV.int IntKind.i64 0], AV.int IntKind.i64 14]))
                    else none
                  else none
                else none
            else
              bif decide (b < 0) then
                bif !decide (gcdI (absI a) (absI b) = 0) then
                  bif !decide (gcdI (absI a) (absI b) = 0) then
                    bif
                        inU (IntKind.u64.wrap ((absI a).tdiv (gcdI (absI a) (absI b)))) &&
                          inU (IntKind.u64.wrap ((absI b).tdiv (gcdI (absI a) (absI b)))) then
                      bif fitB 0 (IntKind.u64.wrap ((absI a).tdiv (gcdI (absI a) (absI b)))) then
                        bif fitB 0 (IntKind.u64.wrap ((absI b).tdiv (gcdI (absI a) (absI b)))) then
                          some
                            (Res.ret
                              (AV.tup
                                [AV.agg
                                    [AV.int IntKind.i64
                                        (bif true then -IntKind.u64.wrap ((absI a).tdiv (gcdI (absI a) (absI b)))
                                        else IntKind.u64.wrap ((absI a).tdiv (gcdI (absI a) (absI b)))),
                                      AV.int IntKind.i64 (IntKind.u64.wrap ((absI b).tdiv (gcdI (absI a) (absI b))))],
                                  AV.int IntKind.i64 0]))
                        else
                          some
                            (Res.ret (AV.tup [AV.agg [AV.int IntKind.i64 0, AV.int IntKind.i64 0], AV.int IntKind.i64 14]))
                      else
                        some (Res.ret (AV.tup [AV.agg [AV.int IntKind.i64 0, AV.int IntKind.i64 0], AV.int IntKind.i64 14]))
                    else none
                  else none
                else none
              else
                bif !decide (gcdI (absI a) (absI b) = 0) then
                  bif !decide (gcdI (absI a) (absI b) = 0) then
                    bif
                        inU (IntKind.u64.wrap ((absI a).tdiv (gcdI (absI a) (absI b)))) &&
                          inU (IntKind.u64.wrap ((absI b).tdiv (gcdI (absI a) (absI b)))) then
                      bif fitB 0 (IntKind.u64.wrap ((absI a).tdiv (gcdI (absI a) (absI b)))) then
                        bif fitB 0 (IntKind.u64.wrap ((absI b).tdiv (gcdI (absI a) (absI b)))) then
                          some
                            (Res.ret
                              (AV.tup
                                [AV.agg
                                    [AV.int IntKind.i64
                                        (bif false then -IntKind.u64.wrap ((absI a).tdiv (gcdI (absI a) (absI b)))
                                        else IntKind.u64.wrap ((absI a).tdiv (gcdI (absI a) (absI b)))),
                                      AV.int IntKind.i64 (IntKind.u64.wrap ((absI b).tdiv (gcdI (absI a) (absI b))))],
                                  AV.int IntKind.i64 0]))
                        else
                          some
                            (Res.ret (AV.tup [AV.agg [AV.int IntKind.i64 0, AV.int IntKind.i64 0], AV.int IntKind.i64 14]))
                      else
                        some (Res.ret (AV.tup [AV.agg [AV.int IntKind.i64 0, AV.int IntKind.i64 0], AV.int IntKind.i64 14]))
                    else none
                  else none
                else none
          else none
        else none
      else none : Option Res) := by kernel_rfl
theorem inI_iff {x : Int} : inI x = true ↔ -9223372036854775808 ≤ x ∧ x < 9223372036854775808 := by simp [inI]
theorem fitB_iff {a b : Int} : fitB a b = true ↔ a = 0 ∧ b ≤ 1152921504606846976 := by simp [fitB]
set_option maxRecDepth 20000 in
theorem e63_ok : SpecHolds Tryz.prog InvD 149 fun a => (e63.2 a).run := by
  refine specD cx0 Tryz.func149 (c := codeOf Tryz.prog 149) (by kernel_rfl) (fun _ => .unroll 0) (fun _ _ => trivial) fun args r h => ?_
  simp only [e63] at h
  split at h
  · rename_i a b
    refine ⟨by kernel_rfl, tr_ok (by rfl) h, ?_⟩
    rw [tree63]
    rcases node_run h with ⟨hc, h⟩ | ⟨_, h⟩
    · rw [inU_iff] at hc
      rw [← h]
      simp only [Tr.run]
      cases hf : fitB a b with
      | true =>
        obtain ⟨rfl, hb⟩ := fitB_iff.1 hf
        have h1 : decide (b > 1152921504606846976) = false := by simp; omega
        have h0 : ((0 : Int) != 0) = false := rfl
        rw [h0, h1, wrapI (by omega) (by omega)]; rfl
      | false =>
        have hn : ¬ (a = 0 ∧ b ≤ 1152921504606846976) := fun hx => by rw [fitB_iff.2 hx] at hf; cases hf
        by_cases ha : a = 0
        · subst ha
          have h1 : decide (b > 1152921504606846976) = true := by simp; omega
          rw [h1]; rfl
        · have h0 : (a != 0) = true := by simp [ha]
          rw [h0]; rfl
    · simp [Tr.run] at h
  · simp [Tr.run] at h
theorem cx38 : (mkCx Tryz.prog (spOf [e63]) (inlOf []) extD).Ok InvD := cx_of [] (by kernel_rfl) (by
  intro p hp
  simp only [List.mem_cons, List.not_mem_nil, or_false] at hp
  subst hp
  exact e63_ok)
set_option maxRecDepth 20000 in
theorem e38_ok : SpecHolds Tryz.prog InvD 118 fun a => (e38.2 a).run := by
  refine specD cx38 Tryz.func118 (c := codeOf Tryz.prog 118) (by kernel_rfl) (fun _ => .unroll 0) (fun _ _ => trivial) fun args r h => ?_
  simp only [e38] at h
  split at h
  · rename_i n a b c d
    refine ⟨by kernel_rfl, tr_ok (by rfl) h, ?_⟩
    rcases node_run h with ⟨hc, h⟩ | ⟨_, h⟩
    · simp only [Bool.and_eq_true] at hc
      rw [← h]
      simp only [Tr.run]
      have hb := inU_iff.1 hc.1
      cases n with
      | true =>
        rw [tree38t, hc.1, hc.2]
        cases hf : fitB a b with
        | false => rfl
        | true =>
          obtain ⟨_, hb2⟩ := fitB_iff.1 hf
          rw [wrapI (x := 0 - b) (by omega) (by omega), Int.zero_sub]
          cases fitB c d <;> rfl
      | false =>
        rw [tree38f, hc.1, hc.2]
        cases fitB a b <;> cases fitB c d <;> rfl
    · simp [Tr.run] at h
  · simp [Tr.run] at h
theorem cx11 : (mkCx Tryz.prog (spOf [e36, e37, e38]) (inlOf [100, 117]) extD).Ok InvD := cx_of [100, 117] (by kernel_rfl) (by
  intro p hp
  simp only [List.mem_cons, List.not_mem_nil, or_false] at hp
  rcases hp with rfl | rfl | rfl
  · exact e36_ok
  · exact e37_ok
  · exact e38_ok)
theorem mkG_pos {a b : Int} (hb : b ≠ 0) : 1 ≤ mkG a b := by
  unfold mkG
  rw [gcdI_of (absI_pos a) (absI_pos b), absI_natAbs, absI_natAbs]
  have : 0 < Nat.gcd a.natAbs b.natAbs := Nat.gcd_pos_of_pos_right _ (by omega)
  omega
theorem mkA_range {a b : Int} (hb : b ≠ 0) : 0 ≤ mkA a b ∧ mkA a b ≤ absI a := by
  have hg := mkG_pos (a := a) hb
  exact ⟨Int.ediv_nonneg (absI_pos a) (by omega), Int.ediv_le_self _ (absI_pos a)⟩
theorem mkD_range {a b : Int} (hb : b ≠ 0) : 0 ≤ mkD a b ∧ mkD a b ≤ absI b := by
  have hg := mkG_pos (a := a) hb
  exact ⟨Int.ediv_nonneg (absI_pos b) (by omega), Int.ediv_le_self _ (absI_pos b)⟩
theorem make11 (a b : Int) (ha : -9223372036854775808 ≤ a ∧ a < 9223372036854775808) (hb : -9223372036854775808 ≤ b ∧ b < 9223372036854775808) :
    evFn Tryz.prog (spOf [e36, e37, e38]) (inlOf [100, 117]) extD (cKD [e36, e37, e38] [100, 117]) (fun _ => .unroll 0) Tryz.f77 [.int .i64 a, .int .i64 b] [] (fun r _ => some r) =
    bif decide (b = 0) then some (.ret (.tup [.agg [.int .i64 0, .int .i64 0], .int .i64 26]))
    else bif mkFits a b then some (.ret (.tup [.agg [.int .i64 (mkN a b), .int .i64 (mkD a b)], .int .i64 0])) else some (.ret (.tup [.agg [.int .i64 0, .int .i64 0], .int .i64 14])) := by
  rw [tree11]
  by_cases h0 : b = 0
  · subst h0; rfl
  have hb0 : (b == 0) = false := beq_false_of_ne h0
  have e1 : (decide (-9223372036854775808 ≤ a) && decide (a < 9223372036854775808)) = true := by simp; omega
  have e2 : (decide (-9223372036854775808 ≤ b) && decide (b < 9223372036854775808)) = true := by simp; omega
  have e3 : (decide (0 ≤ absI a) && decide (0 ≤ absI b)) = true := by simp [absI_pos]
  have hg := mkG_pos (a := a) h0
  obtain ⟨a0, a1⟩ := mkA_range (a := a) h0
  obtain ⟨d0, d1⟩ := mkD_range (a := a) h0
  have hA : absI a ≤ 9223372036854775808 := by rw [absI_eq]; omega
  have hB : absI b ≤ 9223372036854775808 := by rw [absI_eq]; omega
  have e4 : (!decide (gcdI (absI a) (absI b) = 0)) = true := by
    have : gcdI (absI a) (absI b) = mkG a b := rfl
    rw [this]; simp; omega
  have t1 : IntKind.u64.wrap ((absI a).tdiv (gcdI (absI a) (absI b))) = mkA a b := by
    rw [Int.tdiv_eq_ediv_of_nonneg (absI_pos a)]
    show IntKind.u64.wrap (mkA a b) = _
    exact wrapU a0 (by omega)
  have t2 : IntKind.u64.wrap ((absI b).tdiv (gcdI (absI a) (absI b))) = mkD a b := by
    rw [Int.tdiv_eq_ediv_of_nonneg (absI_pos b)]
    show IntKind.u64.wrap (mkD a b) = _
    exact wrapU d0 (by omega)
  rw [t1, t2]
  have e5 : (inU (mkA a b) && inU (mkD a b)) = true := by
    rw [Bool.and_eq_true, inU_iff, inU_iff]; omega
  have f1 : fitB 0 (mkA a b) = decide (mkA a b ≤ 1152921504606846976) := by simp [fitB]
  have f2 : fitB 0 (mkD a b) = decide (mkD a b ≤ 1152921504606846976) := by simp [fitB]
  simp only [hb0, h0, e1, e2, e3, e4, e5, f1, f2, cond_true, cond_false, decide_false]
  unfold mkFits mkN
  cases decide (a < 0) <;> cases decide (b < 0) <;> cases decide (mkA a b ≤ 1152921504606846976) <;> cases decide (mkD a b ≤ 1152921504606846976) <;> rfl
set_option maxRecDepth 20000 in
theorem e11_ok : SpecHolds Tryz.prog InvD 77 fun a => (e11.2 a).run := by
  refine specD cx11 Tryz.func77 (c := codeOf Tryz.prog 77) (by kernel_rfl) (fun _ => .unroll 0) (fun _ _ => trivial) fun args r h => ?_
  simp only [e11] at h
  split at h
  · rename_i a b
    refine ⟨by kernel_rfl, tr_ok (by rfl) h, ?_⟩
    rcases node_run h with ⟨hc, h⟩ | ⟨_, h⟩
    · simp only [Bool.and_eq_true, inI_iff] at hc
      rw [make11 a b hc.1 hc.2]
      exact h
    · simp [Tr.run] at h
  · simp [Tr.run] at h
open Go.Evl Go.RowKit
def e48 : Ent := ⟨102, fun
  | [.agg [.int .i64 a, .int .i64 b], .agg [.int .i64 c, .int .i64 d]] => .chk (okB a b && okB c d) (.node (mkFits (a * c) (b * d)) (.leaf (.ret (.agg [.int .i64 (mkN (a * c) (b * d)), .int .i64 (mkD (a * c) (b * d))]))) (.leaf .pan))
  | _ => .non⟩
theorem chk_run {α : Type} {b : Bool} {x : Tr α} {r : α} (h : (Tr.chk b x).run = some r) : b = true ∧ x.run = some r := by
  cases b with
  | true => exact ⟨rfl, h⟩
  | false => simp [Tr.run] at h
theorem mkN_neg {n m : Int} (hm : 0 < m) (hn : n ≤ 0) : mkN n m = -mkA n m := by
  unfold mkN
  have h2 : decide (m < 0) = false := by simp; omega
  rw [h2]
  by_cases h : n < 0
  · rw [decide_eq_true h]; rfl
  · have : n = 0 := by omega
    subst this
    have : mkA 0 m = 0 := by unfold mkA; rw [absI_eq]; simp
    rw [this]; rfl
theorem mkN_pos {n m : Int} (hm : 0 < m) (hn : 0 ≤ n) : mkN n m = mkA n m := by
  unfold mkN
  have h2 : decide (m < 0) = false := by simp; omega
  have h1 : decide (n < 0) = false := by simp; omega
  rw [h1, h2]; rfl
theorem fit_of {p : Int} (h : 0 ≤ p) : fitB (p / 18446744073709551616) (p % 18446744073709551616) = decide (p ≤ 1152921504606846976) := by
  rw [Bool.eq_iff_iff, fitB_iff, decide_eq_true_eq]; omega
theorem inU_mod (p : Int) : inU (p % 18446744073709551616) = true := by rw [inU_iff]; omega
theorem quo_pos {x p q : Int} (h : q * p = x) (hx : 0 < x) (hp : 0 < p) : 0 < q := by
  rcases Int.lt_or_le 0 q with h' | h'
  · exact h'
  · have := Int.mul_nonpos_of_nonpos_of_nonneg h' (show 0 ≤ p by omega); omega
theorem quo_le {x p q : Int} (h : q * p = x) (hx : 0 ≤ x) (hp : 0 < p) : 0 ≤ q ∧ q ≤ x := by
  have hq : 0 ≤ q := by
    rcases Int.lt_or_le q 0 with h' | h'
    · have := Int.mul_neg_of_neg_of_pos h' hp; omega
    · exact h'
  refine ⟨hq, ?_⟩
  have : q * 1 ≤ q * p := Int.mul_le_mul_of_nonneg_left (by omega) hq
  omega
theorem cx48 : (mkCx Tryz.prog (spOf [e36, e37, e38, e53]) (inlOf []) extD).Ok InvD := cx_of [] (by kernel_rfl) (by
  intro p hp
  simp only [List.mem_cons, List.not_mem_nil, or_false] at hp
  rcases hp with rfl | rfl | rfl | rfl
  · exact e36_ok
  · exact e37_ok
  · exact e38_ok
  · exact e53_ok)
theorem mul48 {a b c d : Int} (hok : okB a b = true) (hok2 : okB c d = true) : (evFnT Tryz.prog (spOf [e36, e37, e38, e53]) (inlOf []) extD (cKD [e36, e37, e38, e53] []) (fun _ => .unroll 0) Tryz.f102 [.agg [.int .i64 a, .int .i64 b], .agg [.int .i64 c, .int .i64 d]] [] (fun r _ => .ofOpt (some r))).run =
    (bif mkFits (a * c) (b * d) then some (.ret (.agg [.int .i64 (mkN (a * c) (b * d)), .int .i64 (mkD (a * c) (b * d))])) else some .pan) := by
  obtain ⟨h1, h2, h3, h4, h5⟩ := okB_iff.1 hok
  obtain ⟨k1, k2, k3, k4, k5⟩ := okB_iff.1 hok2
  obtain ⟨l1, l2, l3, l4, l5, l6, l7, l8⟩ := mul_law h1 k1 h5 k5
  have hm : 0 < b * d := Int.mul_pos (by omega) (by omega)
  have wb : IntKind.u64.wrap b = b := wrapU (by omega) (by omega)
  have wd : IntKind.u64.wrap d = d := wrapU (by omega) (by omega)
  have hA0 := absI_nonneg a
  have hC0 := absI_nonneg c
  have hA1 : absI a ≤ 1152921504606846976 := by rw [absI_eq]; omega
  have hC1 : absI c ≤ 1152921504606846976 := by rw [absI_eq]; omega
  have hf : mkFits (a * c) (b * d) = (decide (mkA (a * c) (b * d) ≤ 1152921504606846976) && decide (mkD (a * c) (b * d) ≤ 1152921504606846976)) := rfl
  have sgn : ∀ (x y : Bool), decide (a < 0) = x → decide (c < 0) = y → mkN (a * c) (b * d) = bif (x != y) then -mkA (a * c) (b * d) else mkA (a * c) (b * d) := by
    intro x y hx hy
    by_cases ha : a < 0 <;> by_cases hc : c < 0 <;> simp only [ha, hc, decide_true, decide_false] at hx hy <;> subst hx hy
    · exact mkN_pos hm (by have := Int.mul_pos_of_neg_of_neg ha hc; omega)
    · exact mkN_neg hm (Int.mul_nonpos_of_nonpos_of_nonneg (by omega) (by omega))
    · exact mkN_neg hm (Int.mul_nonpos_of_nonneg_of_nonpos (by omega) (by omega))
    · exact mkN_pos hm (Int.mul_nonneg (by omega) (by omega))
  rw [hf]
  generalize hmN : mkN (a * c) (b * d) = N at *
  rw [l7, l8] at *
  generalize hP : gcdI (absI a) d = P at *
  generalize hQ : gcdI (absI c) b = Q at *
  have tA : (absI a).tdiv P = absI a / P := Int.tdiv_eq_ediv_of_nonneg hA0
  have tC : (absI c).tdiv Q = absI c / Q := Int.tdiv_eq_ediv_of_nonneg hC0
  have tB : b.tdiv Q = b / Q := Int.tdiv_eq_ediv_of_nonneg (by omega)
  have tD : d.tdiv P = d / P := Int.tdiv_eq_ediv_of_nonneg (by omega)
  generalize hA' : absI a / P = A' at *
  generalize hC' : absI c / Q = C' at *
  generalize hB' : b / Q = B' at *
  generalize hD' : d / P = D' at *
  obtain ⟨a0, a1⟩ := quo_le l3 hA0 l1
  obtain ⟨c0, c1⟩ := quo_le l5 hC0 l2
  obtain ⟨b0, b1⟩ := quo_le l6 (by omega) l2
  obtain ⟨d0, d1⟩ := quo_le l4 (by omega) l1
  have wA : IntKind.u64.wrap A' = A' := wrapU a0 (by omega)
  have wC : IntKind.u64.wrap C' = C' := wrapU c0 (by omega)
  have wB : IntKind.u64.wrap B' = B' := wrapU b0 (by omega)
  have wD : IntKind.u64.wrap D' = D' := wrapU d0 (by omega)
  have f1 : (decide (-9223372036854775808 ≤ a) && decide (a < 9223372036854775808)) = true := by simp; omega
  have f2 : (decide (-9223372036854775808 ≤ c) && decide (c < 9223372036854775808)) = true := by simp; omega
  have f3 : (decide (0 ≤ absI a) && decide (0 ≤ d)) = true := by simp; omega
  have f4 : (decide (0 ≤ absI c) && decide (0 ≤ b)) = true := by simp; omega
  have f5 : (!decide (P = 0)) = true := by simp; omega
  have f6 : (!decide (Q = 0)) = true := by simp; omega
  have f7 : (inU A' && inU C') = true := by simp only [Bool.and_eq_true, inU_iff]; omega
  have f8 : (inU B' && inU D') = true := by simp only [Bool.and_eq_true, inU_iff]; omega
  have p0 : 0 ≤ A' * C' := Int.mul_nonneg a0 c0
  have q0 : 0 ≤ B' * D' := Int.mul_nonneg b0 d0
  have fn := fit_of p0
  have fd := fit_of q0
  generalize hp : A' * C' = p at *
  generalize hq : B' * D' = q at *
  by_cases hn : p ≤ 1152921504606846976
  · by_cases hdn : q ≤ 1152921504606846976
    · have ep : p % 18446744073709551616 = p := by omega
      have eq : q % 18446744073709551616 = q := by omega
      rw [decide_eq_true hn] at fn ⊢
      rw [decide_eq_true hdn] at fd ⊢
      by_cases ha : a < 0 <;> by_cases hc : c < 0
      · have ea := decide_eq_true ha
        have ec := decide_eq_true hc
        rw [w48_0_ok a b c d (by simp only [w48_0, allB, wb, wd, hP, hQ, tA, tB, tC, tD, wA, wB, wC, wD, f1, f2, f3, f4, f5, f6, f7, f8, hp, hq, inU_mod, fn, fd, ea, ec, Bool.and_self])]
        have es := sgn _ _ ea ec
        simp only [wb, wd, hP, hQ, tA, tB, tC, tD, wA, wB, wC, wD, hp, hq, ep, eq, es]
        rfl
      · have ea := decide_eq_true ha
        have ec := decide_eq_false hc
        rw [w48_3_ok a b c d (by simp only [w48_3, allB, wb, wd, hP, hQ, tA, tB, tC, tD, wA, wB, wC, wD, f1, f2, f3, f4, f5, f6, f7, f8, hp, hq, inU_mod, fn, fd, ea, ec, Bool.and_self, Bool.not_false])]
        have es := sgn _ _ ea ec
        simp only [wb, wd, hP, hQ, tA, tB, tC, tD, wA, wB, wC, wD, hp, hq, ep, eq, es]
        rfl
      · have ea := decide_eq_false ha
        have ec := decide_eq_true hc
        rw [w48_6_ok a b c d (by simp only [w48_6, allB, wb, wd, hP, hQ, tA, tB, tC, tD, wA, wB, wC, wD, f1, f2, f3, f4, f5, f6, f7, f8, hp, hq, inU_mod, fn, fd, ea, ec, Bool.and_self, Bool.not_false])]
        have es := sgn _ _ ea ec
        simp only [wb, wd, hP, hQ, tA, tB, tC, tD, wA, wB, wC, wD, hp, hq, ep, eq, es]
        rfl
      · have ea := decide_eq_false ha
        have ec := decide_eq_false hc
        rw [w48_9_ok a b c d (by simp only [w48_9, allB, wb, wd, hP, hQ, tA, tB, tC, tD, wA, wB, wC, wD, f1, f2, f3, f4, f5, f6, f7, f8, hp, hq, inU_mod, fn, fd, ea, ec, Bool.and_self, Bool.not_false])]
        have es := sgn _ _ ea ec
        simp only [wb, wd, hP, hQ, tA, tB, tC, tD, wA, wB, wC, wD, hp, hq, ep, eq, es]
        rfl
    · rw [decide_eq_true hn] at fn ⊢
      rw [decide_eq_false hdn] at fd ⊢
      by_cases ha : a < 0 <;> by_cases hc : c < 0
      · have ea := decide_eq_true ha
        have ec := decide_eq_true hc
        rw [w48_1_ok a b c d (by simp only [w48_1, allB, wb, wd, hP, hQ, tA, tB, tC, tD, wA, wB, wC, wD, f1, f2, f3, f4, f5, f6, f7, f8, hp, hq, inU_mod, fn, fd, ea, ec, Bool.and_self, Bool.not_false])]
        first | rfl | (cases decide (q ≤ 1152921504606846976) <;> rfl)
      · have ea := decide_eq_true ha
        have ec := decide_eq_false hc
        rw [w48_4_ok a b c d (by simp only [w48_4, allB, wb, wd, hP, hQ, tA, tB, tC, tD, wA, wB, wC, wD, f1, f2, f3, f4, f5, f6, f7, f8, hp, hq, inU_mod, fn, fd, ea, ec, Bool.and_self, Bool.not_false])]
        first | rfl | (cases decide (q ≤ 1152921504606846976) <;> rfl)
      · have ea := decide_eq_false ha
        have ec := decide_eq_true hc
        rw [w48_7_ok a b c d (by simp only [w48_7, allB, wb, wd, hP, hQ, tA, tB, tC, tD, wA, wB, wC, wD, f1, f2, f3, f4, f5, f6, f7, f8, hp, hq, inU_mod, fn, fd, ea, ec, Bool.and_self, Bool.not_false])]
        first | rfl | (cases decide (q ≤ 1152921504606846976) <;> rfl)
      · have ea := decide_eq_false ha
        have ec := decide_eq_false hc
        rw [w48_10_ok a b c d (by simp only [w48_10, allB, wb, wd, hP, hQ, tA, tB, tC, tD, wA, wB, wC, wD, f1, f2, f3, f4, f5, f6, f7, f8, hp, hq, inU_mod, fn, fd, ea, ec, Bool.and_self, Bool.not_false])]
        first | rfl | (cases decide (q ≤ 1152921504606846976) <;> rfl)
  · rw [decide_eq_false hn] at fn ⊢
    by_cases ha : a < 0 <;> by_cases hc : c < 0
    · have ea := decide_eq_true ha
      have ec := decide_eq_true hc
      rw [w48_2_ok a b c d (by simp only [w48_2, allB, wb, wd, hP, hQ, tA, tB, tC, tD, wA, wB, wC, wD, f1, f2, f3, f4, f5, f6, f7, f8, hp, hq, inU_mod, fn, ea, ec, Bool.and_self, Bool.not_false])]
      first | rfl | (cases decide (q ≤ 1152921504606846976) <;> rfl)
    · have ea := decide_eq_true ha
      have ec := decide_eq_false hc
      rw [w48_5_ok a b c d (by simp only [w48_5, allB, wb, wd, hP, hQ, tA, tB, tC, tD, wA, wB, wC, wD, f1, f2, f3, f4, f5, f6, f7, f8, hp, hq, inU_mod, fn, ea, ec, Bool.and_self, Bool.not_false])]
      first | rfl | (cases decide (q ≤ 1152921504606846976) <;> rfl)
    · have ea := decide_eq_false ha
      have ec := decide_eq_true hc
      rw [w48_8_ok a b c d (by simp only [w48_8, allB, wb, wd, hP, hQ, tA, tB, tC, tD, wA, wB, wC, wD, f1, f2, f3, f4, f5, f6, f7, f8, hp, hq, inU_mod, fn, ea, ec, Bool.and_self, Bool.not_false])]
      first | rfl | (cases decide (q ≤ 1152921504606846976) <;> rfl)
    · have ea := decide_eq_false ha
      have ec := decide_eq_false hc
      rw [w48_11_ok a b c d (by simp only [w48_11, allB, wb, wd, hP, hQ, tA, tB, tC, tD, wA, wB, wC, wD, f1, f2, f3, f4, f5, f6, f7, f8, hp, hq, inU_mod, fn, ea, ec, Bool.and_self, Bool.not_false])]
      first | rfl | (cases decide (q ≤ 1152921504606846976) <;> rfl)
set_option maxRecDepth 20000 in
theorem e48_ok : SpecHolds Tryz.prog InvD 102 fun a => (e48.2 a).run := by
  refine specD cx48 Tryz.func102 (c := codeOf Tryz.prog 102) (by kernel_rfl) (fun _ => .unroll 0) (fun _ _ => trivial) fun args r h => ?_
  simp only [e48] at h
  split at h
  · rename_i a b c d
    obtain ⟨hc, h⟩ := chk_run h
    simp only [Bool.and_eq_true] at hc
    refine ⟨by kernel_rfl, tr_ok (by rfl) h, ?_⟩
    show (evFnT Tryz.prog (spOf [e36, e37, e38, e53]) (inlOf []) extD (cKD [e36, e37, e38, e53] []) (fun _ => .unroll 0) Tryz.f102 [.agg [.int .i64 a, .int .i64 b], .agg [.int .i64 c, .int .i64 d]] [] (fun r _ => .ofOpt (some r))).run = some r
    rw [mul48 hc.1 hc.2]
    exact h
  · simp [Tr.run] at h
open Go.Evl Go.RowKit
theorem cx46 : (mkCx Tryz.prog (spOf [e36, e37, e38, e53, e54, e65, e66, e67, e68]) (inlOf []) extD).Ok InvD := cx_of [] (by kernel_rfl) (by
  intro p hp
  simp only [List.mem_cons, List.not_mem_nil, or_false] at hp
  rcases hp with rfl | rfl | rfl | rfl | rfl | rfl | rfl | rfl | rfl
  · exact e36_ok
  · exact e37_ok
  · exact e38_ok
  · exact e53_ok
  · exact e54_ok
  · exact e65_ok
  · exact e66_ok
  · exact e67_ok
  · exact e68_ok)
open Go.Evl Go.RowKit
def opR (n m : Int) : Tr Res := .node (mkFits n m) (.leaf (.ret (.tup [.agg [.int .i64 (mkN n m), .int .i64 (mkD n m)], .int .i64 0]))) (.leaf (.ret (.tup [.agg [.int .i64 0, .int .i64 0], .int .i64 14])))
def erR (e : Int) : Tr Res := .leaf (.ret (.tup [.agg [.int .i64 0, .int .i64 0], .int .i64 e]))
def e21 : Ent := ⟨52, fun
  | [.agg [.int .i64 a, .int .i64 b], .agg [.int .i64 c, .int .i64 d]] => .node (okB a b) (.node (okB c d) (opR (a * c) (b * d)) (erR 1)) (erR 1)
  | _ => .non⟩
theorem tree21 (a b c d : Int) : evFn Tryz.prog (spOf [e44, e48]) (inlOf [100, 101]) extD (cKD [e44, e48] [100, 101]) (fun _ => .unroll 0) Tryz.f52 [.agg [.int .i64 a, .int .i64 b], .agg [.int .i64 c, .int .i64 d]] [] (fun r _ => some r) =
    (bif okB a b then
      bif okB c d then
        bif okB a b && okB c d then
          bif mkFits (a * c) (b * d) then
            some
              (Res.ret
                (AV.tup
                  [AV.agg [AV.int IntKind.i64 (mkN (a * c) (b * d)), AV.int IntKind.i64 (mkD (a * c) (b * d))],
                    AV.int IntKind.i64 0]))
          else some (Res.ret (AV.tup [AV.agg [AV.int IntKind.i64 0, AV.int IntKind.i64 0], AV.int IntKind.i64 14]))
        else none
      else some (Res.ret (AV.tup [AV.agg [AV.int IntKind.i64 0, AV.int IntKind.i64 0], AV.int IntKind.i64 1]))
    else some (Res.ret (AV.tup [AV.agg [AV.int IntKind.i64 0, AV.int IntKind.i64 0], AV.int IntKind.i64 1])) : Option Res) := by kernel_rfl
theorem cxM : ∀ p ∈ [e44, e48], EntHolds Tryz.prog InvD p := by
  intro p hp
  simp only [List.mem_cons, List.not_mem_nil, or_false] at hp
  rcases hp with rfl | rfl
  · exact e44_ok
  · exact e48_ok
theorem cx21 : (mkCx Tryz.prog (spOf [e44, e48]) (inlOf [100, 101]) extD).Ok InvD := cx_of [100, 101] (by kernel_rfl) cxM
set_option maxRecDepth 20000 in
theorem e21_ok : SpecHolds Tryz.prog InvD 52 fun a => (e21.2 a).run := by
  refine specD cx21 Tryz.func52 (c := codeOf Tryz.prog 52) (by kernel_rfl) (fun _ => .unroll 0) (fun _ _ => trivial) fun args r h => ?_
  simp only [e21] at h
  split at h
  · rename_i a b c d
    refine ⟨by kernel_rfl, tr_ok (by rfl) h, ?_⟩
    rw [tree21]
    revert h
    cases h1 : okB a b <;> cases h2 : okB c d <;> intro h <;> exact h
  · simp [Tr.run] at h
open Go.Evl Go.RowKit
def cmpI (a b c d : Int) : Int := if a * d < c * b then -1 else if a * d = c * b then 0 else 1
def cmpR (a b c d : Int) : Int := if okB a b && okB c d then cmpI a b c d else 0
def ckI (a b : Int) : Int := if okB a b then 0 else 1
def opE (k : Bool) (n m : Int) : Int := if k then (if mkFits n m then 0 else 14) else 1
def opN (k : Bool) (n m : Int) : Int := if k && mkFits n m then mkN n m else 0
def opD (k : Bool) (n m : Int) : Int := if k && mkFits n m then mkD n m else 0
def opV (k : Bool) (n m : Int) : Tr Res := .leaf (.ret (.tup [.agg [.int .i64 (opN k n m), .int .i64 (opD k n m)], .int .i64 (opE k n m)]))
def e13m : Ent := ⟨65, fun
  | [.agg [.int .i64 a, .int .i64 b]] => .leaf (.ret (.int .i64 (ckI a b)))
  | _ => .non⟩
def e26m : Ent := ⟨98, fun
  | [.agg [.int .i64 a, .int .i64 b], .agg [.int .i64 c, .int .i64 d]] => .leaf (.ret (.int .i64 (cmpR a b c d)))
  | _ => .non⟩
def e21m : Ent := ⟨52, fun
  | [.agg [.int .i64 a, .int .i64 b], .agg [.int .i64 c, .int .i64 d]] => opV (okB a b && okB c d) (a * c) (b * d)
  | _ => .non⟩
theorem spec_weak {P : Program} {Inv : World → Prop} {f : FuncId} {s t : List AV → Tr Res} (h : SpecHolds P Inv f fun a => (s a).run) (ht : ∀ args r, (t args).run = some r → (s args).run = some r) : SpecHolds P Inv f fun a => (t a).run :=
  fun args r hr => h args r (ht args r hr)
set_option maxRecDepth 20000 in
theorem e13m_ok : SpecHolds Tryz.prog InvD 65 fun a => (e13m.2 a).run := by
  refine spec_weak e13_ok fun args r h => ?_
  simp only [e13m] at h
  split at h
  · rename_i a b
    rw [← h]
    simp only [e13, Tr.run, ckI]
    cases okB a b <;> rfl
  · simp [Tr.run] at h
set_option maxRecDepth 20000 in
theorem e26m_ok : SpecHolds Tryz.prog InvD 98 fun a => (e26m.2 a).run := by
  refine spec_weak e26_ok fun args r h => ?_
  simp only [e26m] at h
  split at h
  · rename_i a b c d
    rw [← h]
    simp only [e26, cmpR, cmpI, Tr.run]
    cases (okB a b && okB c d) with
    | false => rfl
    | true =>
      by_cases h1 : a * d < c * b
      · simp [h1]
      · by_cases h2 : a * d = c * b
        · simp [h2]
        · simp [h1, h2]
  · simp [Tr.run] at h
theorem opV_run {x y : Bool} {n m : Int} : (opV (x && y) n m).run = (Tr.node x (.node y (opR n m) (erR 1)) (erR 1)).run := by
  cases x
  · rfl
  · cases y
    · rfl
    · simp only [opV, opR, Tr.run, opN, opD, opE, Bool.and_self, cond_true, if_true, Bool.true_and]
      cases mkFits n m <;> rfl
set_option maxRecDepth 20000 in
theorem e21m_ok : SpecHolds Tryz.prog InvD 52 fun a => (e21m.2 a).run := by
  refine spec_weak e21_ok fun args r h => ?_
  simp only [e21m] at h
  split at h
  · rw [opV_run] at h; exact h
  · simp [Tr.run] at h
open Go.Evl Go.RowKit
theorem mkG_pos2 {n m : Int} (hm : 0 < m) : 0 < mkG n m := by
  unfold mkG
  rw [gcdI_abs (absI_nonneg m)]
  have : 0 < Int.gcd n (absI m) := Int.gcd_pos_of_ne_zero_right _ (by rw [absI_eq]; omega)
  omega
theorem mkG_eq {n m : Int} (hm : 0 < m) : mkG n m = (Int.gcd n m : Int) := by
  unfold mkG
  rw [gcdI_abs (absI_nonneg m), show absI m = m by rw [absI_eq]; omega]
theorem mkD_mul {n m : Int} (hm : 0 < m) : mkD n m * mkG n m = m := by
  unfold mkD
  rw [mkG_eq hm, show absI m = m by rw [absI_eq]; omega]
  exact Int.ediv_mul_cancel (Int.gcd_dvd_right ..)
theorem mkA_mul {n m : Int} (hm : 0 < m) : mkA n m * mkG n m = absI n := by
  unfold mkA
  rw [mkG_eq hm]
  refine Int.ediv_mul_cancel ?_
  rw [absI_eq]
  have := Int.gcd_dvd_left (a := n) (b := m)
  exact Int.dvd_natAbs.2 this
theorem mkN_mul {n m : Int} (hm : 0 < m) : mkN n m * mkG n m = n := by
  have h := mkA_mul (n := n) hm
  rcases Int.le_total n 0 with h0 | h0
  · rw [mkN_neg hm h0, Int.neg_mul, h, absI_eq]; omega
  · rw [mkN_pos hm h0, h, absI_eq]; omega
theorem mkD_pos {n m : Int} (hm : 0 < m) : 0 < mkD n m := quo_pos (mkD_mul hm) hm (mkG_pos2 hm)
theorem mk_val {n m : Int} (hm : 0 < m) : mkN n m * m = n * mkD n m := by
  have h1 := mkN_mul (n := n) hm
  have h2 := mkD_mul (n := n) hm
  calc mkN n m * m = mkN n m * (mkD n m * mkG n m) := by rw [h2]
    _ = mkN n m * mkG n m * mkD n m := by rw [Int.mul_assoc, Int.mul_comm (mkG n m)]
    _ = n * mkD n m := by rw [h1]
theorem mk_gcd {n m : Int} (hm : 0 < m) : Nat.gcd (mkN n m).natAbs (mkD n m).natAbs = 1 := by
  have h1 := mkN_mul (n := n) hm
  have h2 := mkD_mul (n := n) hm
  have h3 := mkG_eq (n := n) hm
  have hg := mkG_pos2 (n := n) hm
  have : Int.gcd n m = Int.gcd (mkN n m) (mkD n m) * (mkG n m).natAbs := by
    have e : Int.gcd (mkN n m * mkG n m) (mkD n m * mkG n m) = Int.gcd (mkN n m) (mkD n m) * (mkG n m).natAbs := Int.gcd_mul_right ..
    rw [h1, h2] at e
    exact e
  rw [h3] at this hg
  simp only [Int.natAbs_natCast] at this
  have h4 : 1 * Int.gcd n m = Int.gcd (mkN n m) (mkD n m) * Int.gcd n m := by rw [Nat.one_mul]; exact this
  exact (Nat.eq_of_mul_eq_mul_right (by omega) h4).symm
set_option maxRecDepth 20000 in
theorem mk_ok {n m : Int} (hm : 0 < m) (hf : mkFits n m = true) : okB (mkN n m) (mkD n m) = true := by
  have hd := mkD_pos (n := n) hm
  have hg := mk_gcd (n := n) hm
  simp only [mkFits, Bool.and_eq_true, decide_eq_true_eq] at hf
  have hA : 0 ≤ mkA n m := (quo_le (mkA_mul hm) (absI_nonneg n) (mkG_pos2 hm)).1
  rw [okB_iff]
  refine ⟨by omega, hf.2, ?_, ?_, hg⟩
  · rcases Int.le_total n 0 with h0 | h0
    · rw [mkN_neg hm h0]; omega
    · rw [mkN_pos hm h0]; omega
  · rcases Int.le_total n 0 with h0 | h0
    · rw [mkN_neg hm h0]; omega
    · rw [mkN_pos hm h0]; omega
theorem red_eq {a b c d : Int} (hb : 0 < b) (hd : 0 < d) (hab : Nat.gcd a.natAbs b.natAbs = 1) (hcd : Nat.gcd c.natAbs d.natAbs = 1) (h : a * d = c * b) : a = c ∧ b = d := by
  have h1 : b.natAbs ∣ d.natAbs := by
    have : b.natAbs ∣ a.natAbs * d.natAbs := by rw [← Int.natAbs_mul, h, Int.natAbs_mul]; exact Nat.dvd_mul_left ..
    exact Nat.Coprime.dvd_of_dvd_mul_left (Nat.Coprime.symm hab) this
  have h2 : d.natAbs ∣ b.natAbs := by
    have : d.natAbs ∣ c.natAbs * b.natAbs := by rw [← Int.natAbs_mul, ← h, Int.natAbs_mul]; exact Nat.dvd_mul_left ..
    exact Nat.Coprime.dvd_of_dvd_mul_left (Nat.Coprime.symm hcd) this
  have h3 : b = d := by have := Nat.dvd_antisymm h1 h2; omega
  subst h3
  exact ⟨Int.eq_of_mul_eq_mul_right (by omega) h, rfl⟩
theorem mk_unique {n m a b : Int} (hm : 0 < m) (hb : 0 < b) (hab : Nat.gcd a.natAbs b.natAbs = 1) (h : a * m = n * b) : mkN n m = a ∧ mkD n m = b := by
  refine red_eq (mkD_pos hm) hb (mk_gcd hm) hab ?_
  have hv := mk_val (n := n) hm
  refine Int.eq_of_mul_eq_mul_right (show m ≠ 0 by omega) ?_
  calc mkN n m * b * m = mkN n m * m * b := by rw [Int.mul_assoc, Int.mul_comm b, ← Int.mul_assoc]
    _ = n * mkD n m * b := by rw [hv]
    _ = n * b * mkD n m := by rw [Int.mul_assoc, Int.mul_comm (mkD n m), ← Int.mul_assoc]
    _ = a * m * mkD n m := by rw [h]
    _ = a * mkD n m * m := by rw [Int.mul_assoc, Int.mul_comm m, ← Int.mul_assoc]
theorem mk_congr {n m p q : Int} (hm : 0 < m) (hq : 0 < q) (h : n * q = p * m) : mkN n m = mkN p q ∧ mkD n m = mkD p q := by
  have hv := mk_val (n := p) hq
  refine mk_unique hm (mkD_pos hq) (mk_gcd hq) ?_
  refine Int.eq_of_mul_eq_mul_right (show q ≠ 0 by omega) ?_
  calc mkN p q * m * q = mkN p q * q * m := by rw [Int.mul_assoc, Int.mul_comm m, ← Int.mul_assoc]
    _ = p * mkD p q * m := by rw [hv]
    _ = p * m * mkD p q := by rw [Int.mul_assoc, Int.mul_comm (mkD p q), ← Int.mul_assoc]
    _ = n * q * mkD p q := by rw [h]
    _ = n * mkD p q * q := by rw [Int.mul_assoc, Int.mul_comm q, ← Int.mul_assoc]
theorem mkA_of {n m : Int} (hm : 0 < m) : mkA n m = absI (mkN n m) := by
  have hA : 0 ≤ mkA n m := (quo_le (mkA_mul hm) (absI_nonneg n) (mkG_pos2 hm)).1
  rcases Int.le_total n 0 with h0 | h0
  · rw [mkN_neg hm h0, absI_eq]; omega
  · rw [mkN_pos hm h0, absI_eq]; omega
open Go.Evl Go.RowKit
def pw (i : Int) : Int := 2 ^ (i + 1).toNat
open Go.Evl Go.RowKit
theorem opE_zero {k : Bool} {n m : Int} : (opE k n m == 0) = (k && mkFits n m) := by unfold opE; cases k <;> cases mkFits n m <;> rfl
theorem okB_pos {a b : Int} (h : okB a b = true) : 0 < b := by have := okB_iff.1 h; omega
open Go.Evl Go.RowKit
abbrev RI (x : Int) : Option Res := some (.ret (.int .i64 x))
abbrev RB (b : Bool) : Option Res := some (.ret (.bool b))
def wiB (n lo hi : Int) : Bool := decide (lo ≤ n) && decide (n ≤ hi)
theorem wiB_iff {n lo hi : Int} : wiB n lo hi = true ↔ lo ≤ n ∧ n ≤ hi := by unfold wiB; rw [Bool.and_eq_true, decide_eq_true_eq, decide_eq_true_eq]
def cpB (a b c : Int) : Bool := wiB c 1 1048576 && (wiB b 0 c && wiB a 0 (c - 1))
def cpI (a b c : Int) : Int := if cpB a b c then 0 else 2
def prB (s t n : Int) : Bool := wiB t 1 1099511627776 && (wiB n 1 1000 && wiB s 0 1099511627776)
theorem prB_iff {s t n : Int} : prB s t n = true ↔ (1 ≤ t ∧ t ≤ 1099511627776) ∧ (1 ≤ n ∧ n ≤ 1000) ∧ (0 ≤ s ∧ s ≤ 1099511627776) := by
  unfold prB; rw [Bool.and_eq_true, Bool.and_eq_true, wiB_iff, wiB_iff, wiB_iff]
theorem cpB_iff {a b c : Int} : cpB a b c = true ↔ (1 ≤ c ∧ c ≤ 1048576) ∧ (0 ≤ b ∧ b ≤ c) ∧ (0 ≤ a ∧ a ≤ c - 1) := by
  unfold cpB; rw [Bool.and_eq_true, Bool.and_eq_true, wiB_iff, wiB_iff, wiB_iff]
theorem sx0 : (mkCx Tryz.prog (spOf []) (inlOf []) extD).Ok InvD := cx_of [] (by kernel_rfl) (by
  intro p hp
  cases hp)
def i22 : Ent := ⟨53, fun
  | [.int .i64 a, .int .i64 b, .int .i64 c] => .leaf (.ret (.int .i64 (cpI a b c)))
  | _ => .non⟩
theorem vti22 (a b c : Int) : evFn Tryz.prog (spOf []) (inlOf []) extD (cKD [] []) (fun _ => .unroll 0) Tryz.f53 [.int .i64 a, .int .i64 b, .int .i64 c] [] (fun r _ => some r) =
    (bif decide (c < 1) then RI 2 else bif decide (c > 1048576) then RI 2 else bif decide (b < 0) then RI 2 else bif decide (b > c) then RI 2 else bif decide (a < 0) then RI 2 else bif decide (a ≥ c) then RI 2 else RI 0 : Option Res) := by kernel_rfl
set_option maxRecDepth 20000 in
theorem i22_ok : SpecHolds Tryz.prog InvD 53 fun a => (i22.2 a).run := by
  refine specD sx0 Tryz.func53 (c := codeOf Tryz.prog 53) (by kernel_rfl) (fun _ => .unroll 0) (fun _ _ => trivial) fun args r hh => ?_
  simp only [i22] at hh
  split at hh
  · rename_i a b c
    refine ⟨by kernel_rfl, tr_ok (by rfl) hh, ?_⟩
    refine (vti22 a b c).trans (Eq.trans ?_ hh)
    simp only [Tr.run, cpI]
    by_cases hb : cpB a b c = true
    · rw [if_pos hb]
      rw [cpB_iff] at hb
      rw [decide_eq_false (show ¬ c < 1 by omega), decide_eq_false (show ¬ c > 1048576 by omega), decide_eq_false (show ¬ b < 0 by omega), decide_eq_false (show ¬ b > c by omega), decide_eq_false (show ¬ a < 0 by omega), decide_eq_false (show ¬ a ≥ c by omega)]
      rfl
    · rw [if_neg hb]
      rw [cpB_iff] at hb
      by_cases k1 : c < 1
      · simp [k1]
      by_cases k2 : c > 1048576
      · simp [k1, k2]
      by_cases k3 : b < 0
      · simp [k1, k2, k3]
      by_cases k4 : b > c
      · simp [k1, k2, k3, k4]
      by_cases k5 : a < 0
      · simp [k1, k2, k3, k4, k5]
      have k6 : a ≥ c := by omega
      simp [k1, k2, k3, k4, k5, k6]
  · simp [Tr.run] at hh
def i29 : Ent := ⟨75, fun
  | [.int .i64 a, .int .i64 b, .int .i64 c] => .leaf (.ret (.bool (prB a b c)))
  | _ => .non⟩
theorem vti29 (a b c : Int) : evFn Tryz.prog (spOf []) (inlOf []) extD (cKD [] []) (fun _ => .unroll 0) Tryz.f75 [.int .i64 a, .int .i64 b, .int .i64 c] [] (fun r _ => some r) =
    (bif decide (b < 1) then RB false else bif decide (b > 1099511627776) then RB false else bif decide (c < 1) then RB false else bif decide (c > 1000) then RB false else bif decide (a ≥ 0) then bif decide (a ≤ 1099511627776) then RB true else RB false else RB false : Option Res) := by kernel_rfl
set_option maxRecDepth 20000 in
theorem i29_ok : SpecHolds Tryz.prog InvD 75 fun a => (i29.2 a).run := by
  refine specD sx0 Tryz.func75 (c := codeOf Tryz.prog 75) (by kernel_rfl) (fun _ => .unroll 0) (fun _ _ => trivial) fun args r hh => ?_
  simp only [i29] at hh
  split at hh
  · rename_i a b c
    refine ⟨by kernel_rfl, tr_ok (by rfl) hh, ?_⟩
    refine (vti29 a b c).trans (Eq.trans ?_ hh)
    simp only [Tr.run]
    cases hb : prB a b c with
    | true =>
      rw [prB_iff] at hb
      rw [decide_eq_false (show ¬ b < 1 by omega), decide_eq_false (show ¬ b > 1099511627776 by omega), decide_eq_false (show ¬ c < 1 by omega), decide_eq_false (show ¬ c > 1000 by omega), decide_eq_true (show a ≥ 0 by omega), decide_eq_true (show a ≤ 1099511627776 by omega)]
      rfl
    | false =>
      have hb' : ¬ prB a b c = true := by rw [hb]; simp
      rw [prB_iff] at hb'
      by_cases k1 : b < 1
      · simp [k1]
      by_cases k2 : b > 1099511627776
      · simp [k1, k2]
      by_cases k3 : c < 1
      · simp [k1, k2, k3]
      by_cases k4 : c > 1000
      · simp [k1, k2, k3, k4]
      by_cases k5 : a ≥ 0
      · have k6 : ¬ a ≤ 1099511627776 := by omega
        simp [k1, k2, k3, k4, k5, k6]
      simp [k1, k2, k3, k4, k5]
  · simp [Tr.run] at hh
def i31 : Ent := ⟨51, fun
  | [.int .i64 a] => .leaf (.ret (.agg [.int .i64 a, .int .i64 1]))
  | _ => .non⟩
theorem vti31 (a : Int) : evFn Tryz.prog (spOf []) (inlOf []) extD (cKD [] []) (fun _ => .unroll 0) Tryz.f51 [.int .i64 a] [] (fun r _ => some r) =
    (some (.ret (.agg [.int .i64 a, .int .i64 1])) : Option Res) := by kernel_rfl
set_option maxRecDepth 20000 in
theorem i31_ok : SpecHolds Tryz.prog InvD 51 fun a => (i31.2 a).run := by
  refine specD sx0 Tryz.func51 (c := codeOf Tryz.prog 51) (by kernel_rfl) (fun _ => .unroll 0) (fun _ _ => trivial) fun args r hh => ?_
  simp only [i31] at hh
  split at hh
  · rename_i a
    refine ⟨by kernel_rfl, tr_ok (by rfl) hh, ?_⟩
    refine (vti31 a).trans (Eq.trans ?_ hh)
    rfl
  · simp [Tr.run] at hh
def i13 : Ent := ⟨16, fun
  | [.int .i64 a] => .leaf (.ret (.agg [.int .i64 a, .int .i64 1]))
  | _ => .non⟩
theorem vti13 (a : Int) : evFn Tryz.prog (spOf []) (inlOf []) extD (cKD [] []) (fun _ => .unroll 0) Tryz.f16 [.int .i64 a] [] (fun r _ => some r) =
    (some (.ret (.agg [.int .i64 a, .int .i64 1])) : Option Res) := by kernel_rfl
set_option maxRecDepth 20000 in
theorem i13_ok : SpecHolds Tryz.prog InvD 16 fun a => (i13.2 a).run := by
  refine specD sx0 Tryz.func16 (c := codeOf Tryz.prog 16) (by kernel_rfl) (fun _ => .unroll 0) (fun _ _ => trivial) fun args r hh => ?_
  simp only [i13] at hh
  split at hh
  · rename_i a
    refine ⟨by kernel_rfl, tr_ok (by rfl) hh, ?_⟩
    refine (vti13 a).trans (Eq.trans ?_ hh)
    rfl
  · simp [Tr.run] at hh
open Go.Evl Go.RowKit
def mkE (n m : Int) : Int := if m = 0 then 26 else if mkFits n m then 0 else 14
def mkX (n m : Int) : Int := if mkE n m = 0 then mkN n m else 0
def mkY (n m : Int) : Int := if mkE n m = 0 then mkD n m else 0
def i32 : Ent := ⟨77, fun
  | [.int .i64 n, .int .i64 m] => .chk (inI n && inI m) (.leaf (.ret (.tup [.agg [.int .i64 (mkX n m), .int .i64 (mkY n m)], .int .i64 (mkE n m)])))
  | _ => .non⟩
set_option maxRecDepth 20000 in
theorem i32_ok : SpecHolds Tryz.prog InvD 77 fun a => (i32.2 a).run := by
  refine spec_weak e11_ok fun args r h => ?_
  simp only [i32] at h
  split at h
  · rename_i n m
    obtain ⟨hg, h⟩ := chk_run h
    rw [← h]
    simp only [e11, hg, Tr.run, cond_true, mkX, mkY, mkE]
    by_cases h0 : m = 0
    · simp [h0]
    · by_cases hf : mkFits n m = true <;> simp [h0, hf]
  · simp [Tr.run] at h
open Go.Evl Go.RowKit
def trB (a : Int) : Bool := wiB a 1024 1125899906843647
def keB (a b c d : Int) : Bool := decide ((a + b) % d < c)
abbrev D4 (k : Bool) (n m r : Int) : AV := .agg [.bool k, .int .i64 n, .int .i64 m, .int .i64 r]
abbrev RD (k : Bool) (n m r e : Int) : Option Res := some (.ret (.tup [D4 k n m r, .int .i64 e]))
theorem inI_of {x : Int} (h0 : -9223372036854775808 ≤ x) (h1 : x < 9223372036854775808) : inI x = true := by simp only [inI, decide_eq_true_eq]; omega
theorem mkE_part {c d : Int} (hc : 1 ≤ c) (hd : 1 ≤ d) (h1 : c ≤ 1152921504606846976) (h2 : d ≤ 1152921504606846976) : mkE d c = 0 := by
  have h0 : c ≠ 0 := by omega
  obtain ⟨a0, a1⟩ := mkA_range (a := d) h0
  obtain ⟨d0, d1⟩ := mkD_range (a := d) h0
  have e1 : absI d = d := by rw [absI_eq]; omega
  have e2 : absI c = c := by rw [absI_eq]; omega
  have hf : mkFits d c = true := by
    unfold mkFits
    rw [Bool.and_eq_true, decide_eq_true_eq, decide_eq_true_eq]
    omega
  simp [mkE, h0, hf]
open Go.Evl Go.RowKit
def kcI (s t n : Int) : Int := if s < 0 then 0 else min n ((s * n + t - 1) / t)
theorem kcI_range {s t n : Int} (h : prB s t n = true) : 0 ≤ kcI s t n ∧ kcI s t n ≤ n := by
  obtain ⟨⟨t1, t2⟩, ⟨n1, n2⟩, s1, s2⟩ := prB_iff.1 h
  unfold kcI
  rw [if_neg (by omega)]
  have : 0 ≤ s * n := Int.mul_nonneg s1 (by omega)
  have : 0 ≤ (s * n + t - 1) / t := Int.ediv_nonneg (by omega) (by omega)
  omega
theorem kcI_lt {s t n k : Int} (h : prB s t n = true) : k < kcI s t n ↔ k < n ∧ k * t < s * n := by
  obtain ⟨⟨t1, t2⟩, ⟨n1, n2⟩, s1, s2⟩ := prB_iff.1 h
  have e : k < (s * n + t - 1) / t ↔ k * t < s * n := by
    rw [← Int.add_one_le_iff, Int.le_ediv_iff_mul_le (by omega), Int.add_mul]
    omega
  unfold kcI
  rw [if_neg (by omega), ← e]
  omega
theorem prod_range {s t n k : Int} (h : prB s t n = true) (h0 : 0 ≤ k) (h1 : k ≤ n) : IntKind.i64.wrap (k * t) = k * t ∧ IntKind.i64.wrap (s * n) = s * n := by
  obtain ⟨⟨t1, t2⟩, ⟨n1, n2⟩, s1, s2⟩ := prB_iff.1 h
  have p1 : 0 ≤ k * t := Int.mul_nonneg h0 (by omega)
  have p2 : k * t ≤ 1000 * 1099511627776 := Int.mul_le_mul (by omega) t2 (by omega) (by omega)
  have p3 : 0 ≤ s * n := Int.mul_nonneg s1 (by omega)
  have p4 : s * n ≤ 1099511627776 * 1000 := Int.mul_le_mul s2 n2 (by omega) (by omega)
  exact ⟨wrapI (by omega) (by omega), wrapI (by omega) (by omega)⟩
noncomputable def rf30 : Operand × Array Tmp × Code × Code := ((rfs (codeOf Tryz.prog 76))[0]?).getD (.tmp 0, #[], .skip, .skip)
abbrev keep64 : List Nat := [0, 1, 2, 3, 5]
abbrev vs64 (c : Int) : List AV := [.yld 5, .ptr 3 0, .ptr 2 0, .ptr 1 0, .int .i64 c]
abbrev hp64 (k s t n : Int) (o : Ob) : List Ob := [.cells [.int .i64 k] 3, .cells [.int .i64 s] 3, .cells [.int .i64 t] 3, .cells [.int .i64 n] 3, .dfr, o]
noncomputable def f64s : List AV → List Ob → Tr (Ex × List AV × List Ob)
  | [.yld 5, .ptr 3 0, .ptr 2 0, .ptr 1 0, .int .i64 c], [.cells [.int .i64 k] 3, .cells [.int .i64 s] 3, .cells [.int .i64 t] 3, .cells [.int .i64 n] 3, .dfr, .loop [a0, a1, a2, a3, a4, a5, a6, .ptr 0 0, a8, a9, a10, a11, a12, a13, a14, a15] ps asg body 4 .ready] =>
    .chk (eqL Nat.beq ps.toList [12] && (eqC asg .skip && eqC body rf30.2.2.2)) (.chk (prB s t n && ((decide (0 ≤ c) && decide (c ≤ kcI s t n)) && decide (k = c)))
      (.leaf (.exit 0, vs64 (kcI s t n), hp64 (kcI s t n) s t n (.loop [a0, a1, a2, a3, a4, a5, a6, .ptr 0 0, a8, a9, a10, a11, a12, a13, a14, a15] ps asg body 4 .ready))))
  | _, _ => .non
noncomputable abbrev lp64 (_ : Nat) : LT := .sum keep64 f64s
noncomputable abbrev cK64 {β : Type} : CallK β := callLK Tryz.prog (spOf []) (inlOf [116, 148]) extD (cKD [] [116, 148]) [(148, lp64)]
section
variable {a0 a1 a2 a3 a4 a5 a6 a8 a9 a10 a11 a12 a13 a14 a15 : AV}
abbrev ob64 (a0 a1 a2 a3 a4 a5 a6 a8 a9 a10 a11 a12 a13 a14 a15 : AV) (c : Code) : Ob := .loop [a0, a1, a2, a3, a4, a5, a6, .ptr 0 0, a8, a9, a10, a11, a12, a13, a14, a15] #[12] .skip c 4 .ready
theorem loop64 (s t n k c : Int) : evC (β := Ex × List AV × List Ob) Tryz.prog (spOf []) (inlOf [116, 148]) extD (cKD [] [116, 148]) lp64 (bodyOf Tryz.prog 148 0) ⟨mkF Tryz.f148.ntmps keep64 (vs64 c), hp64 k s t n (ob64 a0 a1 a2 a3 a4 a5 a6 a8 a9 a10 a11 a12 a13 a14 a15 rf30.2.2.2)⟩ (fun e st => (cutBack keep64 6 st).map fun q => (e, q.1, q.2)) =
    bif decide (c < n) then bif decide (IntKind.i64.wrap (c * t) < IntKind.i64.wrap (s * n)) then some (.normal, vs64 (IntKind.i64.wrap (c + 1)), hp64 (IntKind.i64.wrap (k + 1)) s t n (ob64 a0 a1 a2 a3 a4 a5 a6 a8 a9 a10 a11 a12 a13 a14 a15 rf30.2.2.2))
      else some (.exit 0, vs64 c, hp64 k s t n (ob64 a0 a1 a2 a3 a4 a5 a6 a8 a9 a10 a11 a12 a13 a14 a15 rf30.2.2.2)) else some (.exit 0, vs64 c, hp64 k s t n (ob64 a0 a1 a2 a3 a4 a5 a6 a8 a9 a10 a11 a12 a13 a14 a15 rf30.2.2.2)) := by kernel_rfl
end
theorem eqC_rf30 : eqC rf30.2.2.2 rf30.2.2.2 = true := by kernel_rfl
set_option maxRecDepth 20000 in
theorem sum64 : LoopOkT Tryz.prog (spOf []) (inlOf [116, 148]) extD (cKD [] [116, 148]) lp64 Tryz.f148.ntmps (bodyOf Tryz.prog 148 0) (.sum keep64 f64s) := by
  dsimp only [LoopOkT]
  refine ⟨by decide, by decide, fun vs H => match vs, H with | [_, _, _, _, .int _ c], [_, .cells [.int _ s] _, .cells [.int _ t] _, .cells [.int _ n] _, _, _] => (kcI s t n - c).toNat | _, _ => 0, fun vs H R hv hR => ?_⟩
  unfold f64s at hR
  split at hR
  · rename_i c k s t n a0 a1 a2 a3 a4 a5 a6 a8 a9 a10 a11 a12 a13 a14 a15 ps asg body
    obtain ⟨hc, hR⟩ := chk_run hR
    obtain ⟨hg, hR⟩ := chk_run hR
    simp only [Tr.run, Option.some.injEq] at hR
    subst hR
    rw [Bool.and_eq_true, Bool.and_eq_true] at hc
    obtain ⟨h1, h2, h3⟩ := hc
    have e1 : ps = #[12] := Array.toList_inj.1 (eqL_eq (fun _ _ h => beqN h) h1)
    have e2 := eqC_eq h2
    have e3 := eqC_eq h3
    subst e1 e2 e3
    simp only [Bool.and_eq_true, decide_eq_true_eq] at hg
    obtain ⟨hp, ⟨k0, k1⟩, rfl⟩ := hg
    have hr := kcI_range hp
    have hl := kcI_lt (k := k) hp
    obtain ⟨w1, w2⟩ := prod_range (k := k) hp k0 (by omega)
    have hn := (prB_iff.1 hp).2.1
    have ht := @loop64 a0 a1 a2 a3 a4 a5 a6 a8 a9 a10 a11 a12 a13 a14 a15 s t n k k
    rw [w1, w2] at ht
    by_cases h : k < kcI s t n
    · rw [decide_eq_true (hl.1 h).1, decide_eq_true (hl.1 h).2] at ht
      refine ⟨_, _, _, ht, ?_, ?_⟩
      · rw [wrapI (by omega) (by omega)]
        simp only [f64s]
        rw [hp, decide_eq_true (show 0 ≤ k + 1 by omega), decide_eq_true (show k + 1 ≤ kcI s t n by omega), eqC_rf30]
        rfl
      · show (kcI s t n - IntKind.i64.wrap (k + 1)).toNat < (kcI s t n - k).toNat
        rw [wrapI (by omega) (by omega)]
        omega
    · have e : k = kcI s t n := by omega
      refine ⟨.exit 0, vs64 k, hp64 k s t n (ob64 a0 a1 a2 a3 a4 a5 a6 a8 a9 a10 a11 a12 a13 a14 a15 rf30.2.2.2), ht.trans ?_, ?_⟩
      · by_cases g1 : k < n
        · have g2 : ¬ k * t < s * n := fun g2 => h (hl.2 ⟨g1, g2⟩)
          rw [decide_eq_true g1, decide_eq_false g2]; rfl
        · rw [decide_eq_false g1]; rfl
      · show (Ex.exit 0, vs64 (kcI s t n), hp64 (kcI s t n) s t n _) = (Ex.exit 0, vs64 k, hp64 k s t n _)
        rw [← e]
  · simp [Tr.run] at hR
def i30 : Ent := ⟨76, fun
  | [.int .i64 s, .int .i64 t, .int .i64 n] => .chk (prB s t n) (.leaf (.ret (.int .i64 (kcI s t n))))
  | _ => .non⟩
theorem sx30 : (mkCx Tryz.prog (spOf []) (inlOf [116, 148]) extD).Ok InvD := cx_of [116, 148] (by kernel_rfl) (fun p hp => by cases hp)
set_option maxRecDepth 20000 in
theorem lps64 : LpsOk (mkCx Tryz.prog (spOf []) (inlOf [116, 148]) extD) (callN (mkCx Tryz.prog (spOf []) (inlOf [116, 148]) extD) attD uD 20) [(148, lp64)] := by
  intro f lp hf fn c hfn hc
  simp only [List.mem_singleton, Prod.mk.injEq] at hf
  obtain ⟨rfl, rfl⟩ := hf
  have e1 : fn = Tryz.f148 := Option.some.inj (hfn.symm.trans Tryz.func148)
  subst e1
  have e2 : c = codeOf Tryz.prog 148 := Option.some.inj (hc.symm.trans (by kernel_rfl))
  subst e2
  refine loopsOk_of Tryz.prog (spOf []) (inlOf [116, 148]) extD (cKD [] [116, 148]) (fun {β} => callK_eq (β := β) Tryz.prog (spOf []) (inlOf [116, 148]) extD attD uD 20) fun p hp => ?_
  have hl : loops (codeOf Tryz.prog 148) = [(0, bodyOf Tryz.prog 148 0)] := by kernel_rfl
  rw [hl, List.mem_singleton] at hp
  subst hp
  exact sum64
theorem vt30 (s t n : Int) : evFn Tryz.prog (spOf []) (inlOf [116, 148]) extD cK64 (fun _ => .unroll 0) Tryz.f76 [.int .i64 s, .int .i64 t, .int .i64 n] [] (fun r _ => some r) =
    bif prB s t n && ((true && decide (0 ≤ kcI s t n)) && true) then RI (kcI s t n) else none := by kernel_rfl
set_option maxRecDepth 20000 in
theorem i30_ok : SpecHolds Tryz.prog InvD 76 fun a => (i30.2 a).run := by
  refine spec_of_ev Tryz.prog (spOf []) (inlOf [116, 148]) extD cK64 (fun {β} => callLK_eq (β := β) Tryz.prog (spOf []) (inlOf [116, 148]) extD (callK_eq (β := β) Tryz.prog (spOf []) (inlOf [116, 148]) extD attD uD 20) [(148, lp64)]) sx30 stableD mixedD
    (callLN_sound sx30 stableD mixedD (callN_sound attD_ok sx30 stableD mixedD 20) lps64) Tryz.func76 (c := codeOf Tryz.prog 76) (by kernel_rfl) (fun _ => .unroll 0) (fun _ _ => trivial) fun args r hh => ?_
  simp only [i30] at hh
  split at hh
  · rename_i s t n
    obtain ⟨hg, hh⟩ := chk_run hh
    refine ⟨by kernel_rfl, tr_ok (by rfl) hh, ?_⟩
    refine (vt30 s t n).trans (Eq.trans ?_ hh)
    rw [hg, decide_eq_true (kcI_range hg).1]
    rfl
  · simp [Tr.run] at hh
open Go.Evl Go.RowKit
theorem sx10 : (mkCx Tryz.prog (spOf [i29, i30, i31, i32]) (inlOf []) extD).Ok InvD := cx_of [] (by kernel_rfl) (by
  intro p hp
  simp only [List.mem_cons, List.not_mem_nil, or_false] at hp
  rcases hp with rfl | rfl | rfl | rfl
  · exact i29_ok
  · exact i30_ok
  · exact i31_ok
  · exact i32_ok)
open Go.Evl Go.RowKit
def tB (all part a : Int) : Int := if a % all < part then 1 else 0
theorem ok01 : okB 0 1 = true := by rw [okB_iff]; simp
theorem mk_same {a b : Int} (h : okB a b = true) : mkN a b = a ∧ mkD a b = b ∧ mkFits a b = true := by
  obtain ⟨b1, b2, a1, a2, g⟩ := okB_iff.1 h
  obtain ⟨e1, e2⟩ := mk_unique (n := a) (m := b) (a := a) (b := b) (by omega) (by omega) g rfl
  refine ⟨e1, e2, ?_⟩
  unfold mkFits
  rw [mkA_of (by omega), e1, e2, absI_eq, Bool.and_eq_true, decide_eq_true_eq, decide_eq_true_eq]
  omega
theorem op_mk {n m : Int} (hf : mkFits n m = true) : opN true n m = mkN n m ∧ opD true n m = mkD n m ∧ opE true n m = 0 := by simp [opN, opD, opE, hf]
section
variable {all part c : Int} (ha : 1 ≤ all ∧ all ≤ 1000) (hp : 0 ≤ part ∧ part ≤ all) (hc : 0 ≤ c ∧ c ≤ 1000)
theorem add_zero {a b : Int} (h : okB a b = true) : opN (okB a b && okB 0 1) (a * 1 + 0 * b) (b * 1) = a ∧ opD (okB a b && okB 0 1) (a * 1 + 0 * b) (b * 1) = b ∧ opE (okB a b && okB 0 1) (a * 1 + 0 * b) (b * 1) = 0 := by
  have e1 : a * 1 + 0 * b = a := by omega
  have e2 : b * 1 = b := by omega
  obtain ⟨m1, m2, m3⟩ := mk_same h
  rw [h, ok01, e1, e2, Bool.and_self]
  obtain ⟨o1, o2, o3⟩ := op_mk m3
  exact ⟨o1.trans m1, o2.trans m2, o3⟩
end
open Go.Evl Go.RowKit
abbrev F2 : Type := Int × Int
def red (P Q : Int) : F2 := (mkN P Q, mkD P Q)
def opF (k : Bool) (n m : Int) : F2 := (opN k n m, opD k n m)
def mF (p q : F2) : F2 := opF (okB p.1 p.2 && okB q.1 q.2) (p.1 * q.1) (p.2 * q.2)
def mE (p q : F2) : Int := opE (okB p.1 p.2 && okB q.1 q.2) (p.1 * q.1) (p.2 * q.2)
structure Fit (P Q : Int) : Prop where
  p : 0 < Q
  f : mkFits P Q = true
theorem Fit.ok {P Q : Int} (h : Fit P Q) : okB (red P Q).1 (red P Q).2 = true := mk_ok h.p h.f
open Go.Evl Go.RowKit
def mk2 (x0 x1 : Int) (r : Nat → List AV) : Nat → List AV
  | 0 => [.int .i64 x0]
  | 1 => [.int .i64 x1]
  | n + 2 => r n
theorem mk2_eq {el : Nat → List AV} {x y : Int} (h : el 0 = [.int .i64 x]) (h1 : el 1 = [.int .i64 y]) : el = mk2 x y fun n => el (n + 2) := by
  funext n
  match n with
  | 0 => exact h
  | 1 => exact h1
  | n + 2 => rfl
open Go.Evl Go.RowKit
def slI : List FuncId := [33, 34, 16, 35, 53, 74, 75, 76, 51, 77, 66, 65, 52, 110, 109, 118, 99, 112, 102, 149, 137, 144, 138, 145, 146, 147, 174, 179, 180, 192, 165]
def ilI : List FuncId := [116, 100, 117, 111, 101, 148]
noncomputable def spI (n : Nat) : Sp := autoSp Tryz.prog [] slI ilI extD attD uD n
set_option maxRecDepth 20000 in
theorem spI_ok (n : Nat) : (mkCx Tryz.prog (spI n) (inlOf ilI) extD).Ok InvD :=
  autoSp_ok attD_ok (by kernel_rfl) extD_ok (fun p hp => by cases hp) stableD mixedD n
theorem awake_run : (callK Tryz.prog (spI 8) (inlOf ilI) extD attD uD 40 9 [] [] fun r _ => .chk (okRes r) (.leaf r)).run = some (.ret (.bool true)) := by kernel_rfl
def iAw : Ent := ⟨9, fun
  | [] => .leaf (.ret (.bool true))
  | _ => .non⟩
set_option maxRecDepth 20000 in
theorem iAw_ok : SpecHolds Tryz.prog InvD 9 fun a => (iAw.2 a).run := by
  intro args r h
  simp only [iAw] at h
  split at h
  · simp only [Tr.run, Option.some.injEq] at h
    subst h
    exact auto_spec (u := uD) attD_ok (spI_ok 8) stableD mixedD 40 9 [] (.ret (.bool true)) awake_run
  · simp [Tr.run] at h
open Go.Evl Go.RowKit
def vdB (k : Bool) (a b r : Int) : Bool := wiB r 1 5 && (okB a b && (if k then decide (b ≤ a) else decide (a = 0 ∧ b = 1)))
def i45 : Ent := ⟨50, fun
  | [.agg [.bool k, .int .i64 a, .int .i64 b, .int .i64 r]] => .leaf (.ret (.bool (vdB k a b r)))
  | _ => .non⟩
def cbV (k : Bool) (a b r : Int) (l : Bool) (c d s : Int) : Bool := vdB k a b r && vdB l c d s
def cbE (k : Bool) (a b r : Int) (l : Bool) (c d s : Int) : Int := if cbV k a b r l c d s then (if k && l then mE (a, b) (c, d) else 0) else 1
def cbK (k : Bool) (a b r : Int) (l : Bool) (c d s : Int) : Bool := cbV k a b r l c d s && (k && (l && (mE (a, b) (c, d) == 0)))
def cbN (k : Bool) (a b r : Int) (l : Bool) (c d s : Int) : Int := if cbV k a b r l c d s && (k && l) then (mF (a, b) (c, d)).1 else 0
def cbD (k : Bool) (a b r : Int) (l : Bool) (c d s : Int) : Int := if cbV k a b r l c d s then (if k && l then (mF (a, b) (c, d)).2 else 1) else 0
def cbR (k : Bool) (a b r : Int) (l : Bool) (c d s : Int) : Int := if cbV k a b r l c d s then (if k then (if l && mE (a, b) (c, d) != 0 then 0 else s) else r) else 0
def cbT (k : Bool) (a b r : Int) (l : Bool) (c d s : Int) : Tr Res := .leaf (.ret (.tup [D4 (cbK k a b r l c d s) (cbN k a b r l c d s) (cbD k a b r l c d s) (cbR k a b r l c d s), .int .i64 (cbE k a b r l c d s)]))
def i19 : Ent := ⟨17, fun
  | [.agg [.bool k, .int .i64 a, .int .i64 b, .int .i64 r], .agg [.bool l, .int .i64 c, .int .i64 d, .int .i64 s]] => cbT k a b r l c d s
  | _ => .non⟩
theorem vd_prog (k : Bool) (a b r : Int) : (bif decide (r < 1) then RB false else bif decide (r > 5) then RB false else bif ckI a b != 0 then RB false else bif k then bif decide (cmpR a b 1 1 ≥ 0) then RB true else RB false else bif a == 0 && (b == 1 && true) then RB true else RB false : Option Res) = RB (vdB k a b r) := by
  unfold vdB wiB
  by_cases h1 : r < 1
  · rw [decide_eq_true h1, decide_eq_false (show ¬ (1 : Int) ≤ r by omega)]; rfl
  by_cases h2 : r > 5
  · rw [decide_eq_false h1, decide_eq_true h2, decide_eq_false (show ¬ r ≤ 5 by omega), Bool.and_false]; rfl
  rw [decide_eq_false h1, decide_eq_false h2, decide_eq_true (show (1 : Int) ≤ r by omega), decide_eq_true (show r ≤ 5 by omega)]
  cases ho : okB a b with
  | false => simp [ckI, ho]
  | true =>
    have hck : (ckI a b != 0) = false := by simp [ckI, ho]
    rw [hck]
    cases k with
    | true =>
      have hc : decide (cmpR a b 1 1 ≥ 0) = decide (b ≤ a) := by
        have h11 : okB 1 1 = true := by rfl
        simp only [cmpR, ho, h11, Bool.and_self, if_true, cmpI]
        by_cases c1 : a * 1 < 1 * b
        · rw [if_pos c1, decide_eq_false (by omega), decide_eq_false (by omega)]
        · rw [if_neg c1]
          split
          · rw [decide_eq_true (by omega), decide_eq_true (by omega)]
          · rw [decide_eq_true (by omega), decide_eq_true (by omega)]
      rw [hc]
      simp only [cond_false, cond_true, Bool.true_and, if_true]
      cases decide (b ≤ a) <;> rfl
    | false =>
      simp only [cond_false, Bool.true_and, Bool.and_true, Bool.false_eq_true, if_false]
      rw [show decide (a = 0 ∧ b = 1) = (a == 0 && b == 1) from by rw [Bool.eq_iff_iff]; simp]
      cases (a == 0 && b == 1) <;> rfl
theorem sx45 : (mkCx Tryz.prog (spOf [e13m, i31, e26m]) (inlOf []) extD).Ok InvD := cx_of [] (by kernel_rfl) (by
  intro p hp
  simp only [List.mem_cons, List.not_mem_nil, or_false] at hp
  rcases hp with rfl | rfl | rfl
  · exact e13m_ok
  · exact i31_ok
  · exact e26m_ok)
theorem vti45 (k : Bool) (a b r : Int) : evFn Tryz.prog (spOf [e13m, i31, e26m]) (inlOf []) extD (cKD [e13m, i31, e26m] []) (fun _ => .unroll 0) Tryz.f50 [.agg [.bool k, .int .i64 a, .int .i64 b, .int .i64 r]] [] (fun r _ => some r) =
    (bif decide (r < 1) then RB false else bif decide (r > 5) then RB false else bif ckI a b != 0 then RB false else bif k then bif decide (cmpR a b 1 1 ≥ 0) then RB true else RB false else bif a == 0 && (b == 1 && true) then RB true else RB false : Option Res) := by kernel_rfl
set_option maxRecDepth 20000 in
theorem i45_ok : SpecHolds Tryz.prog InvD 50 fun a => (i45.2 a).run := by
  refine specD sx45 Tryz.func50 (c := codeOf Tryz.prog 50) (by kernel_rfl) (fun _ => .unroll 0) (fun _ _ => trivial) fun args r hh => ?_
  simp only [i45] at hh
  split at hh
  · rename_i k a b r
    refine ⟨by kernel_rfl, tr_ok (by rfl) hh, ?_⟩
    exact (vti45 k a b r).trans ((vd_prog k a b r).trans hh)
  · simp [Tr.run] at hh
theorem cb_eq (k : Bool) (a b r : Int) (l : Bool) (c d s : Int) : (bif vdB k a b r then bif vdB l c d s then bif k then bif l then bif mE (a, b) (c, d) != 0 then RD false 0 0 0 (mE (a, b) (c, d)) else RD true (mF (a, b) (c, d)).1 (mF (a, b) (c, d)).2 s 0 else RD false 0 1 s 0 else RD false 0 1 r 0 else RD false 0 0 0 1 else RD false 0 0 0 1 : Option Res) = (cbT k a b r l c d s).run := by
  have hD (h : ¬ mE (a, b) (c, d) = 0) : (mF (a, b) (c, d)).1 = 0 ∧ (mF (a, b) (c, d)).2 = 0 := by
    unfold mE opE at h
    unfold mF opF opN opD
    split at h
    · rename_i h1
      split at h
      · exact absurd rfl h
      · rename_i h2
        simp only [h1, Bool.true_and, h2]
        exact ⟨rfl, rfl⟩
    · rename_i h1
      simp only [h1, Bool.false_and]
      exact ⟨rfl, rfl⟩
  by_cases hv : cbV k a b r l c d s = true
  · have hv' := hv
    simp only [cbV, Bool.and_eq_true] at hv'
    rw [hv'.1, hv'.2]
    cases k with
    | false => simp [cbT, Tr.run, cbK, cbN, cbD, cbR, cbE, hv]
    | true =>
      cases l with
      | false => simp [cbT, Tr.run, cbK, cbN, cbD, cbR, cbE, hv]
      | true =>
        by_cases h : mE (a, b) (c, d) = 0
        · simp [cbT, Tr.run, cbK, cbN, cbD, cbR, cbE, hv, h]
        · obtain ⟨e1, e2⟩ := hD h
          have b0 : (mE (a, b) (c, d) == 0) = false := beq_false_of_ne h
          have b1 : (mE (a, b) (c, d) != 0) = true := by rw [bne, b0]; rfl
          simp [cbT, Tr.run, cbK, cbN, cbD, cbR, cbE, hv, b0, b1, e1, e2]
  · have hv0 : cbV k a b r l c d s = false := by simpa using hv
    have hr : (cbT k a b r l c d s).run = RD false 0 0 0 1 := by simp [cbT, Tr.run, cbK, cbN, cbD, cbR, cbE, hv0]
    rw [hr]
    simp only [cbV] at hv0
    cases h1 : vdB k a b r with
    | false => rfl
    | true =>
      rw [h1, Bool.true_and] at hv0
      rw [hv0]; rfl
theorem sx19 : (mkCx Tryz.prog (spOf [i45, i31, e21m]) (inlOf []) extD).Ok InvD := cx_of [] (by kernel_rfl) (by
  intro p hp
  simp only [List.mem_cons, List.not_mem_nil, or_false] at hp
  rcases hp with rfl | rfl | rfl
  · exact i45_ok
  · exact i31_ok
  · exact e21m_ok)
theorem vti19 (k : Bool) (a b r : Int) (l : Bool) (c d s : Int) : evFn Tryz.prog (spOf [i45, i31, e21m]) (inlOf []) extD (cKD [i45, i31, e21m] []) (fun _ => .unroll 0) Tryz.f17 [.agg [.bool k, .int .i64 a, .int .i64 b, .int .i64 r], .agg [.bool l, .int .i64 c, .int .i64 d, .int .i64 s]] [] (fun r _ => some r) =
    (bif vdB k a b r then bif vdB l c d s then bif k then bif l then bif mE (a, b) (c, d) != 0 then RD false 0 0 0 (mE (a, b) (c, d)) else RD true (mF (a, b) (c, d)).1 (mF (a, b) (c, d)).2 s 0 else RD false 0 1 s 0 else RD false 0 1 r 0 else RD false 0 0 0 1 else RD false 0 0 0 1 : Option Res) := by kernel_rfl
set_option maxRecDepth 20000 in
theorem i19_ok : SpecHolds Tryz.prog InvD 17 fun a => (i19.2 a).run := by
  refine specD sx19 Tryz.func17 (c := codeOf Tryz.prog 17) (by kernel_rfl) (fun _ => .unroll 0) (fun _ _ => trivial) fun args r hh => ?_
  simp only [i19] at hh
  split at hh
  · rename_i k a b r l c d s
    refine ⟨by kernel_rfl, tr_ok (by rfl) hh, ?_⟩
    exact (vti19 k a b r l c d s).trans ((cb_eq k a b r l c d s).trans hh)
  · simp [Tr.run] at hh
open Go.Evl Go.RowKit
end Go.Proofs.YtfepnmpoplcbmaaGreat
namespace Go.Proofs.YtfepnmpoplcbmaaGreat.T
open Go.Evl Go.RowKit
structure Sq48a where
  n : Nat
  x : Nat → Nat → Dt
  z : Int
  l : Int
  k : Int
abbrev keepq48a : List Nat := [0, 1, 4, 7, 8]
abbrev vsq48a (s : Sq48a) : List AV := [.isz s.n SS s.x, .fn (.func 81) [], .int .i64 s.z, .int .i64 s.l, .int .i64 s.k]
abbrev hpq48a (s : Sq48a) : List Ob := []
noncomputable def decq48a : List AV → List Ob → Option Sq48a
  | [.isz n [.int .i64, .int .i64, .int .i64, .str, .str, .int .i64, .int .i64, .int .i64, .row [.str, .str], .row [.int .i64, .int .i64]] x, .fn (.func 81) [], .int .i64 z, .int .i64 l, .int .i64 k], [] => some ⟨n, x, z, l, k⟩
  | _, _ => none
noncomputable def rndq48a (s : Sq48a) : Option (Ex × List AV × List Ob) :=
  bif decide (s.k < s.l) then bif decide (0 ≤ s.k) && decide (s.k < (s.n : Int)) then bif (s.x s.k.toNat 7).n == 1 then some (.ret, [.isz s.n SS s.x, .fn (Fn.func 81) [], .int .i64 s.k, .int .i64 s.l, .int .i64 s.k], []) else some (.normal, [.isz s.n SS s.x, .fn (Fn.func 81) [], .int .i64 s.z, .int .i64 s.l, .int .i64 (IntKind.i64.wrap (s.k + 1))], []) else none else some (.exit 0, [.isz s.n SS s.x, .fn (Fn.func 81) [], .int .i64 s.z, .int .i64 s.l, .int .i64 s.k], [])
noncomputable def Lq48a : Ls Sq48a := ⟨0, decq48a, vsq48a, hpq48a, rndq48a⟩
set_option maxRecDepth 20000 in
theorem Lq48a_ok : Lq48a.Ok := fun vs H s h => by
  have h : decq48a vs H = some s := h
  unfold decq48a at h
  split at h
  · obtain rfl := Option.some.inj h
    exact ⟨rfl, rfl⟩
  · cases h
noncomputable def okq48a (s : Sq48a) : Bool := Lq48a.ok 2 s
noncomputable def outq48a (s : Sq48a) : Sq48a := (Lq48a.end_ s).2
noncomputable def retq48a (s : Sq48a) : Bool := (Lq48a.end_ s).1
noncomputable def finq48a (s : Sq48a) : Tr (Ex × List AV × List Ob) := .node (retq48a s) (.leaf (.ret, vsq48a (outq48a s), hpq48a (outq48a s))) (.leaf (.exit 0, vsq48a (outq48a s), hpq48a (outq48a s)))
noncomputable abbrev fq48as : List AV → List Ob → Tr (Ex × List AV × List Ob) := stF decq48a okq48a finq48a
theorem deq48a (c : Sq48a) : Lq48a.dec (Lq48a.vs c) (Lq48a.hp c) = some c := by kernel_rfl
theorem onq48a {s s1 s2 : Sq48a} {b : Bool} (h : rndq48a s = some (.normal, vsq48a s1, hpq48a s1)) (h2 : Lq48a.To s1 b s2) : Lq48a.To s b s2 := Lq48a.to_on h (deq48a s1) h2
theorem otq48a {s s1 : Sq48a} (h : rndq48a s = some (.exit 0, vsq48a s1, hpq48a s1)) : Lq48a.To s false s1 := Lq48a.to_out h (deq48a s1)
theorem rtq48a {s s1 : Sq48a} (h : rndq48a s = some (.ret, vsq48a s1, hpq48a s1)) : Lq48a.To s true s1 := Lq48a.to_ret h (deq48a s1)
theorem okq48a_of {s s1 : Sq48a} {b : Bool} (h : Lq48a.To s b s1) : okq48a s = true := h.ok Lq48a (m := 2) rfl
theorem outq48a_of {s s1 : Sq48a} {b : Bool} (h : Lq48a.To s b s1) : outq48a s = s1 := congrArg Prod.snd (h.end_ Lq48a)
theorem retq48a_of {s s1 : Sq48a} {b : Bool} (h : Lq48a.To s b s1) : retq48a s = b := congrArg Prod.fst (h.end_ Lq48a)
structure Sq48b where
  n : Nat
  x : Nat → Nat → Dt
  z : Int
  l : Int
  k : Int
abbrev keepq48b : List Nat := [0, 1, 4, 7, 8]
abbrev vsq48b (s : Sq48b) : List AV := [.isz s.n SS s.x, .fn (.func 14) [], .int .i64 s.z, .int .i64 s.l, .int .i64 s.k]
abbrev hpq48b (s : Sq48b) : List Ob := []
noncomputable def decq48b : List AV → List Ob → Option Sq48b
  | [.isz n [.int .i64, .int .i64, .int .i64, .str, .str, .int .i64, .int .i64, .int .i64, .row [.str, .str], .row [.int .i64, .int .i64]] x, .fn (.func 14) [], .int .i64 z, .int .i64 l, .int .i64 k], [] => some ⟨n, x, z, l, k⟩
  | _, _ => none
noncomputable def rndq48b (s : Sq48b) : Option (Ex × List AV × List Ob) :=
  bif decide (s.k < s.l) then bif decide (0 ≤ s.k) && decide (s.k < (s.n : Int)) then bif (s.x s.k.toNat 7).n == 1 then some (.ret, [.isz s.n SS s.x, .fn (Fn.func 14) [], .int .i64 s.k, .int .i64 s.l, .int .i64 s.k], []) else some (.normal, [.isz s.n SS s.x, .fn (Fn.func 14) [], .int .i64 s.z, .int .i64 s.l, .int .i64 (IntKind.i64.wrap (s.k + 1))], []) else none else some (.exit 0, [.isz s.n SS s.x, .fn (Fn.func 14) [], .int .i64 s.z, .int .i64 s.l, .int .i64 s.k], [])
noncomputable def Lq48b : Ls Sq48b := ⟨0, decq48b, vsq48b, hpq48b, rndq48b⟩
set_option maxRecDepth 20000 in
theorem Lq48b_ok : Lq48b.Ok := fun vs H s h => by
  have h : decq48b vs H = some s := h
  unfold decq48b at h
  split at h
  · obtain rfl := Option.some.inj h
    exact ⟨rfl, rfl⟩
  · cases h
noncomputable def okq48b (s : Sq48b) : Bool := Lq48b.ok 2 s
noncomputable def outq48b (s : Sq48b) : Sq48b := (Lq48b.end_ s).2
noncomputable def retq48b (s : Sq48b) : Bool := (Lq48b.end_ s).1
noncomputable def finq48b (s : Sq48b) : Tr (Ex × List AV × List Ob) := .node (retq48b s) (.leaf (.ret, vsq48b (outq48b s), hpq48b (outq48b s))) (.leaf (.exit 0, vsq48b (outq48b s), hpq48b (outq48b s)))
noncomputable abbrev fq48bs : List AV → List Ob → Tr (Ex × List AV × List Ob) := stF decq48b okq48b finq48b
theorem deq48b (c : Sq48b) : Lq48b.dec (Lq48b.vs c) (Lq48b.hp c) = some c := by kernel_rfl
theorem onq48b {s s1 s2 : Sq48b} {b : Bool} (h : rndq48b s = some (.normal, vsq48b s1, hpq48b s1)) (h2 : Lq48b.To s1 b s2) : Lq48b.To s b s2 := Lq48b.to_on h (deq48b s1) h2
theorem otq48b {s s1 : Sq48b} (h : rndq48b s = some (.exit 0, vsq48b s1, hpq48b s1)) : Lq48b.To s false s1 := Lq48b.to_out h (deq48b s1)
theorem rtq48b {s s1 : Sq48b} (h : rndq48b s = some (.ret, vsq48b s1, hpq48b s1)) : Lq48b.To s true s1 := Lq48b.to_ret h (deq48b s1)
theorem okq48b_of {s s1 : Sq48b} {b : Bool} (h : Lq48b.To s b s1) : okq48b s = true := h.ok Lq48b (m := 2) rfl
theorem outq48b_of {s s1 : Sq48b} {b : Bool} (h : Lq48b.To s b s1) : outq48b s = s1 := congrArg Prod.snd (h.end_ Lq48b)
theorem retq48b_of {s s1 : Sq48b} {b : Bool} (h : Lq48b.To s b s1) : retq48b s = b := congrArg Prod.fst (h.end_ Lq48b)
structure Sq49 where
  ti : Int
  n : Nat
  x : Nat → Nat → Dt
  m : Nat
  p : Nat → Nat → Dt
  st : Int
  n2 : Nat
  x2 : Nat → Nat → Dt
  l : Int
  k : Int
abbrev keepq49 : List Nat := [1, 3, 16, 17, 18]
abbrev vsq49 (s : Sq49) : List AV := [.ptr 0 0, .int .i64 s.st, .isz s.n2 SS s.x2, .int .i64 s.l, .int .i64 s.k]
abbrev hpq49 (s : Sq49) : List Ob := [.cells [.int .i64 s.ti, .isz s.n SS s.x, .isz s.m [.int .i64] s.p] 27]
noncomputable def decq49 : List AV → List Ob → Option Sq49
  | [.ptr 0 0, .int .i64 st, .isz n2 [.int .i64, .int .i64, .int .i64, .str, .str, .int .i64, .int .i64, .int .i64, .row [.str, .str], .row [.int .i64, .int .i64]] x2, .int .i64 l, .int .i64 k], [.cells [.int .i64 ti, .isz n [.int .i64, .int .i64, .int .i64, .str, .str, .int .i64, .int .i64, .int .i64, .row [.str, .str], .row [.int .i64, .int .i64]] x, .isz m [.int .i64] p] 27] => some ⟨ti, n, x, m, p, st, n2, x2, l, k⟩
  | _, _ => none
noncomputable def rndq49 (s : Sq49) : Option (Ex × List AV × List Ob) :=
  bif decide (s.k < s.l) then bif decide (0 ≤ s.k) && decide (s.k < (s.n2 : Int)) then some (.normal, [.ptr 0 0, .int .i64 (bif decide ((s.x2 s.k.toNat 5).n < s.st) then (s.x2 s.k.toNat 5).n else s.st), .isz s.n2 SS s.x2, .int .i64 s.l, .int .i64 (IntKind.i64.wrap (s.k + 1))], [.cells [.int .i64 s.ti, .isz s.n SS s.x, .isz s.m [.int .i64] s.p] 27]) else none else some (.exit 0, [.ptr 0 0, .int .i64 s.st, .isz s.n2 SS s.x2, .int .i64 s.l, .int .i64 s.k], [.cells [.int .i64 s.ti, .isz s.n SS s.x, .isz s.m [.int .i64] s.p] 27])
noncomputable def Lq49 : Ls Sq49 := ⟨0, decq49, vsq49, hpq49, rndq49⟩
set_option maxRecDepth 20000 in
theorem Lq49_ok : Lq49.Ok := fun vs H s h => by
  have h : decq49 vs H = some s := h
  unfold decq49 at h
  split at h
  · obtain rfl := Option.some.inj h
    exact ⟨rfl, rfl⟩
  · cases h
noncomputable def okq49 (s : Sq49) : Bool := Lq49.ok 0 s
noncomputable def outq49 (s : Sq49) : Sq49 := (Lq49.end_ s).2
noncomputable def finq49 (s : Sq49) : Tr (Ex × List AV × List Ob) := .leaf (.exit 0, vsq49 (outq49 s), hpq49 (outq49 s))
noncomputable abbrev fq49s : List AV → List Ob → Tr (Ex × List AV × List Ob) := stF decq49 okq49 finq49
theorem deq49 (c : Sq49) : Lq49.dec (Lq49.vs c) (Lq49.hp c) = some c := by kernel_rfl
theorem onq49 {s s1 s2 : Sq49} {b : Bool} (h : rndq49 s = some (.normal, vsq49 s1, hpq49 s1)) (h2 : Lq49.To s1 b s2) : Lq49.To s b s2 := Lq49.to_on h (deq49 s1) h2
theorem otq49 {s s1 : Sq49} (h : rndq49 s = some (.exit 0, vsq49 s1, hpq49 s1)) : Lq49.To s false s1 := Lq49.to_out h (deq49 s1)
theorem okq49_of {s s1 : Sq49} {b : Bool} (h : Lq49.To s b s1) (hb : mdB 0 b = true) : okq49 s = true := h.ok Lq49 (m := 0) hb
theorem outq49_of {s s1 : Sq49} {b : Bool} (h : Lq49.To s b s1) : outq49 s = s1 := congrArg Prod.snd (h.end_ Lq49)
theorem loopq49 (s : Sq49) : evC (β := Ex × List AV × List Ob) Tryz.prog (spOf []) (inlOf []) extD (cKD [] []) ((fun _ => .sum keepq49 fq49s)) (bodyOf Tryz.prog 49 0) ⟨mkF Tryz.f49.ntmps keepq49 (vsq49 s), hpq49 s⟩ (fun e st => (cutBack keepq49 1 st).map fun q => (e, q.1, q.2)) = rndq49 s := by kernel_rfl
theorem sumq49 : LoopOkT Tryz.prog (spOf []) (inlOf []) extD (cKD [] []) (fun _ => .sum keepq49 fq49s) Tryz.f49.ntmps (bodyOf Tryz.prog 49 0) (.sum keepq49 fq49s) := by
  dsimp only [LoopOkT]
  exact ⟨by decide, by decide, sum_ls Lq49 0 Lq49_ok loopq49⟩
structure Sq15 where
  ti : Int
  n : Nat
  x : Nat → Nat → Dt
  m : Nat
  p : Nat → Nat → Dt
  st : Int
  n2 : Nat
  x2 : Nat → Nat → Dt
  l : Int
  k : Int
abbrev keepq15 : List Nat := [1, 3, 16, 17, 18]
abbrev vsq15 (s : Sq15) : List AV := [.ptr 0 0, .int .i64 s.st, .isz s.n2 SS s.x2, .int .i64 s.l, .int .i64 s.k]
abbrev hpq15 (s : Sq15) : List Ob := [.cells [.int .i64 s.ti, .isz s.n SS s.x, .isz s.m [.int .i64] s.p] 27]
noncomputable def decq15 : List AV → List Ob → Option Sq15
  | [.ptr 0 0, .int .i64 st, .isz n2 [.int .i64, .int .i64, .int .i64, .str, .str, .int .i64, .int .i64, .int .i64, .row [.str, .str], .row [.int .i64, .int .i64]] x2, .int .i64 l, .int .i64 k], [.cells [.int .i64 ti, .isz n [.int .i64, .int .i64, .int .i64, .str, .str, .int .i64, .int .i64, .int .i64, .row [.str, .str], .row [.int .i64, .int .i64]] x, .isz m [.int .i64] p] 27] => some ⟨ti, n, x, m, p, st, n2, x2, l, k⟩
  | _, _ => none
noncomputable def rndq15 (s : Sq15) : Option (Ex × List AV × List Ob) :=
  bif decide (s.k < s.l) then bif decide (0 ≤ s.k) && decide (s.k < (s.n2 : Int)) then some (.normal, [.ptr 0 0, .int .i64 (bif decide ((s.x2 s.k.toNat 6).n > s.st) then (s.x2 s.k.toNat 6).n else s.st), .isz s.n2 SS s.x2, .int .i64 s.l, .int .i64 (IntKind.i64.wrap (s.k + 1))], [.cells [.int .i64 s.ti, .isz s.n SS s.x, .isz s.m [.int .i64] s.p] 27]) else none else some (.exit 0, [.ptr 0 0, .int .i64 s.st, .isz s.n2 SS s.x2, .int .i64 s.l, .int .i64 s.k], [.cells [.int .i64 s.ti, .isz s.n SS s.x, .isz s.m [.int .i64] s.p] 27])
noncomputable def Lq15 : Ls Sq15 := ⟨0, decq15, vsq15, hpq15, rndq15⟩
set_option maxRecDepth 20000 in
theorem Lq15_ok : Lq15.Ok := fun vs H s h => by
  have h : decq15 vs H = some s := h
  unfold decq15 at h
  split at h
  · obtain rfl := Option.some.inj h
    exact ⟨rfl, rfl⟩
  · cases h
noncomputable def okq15 (s : Sq15) : Bool := Lq15.ok 0 s
noncomputable def outq15 (s : Sq15) : Sq15 := (Lq15.end_ s).2
noncomputable def finq15 (s : Sq15) : Tr (Ex × List AV × List Ob) := .leaf (.exit 0, vsq15 (outq15 s), hpq15 (outq15 s))
noncomputable abbrev fq15s : List AV → List Ob → Tr (Ex × List AV × List Ob) := stF decq15 okq15 finq15
theorem deq15 (c : Sq15) : Lq15.dec (Lq15.vs c) (Lq15.hp c) = some c := by kernel_rfl
theorem onq15 {s s1 s2 : Sq15} {b : Bool} (h : rndq15 s = some (.normal, vsq15 s1, hpq15 s1)) (h2 : Lq15.To s1 b s2) : Lq15.To s b s2 := Lq15.to_on h (deq15 s1) h2
theorem otq15 {s s1 : Sq15} (h : rndq15 s = some (.exit 0, vsq15 s1, hpq15 s1)) : Lq15.To s false s1 := Lq15.to_out h (deq15 s1)
theorem okq15_of {s s1 : Sq15} {b : Bool} (h : Lq15.To s b s1) (hb : mdB 0 b = true) : okq15 s = true := h.ok Lq15 (m := 0) hb
theorem outq15_of {s s1 : Sq15} {b : Bool} (h : Lq15.To s b s1) : outq15 s = s1 := congrArg Prod.snd (h.end_ Lq15)
structure Sq78 where
  n : Nat
  x : Nat → Nat → Dt
  m : Nat
  y : Nat → Nat → Dt
  z : Bool
  l : Int
  k : Int
abbrev keepq78 : List Nat := [0, 1, 4, 12, 13]
abbrev vsq78 (s : Sq78) : List AV := [.isz s.n [.int .i64] s.x, .isz s.m [.int .i64] s.y, .bool s.z, .int .i64 s.l, .int .i64 s.k]
abbrev hpq78 (s : Sq78) : List Ob := []
noncomputable def decq78 : List AV → List Ob → Option Sq78
  | [.isz n [.int .i64] x, .isz m [.int .i64] y, .bool z, .int .i64 l, .int .i64 k], [] => some ⟨n, x, m, y, z, l, k⟩
  | _, _ => none
noncomputable def rndq78 (s : Sq78) : Option (Ex × List AV × List Ob) :=
  bif decide (s.k < s.l) then bif decide (0 ≤ s.k) && decide (s.k < (s.n : Int)) then bif decide (0 ≤ s.k) && decide (s.k < (s.m : Int)) then bif (s.x s.k.toNat 0).n != (s.y s.k.toNat 0).n then some (.ret, [.isz s.n [.int .i64] s.x, .isz s.m [.int .i64] s.y, .bool false, .int .i64 s.l, .int .i64 s.k], []) else some (.normal, [.isz s.n [.int .i64] s.x, .isz s.m [.int .i64] s.y, .bool s.z, .int .i64 s.l, .int .i64 (IntKind.i64.wrap (s.k + 1))], []) else none else none else some (.exit 0, [.isz s.n [.int .i64] s.x, .isz s.m [.int .i64] s.y, .bool s.z, .int .i64 s.l, .int .i64 s.k], [])
noncomputable def Lq78 : Ls Sq78 := ⟨0, decq78, vsq78, hpq78, rndq78⟩
set_option maxRecDepth 20000 in
theorem Lq78_ok : Lq78.Ok := fun vs H s h => by
  have h : decq78 vs H = some s := h
  unfold decq78 at h
  split at h
  · obtain rfl := Option.some.inj h
    exact ⟨rfl, rfl⟩
  · cases h
noncomputable def okq78 (s : Sq78) : Bool := Lq78.ok 2 s
noncomputable def outq78 (s : Sq78) : Sq78 := (Lq78.end_ s).2
noncomputable def retq78 (s : Sq78) : Bool := (Lq78.end_ s).1
noncomputable def finq78 (s : Sq78) : Tr (Ex × List AV × List Ob) := .node (retq78 s) (.leaf (.ret, vsq78 (outq78 s), hpq78 (outq78 s))) (.leaf (.exit 0, vsq78 (outq78 s), hpq78 (outq78 s)))
noncomputable abbrev fq78s : List AV → List Ob → Tr (Ex × List AV × List Ob) := stF decq78 okq78 finq78
theorem deq78 (c : Sq78) : Lq78.dec (Lq78.vs c) (Lq78.hp c) = some c := by kernel_rfl
theorem onq78 {s s1 s2 : Sq78} {b : Bool} (h : rndq78 s = some (.normal, vsq78 s1, hpq78 s1)) (h2 : Lq78.To s1 b s2) : Lq78.To s b s2 := Lq78.to_on h (deq78 s1) h2
theorem otq78 {s s1 : Sq78} (h : rndq78 s = some (.exit 0, vsq78 s1, hpq78 s1)) : Lq78.To s false s1 := Lq78.to_out h (deq78 s1)
theorem rtq78 {s s1 : Sq78} (h : rndq78 s = some (.ret, vsq78 s1, hpq78 s1)) : Lq78.To s true s1 := Lq78.to_ret h (deq78 s1)
theorem okq78_of {s s1 : Sq78} {b : Bool} (h : Lq78.To s b s1) : okq78 s = true := h.ok Lq78 (m := 2) rfl
theorem outq78_of {s s1 : Sq78} {b : Bool} (h : Lq78.To s b s1) : outq78 s = s1 := congrArg Prod.snd (h.end_ Lq78)
theorem retq78_of {s s1 : Sq78} {b : Bool} (h : Lq78.To s b s1) : retq78 s = b := congrArg Prod.fst (h.end_ Lq78)
theorem loopq78 (s : Sq78) : evC (β := Ex × List AV × List Ob) Tryz.prog (spOf []) (inlOf []) extD (cKD [] []) ((fun _ => .sum keepq78 fq78s)) (bodyOf Tryz.prog 78 0) ⟨mkF Tryz.f78.ntmps keepq78 (vsq78 s), hpq78 s⟩ (fun e st => (cutBack keepq78 0 st).map fun q => (e, q.1, q.2)) = rndq78 s := by kernel_rfl
theorem sumq78 : LoopOkT Tryz.prog (spOf []) (inlOf []) extD (cKD [] []) (fun _ => .sum keepq78 fq78s) Tryz.f78.ntmps (bodyOf Tryz.prog 78 0) (.sum keepq78 fq78s) := by
  dsimp only [LoopOkT]
  exact ⟨by decide, by decide, sum_ls Lq78 2 Lq78_ok loopq78⟩
structure Sq120 where
  n : Nat
  x : Nat → Nat → Dt
  m : Nat
  y : Nat → Nat → Dt
  z : Bool
  l : Int
  k : Int
abbrev keepq120 : List Nat := [0, 1, 4, 12, 13]
abbrev vsq120 (s : Sq120) : List AV := [.isz s.n [.int .i64, .int .i64] s.x, .isz s.m [.int .i64, .int .i64] s.y, .bool s.z, .int .i64 s.l, .int .i64 s.k]
abbrev hpq120 (s : Sq120) : List Ob := []
noncomputable def decq120 : List AV → List Ob → Option Sq120
  | [.isz n [.int .i64, .int .i64] x, .isz m [.int .i64, .int .i64] y, .bool z, .int .i64 l, .int .i64 k], [] => some ⟨n, x, m, y, z, l, k⟩
  | _, _ => none
noncomputable def rndq120 (s : Sq120) : Option (Ex × List AV × List Ob) :=
  bif decide (s.k < s.l) then bif decide (0 ≤ s.k) && decide (s.k < (s.n : Int)) then bif decide (0 ≤ s.k) && decide (s.k < (s.m : Int)) then bif !((s.x s.k.toNat 0).n == (s.y s.k.toNat 0).n && ((s.x s.k.toNat 1).n == (s.y s.k.toNat 1).n && true)) then some (.ret, [.isz s.n [.int .i64, .int .i64] s.x, .isz s.m [.int .i64, .int .i64] s.y, .bool false, .int .i64 s.l, .int .i64 s.k], []) else some (.normal, [.isz s.n [.int .i64, .int .i64] s.x, .isz s.m [.int .i64, .int .i64] s.y, .bool s.z, .int .i64 s.l, .int .i64 (IntKind.i64.wrap (s.k + 1))], []) else none else none else some (.exit 0, [.isz s.n [.int .i64, .int .i64] s.x, .isz s.m [.int .i64, .int .i64] s.y, .bool s.z, .int .i64 s.l, .int .i64 s.k], [])
noncomputable def Lq120 : Ls Sq120 := ⟨0, decq120, vsq120, hpq120, rndq120⟩
set_option maxRecDepth 20000 in
theorem Lq120_ok : Lq120.Ok := fun vs H s h => by
  have h : decq120 vs H = some s := h
  unfold decq120 at h
  split at h
  · obtain rfl := Option.some.inj h
    exact ⟨rfl, rfl⟩
  · cases h
noncomputable def okq120 (s : Sq120) : Bool := Lq120.ok 2 s
noncomputable def outq120 (s : Sq120) : Sq120 := (Lq120.end_ s).2
noncomputable def retq120 (s : Sq120) : Bool := (Lq120.end_ s).1
noncomputable def finq120 (s : Sq120) : Tr (Ex × List AV × List Ob) := .node (retq120 s) (.leaf (.ret, vsq120 (outq120 s), hpq120 (outq120 s))) (.leaf (.exit 0, vsq120 (outq120 s), hpq120 (outq120 s)))
noncomputable abbrev fq120s : List AV → List Ob → Tr (Ex × List AV × List Ob) := stF decq120 okq120 finq120
theorem deq120 (c : Sq120) : Lq120.dec (Lq120.vs c) (Lq120.hp c) = some c := by kernel_rfl
theorem onq120 {s s1 s2 : Sq120} {b : Bool} (h : rndq120 s = some (.normal, vsq120 s1, hpq120 s1)) (h2 : Lq120.To s1 b s2) : Lq120.To s b s2 := Lq120.to_on h (deq120 s1) h2
theorem otq120 {s s1 : Sq120} (h : rndq120 s = some (.exit 0, vsq120 s1, hpq120 s1)) : Lq120.To s false s1 := Lq120.to_out h (deq120 s1)
theorem rtq120 {s s1 : Sq120} (h : rndq120 s = some (.ret, vsq120 s1, hpq120 s1)) : Lq120.To s true s1 := Lq120.to_ret h (deq120 s1)
theorem okq120_of {s s1 : Sq120} {b : Bool} (h : Lq120.To s b s1) : okq120 s = true := h.ok Lq120 (m := 2) rfl
theorem outq120_of {s s1 : Sq120} {b : Bool} (h : Lq120.To s b s1) : outq120 s = s1 := congrArg Prod.snd (h.end_ Lq120)
theorem retq120_of {s s1 : Sq120} {b : Bool} (h : Lq120.To s b s1) : retq120 s = b := congrArg Prod.fst (h.end_ Lq120)
theorem loopq120 (s : Sq120) : evC (β := Ex × List AV × List Ob) Tryz.prog (spOf []) (inlOf []) extD (cKD [] []) ((fun _ => .sum keepq120 fq120s)) (bodyOf Tryz.prog 120 0) ⟨mkF Tryz.f120.ntmps keepq120 (vsq120 s), hpq120 s⟩ (fun e st => (cutBack keepq120 0 st).map fun q => (e, q.1, q.2)) = rndq120 s := by kernel_rfl
theorem sumq120 : LoopOkT Tryz.prog (spOf []) (inlOf []) extD (cKD [] []) (fun _ => .sum keepq120 fq120s) Tryz.f120.ntmps (bodyOf Tryz.prog 120 0) (.sum keepq120 fq120s) := by
  dsimp only [LoopOkT]
  exact ⟨by decide, by decide, sum_ls Lq120 2 Lq120_ok loopq120⟩
theorem lxq152 : (mkCx Tryz.prog (spOf []) (inlOf [181]) extD).Ok InvD := cx_of [181] (by kernel_rfl) (fun p hp => by cases hp)
theorem vtq152 (a b : ByteArray) : evFn (β := Res) Tryz.prog (spOf []) (inlOf [181]) extD (cKD [] [181]) (fun _ => .unroll 0) Tryz.f152 [.str a, .str b] [] (fun r _ => some r) =
    (bif !a.toList == a.toList then bif !b.toList == b.toList then some (.ret (.int .i64 0)) else some (.ret (.int .i64 (-1))) else bif !b.toList == b.toList then some (.ret (.int .i64 1)) else bif Op.bytesLess a.toList b.toList then some (.ret (.int .i64 (-1))) else bif !(Op.bytesLess a.toList b.toList || a.toList == b.toList) then some (.ret (.int .i64 1)) else some (.ret (.int .i64 0)) : Option Res) := by kernel_rfl
noncomputable def tq152 : Ent := ⟨152, fun
  | [.str a, .str b] => .leaf (.ret (.int .i64 (txI a b)))
  | _ => .non⟩
set_option maxRecDepth 20000 in
theorem tq152_ok : SpecHolds Tryz.prog InvD 152 fun a => (tq152.2 a).run := by
  refine specD lxq152 Tryz.func152 (c := codeOf Tryz.prog 152) (by kernel_rfl) (fun _ => .unroll 0) (fun _ _ => trivial) fun args r hh => ?_
  unfold tq152 at hh
  simp only at hh
  split at hh
  · rename_i a b
    refine ⟨by kernel_rfl, tr_ok (by rfl) hh, ?_⟩
    refine (vtq152 a b).trans (Eq.trans ?_ hh)
    have ea : (a.toList == a.toList) = true := by simp
    have eb : (b.toList == b.toList) = true := by simp
    simp only [ea, eb, Bool.not_true, cond_false, Tr.run, txI]
    rw [show (Op.bytesLess a.toList b.toList || a.toList == b.toList) = leS a b from rfl]
    cases Op.bytesLess a.toList b.toList <;> cases leS a b <;> rfl
  · simp [Tr.run] at hh
open Go.Evl Go.RowKit
theorem i64n (k : Nat) (h : k ≤ 1000000) : IntKind.i64.wrap ((k : Int) + 1) = ((k + 1 : Nat) : Int) := by rw [wrapI (by omega) (by omega)]; rfl
theorem ixT {k n : Nat} (h : k < n) : (decide (0 ≤ (k : Int)) && decide ((k : Int) < (n : Int))) = true := by rw [decide_eq_true (by omega), decide_eq_true (by omega)]; rfl
def qmnF (x : Nat → Nat → Dt) (c : Nat) : Nat → Nat → Int → Int
  | 0, _, s => s
  | f + 1, i, s => qmnF x c f (i + 1) (bif decide ((x i c).n < s) then (x i c).n else s)
def qmxF (x : Nat → Nat → Dt) (c : Nat) : Nat → Nat → Int → Int
  | 0, _, s => s
  | f + 1, i, s => qmxF x c f (i + 1) (bif decide ((x i c).n > s) then (x i c).n else s)
def stI (n : Nat) (x : Nat → Nat → Dt) : Int := bif (n : Int) == 0 then 0 else qmnF x 5 n 0 (x 0 5).n
def duI (n : Nat) (x : Nat → Nat → Dt) : Int := bif (n : Int) == 0 then 0 else IntKind.i64.wrap (qmxF x 6 n 0 (x 0 6).n - stI n x)
theorem toq49 {ti : Int} {n : Nat} {x : Nat → Nat → Dt} {m : Nat} {p : Nat → Nat → Dt} (hn : n ≤ 1000000) : ∀ (d k : Nat) (s : Int), k + d = n →
    Lq49.To ⟨ti, n, x, m, p, s, n, x, (n : Int), (k : Int)⟩ false ⟨ti, n, x, m, p, qmnF x 5 d k s, n, x, (n : Int), (n : Int)⟩
  | 0, k, s, h => by
    obtain rfl : k = n := by omega
    refine otq49 ?_
    simp only [rndq49]
    rw [condF (decide_eq_false (by omega))]
    rfl
  | d + 1, k, s, h => by
    refine onq49 ?_ (toq49 hn d (k + 1) _ (by omega))
    simp only [rndq49, Int.toNat_natCast]
    rw [condT (decide_eq_true (by omega)), condT (ixT (by omega)), i64n k (by omega)]
theorem toq15 {ti : Int} {n : Nat} {x : Nat → Nat → Dt} {m : Nat} {p : Nat → Nat → Dt} (hn : n ≤ 1000000) : ∀ (d k : Nat) (s : Int), k + d = n →
    Lq15.To ⟨ti, n, x, m, p, s, n, x, (n : Int), (k : Int)⟩ false ⟨ti, n, x, m, p, qmxF x 6 d k s, n, x, (n : Int), (n : Int)⟩
  | 0, k, s, h => by
    obtain rfl : k = n := by omega
    refine otq15 ?_
    simp only [rndq15]
    rw [condF (decide_eq_false (by omega))]
    rfl
  | d + 1, k, s, h => by
    refine onq15 ?_ (toq15 hn d (k + 1) _ (by omega))
    simp only [rndq15, Int.toNat_natCast]
    rw [condT (decide_eq_true (by omega)), condT (ixT (by omega)), i64n k (by omega)]
theorem vtq49 (ti : Int) (n : Nat) (x : Nat → Nat → Dt) (m : Nat) (p : Nat → Nat → Dt) : evFn (β := Res) Tryz.prog (spOf []) (inlOf []) extD (cKD [] []) (fun _ => .sum keepq49 fq49s) Tryz.f49 [.agg [.int .i64 ti, .isz n SS x, .isz m [.int .i64] p]] [] (fun r _ => some r) =
    (bif (n : Int) == 0 then some (.ret (.int .i64 0)) else bif true && decide (0 < (n : Int)) then bif okq49 { ti := ti, n := n, x := x, m := m, p := p, st := (x (Int.toNat 0) 5).n, n2 := n, x2 := x, l := (n : Int), k := 0 } then some (.ret (.int .i64 (outq49 { ti := ti, n := n, x := x, m := m, p := p, st := (x (Int.toNat 0) 5).n, n2 := n, x2 := x, l := (n : Int), k := 0 }).6)) else none else none : Option Res) := by kernel_rfl
noncomputable def tq49 : Ent := ⟨49, fun
  | [.agg [.int .i64 ti, .isz n [.int .i64, .int .i64, .int .i64, .str, .str, .int .i64, .int .i64, .int .i64, .row [.str, .str], .row [.int .i64, .int .i64]] x, .isz m [.int .i64] p]] => .chk (Nat.ble n 1000000) (.leaf (.ret (.int .i64 (stI n x))))
  | _ => .non⟩
set_option maxRecDepth 20000 in
theorem tq49_ok : SpecHolds Tryz.prog InvD 49 fun a => (tq49.2 a).run := by
  refine specD cx0 Tryz.func49 (c := codeOf Tryz.prog 49) (by kernel_rfl) (fun _ => .sum keepq49 fq49s) (fun p hp => by
    have hl : loops (codeOf Tryz.prog 49) = [(0, bodyOf Tryz.prog 49 0)] := by kernel_rfl
    rw [hl] at hp
    simp only [List.mem_cons, List.not_mem_nil, or_false] at hp
    rcases hp with rfl
    · exact sumq49) fun args r hh => ?_
  unfold tq49 at hh
  simp only at hh
  split at hh
  · rename_i ti n x m p
    obtain ⟨hg, hh⟩ := chk_run hh
    refine ⟨by kernel_rfl, tr_ok (by rfl) hh, ?_⟩
    refine (vtq49 ti n x m p).trans (Eq.trans ?_ hh)
    have hn : n ≤ 1000000 := by simpa using hg
    unfold stI
    cases h0 : (n : Int) == 0 with
    | true => rfl
    | false =>
      have hp : 0 < n := by
        have := beq_eq_false_iff_ne.1 h0
        omega
      have ht := toq49 (ti := ti) (x := x) (m := m) (p := p) hn n 0 (x 0 5).n (by omega)
      rw [show ((0 : Nat) : Int) = 0 from rfl] at ht
      simp only [cond_false]
      rw [show Int.toNat 0 = 0 from rfl, condT (show (true && decide (0 < (n : Int))) = true by rw [decide_eq_true (by omega)]; rfl), condT (okq49_of ht rfl), outq49_of ht]
      rfl
  · simp [Tr.run] at hh
theorem lxq15 : (mkCx Tryz.prog (spOf [tq49]) (inlOf []) extD).Ok InvD := cx_of [] (by kernel_rfl) (by
  intro p hp
  simp only [List.mem_cons, List.not_mem_nil, or_false] at hp
  rcases hp with rfl
  · exact tq49_ok)
theorem sumq15 : LoopOkT Tryz.prog (spOf [tq49]) (inlOf []) extD (cKD [tq49] []) (fun _ => .sum keepq15 fq15s) Tryz.f15.ntmps (bodyOf Tryz.prog 15 0) (.sum keepq15 fq15s) := by
  dsimp only [LoopOkT]
  exact ⟨by decide, by decide, sum_ls Lq15 0 Lq15_ok fun s => by kernel_rfl⟩
theorem vtq15 (ti : Int) (n : Nat) (x : Nat → Nat → Dt) (m : Nat) (p : Nat → Nat → Dt) : evFn (β := Res) Tryz.prog (spOf [tq49]) (inlOf []) extD (cKD [tq49] []) (fun _ => .sum keepq15 fq15s) Tryz.f15 [.agg [.int .i64 ti, .isz n SS x, .isz m [.int .i64] p]] [] (fun r _ => some r) =
    (bif (n : Int) == 0 then some (.ret (.int .i64 0)) else bif true && decide (0 < (n : Int)) then bif okq15 { ti := ti, n := n, x := x, m := m, p := p, st := (x (Int.toNat 0) 6).n, n2 := n, x2 := x, l := (n : Int), k := 0 } then bif (outq15 { ti := ti, n := n, x := x, m := m, p := p, st := (x (Int.toNat 0) 6).n, n2 := n, x2 := x, l := (n : Int), k := 0 }).2.ble 1000000 then some (.ret (.int .i64 (IntKind.i64.wrap ((outq15 { ti := ti, n := n, x := x, m := m, p := p, st := (x (Int.toNat 0) 6).n, n2 := n, x2 := x, l := (n : Int), k := 0 }).6 - stI (outq15 { ti := ti, n := n, x := x, m := m, p := p, st := (x (Int.toNat 0) 6).n, n2 := n, x2 := x, l := (n : Int), k := 0 }).2 (outq15 { ti := ti, n := n, x := x, m := m, p := p, st := (x (Int.toNat 0) 6).n, n2 := n, x2 := x, l := (n : Int), k := 0 }).x)))) else none else none else none : Option Res) := by kernel_rfl
noncomputable def tq15 : Ent := ⟨15, fun
  | [.agg [.int .i64 ti, .isz n [.int .i64, .int .i64, .int .i64, .str, .str, .int .i64, .int .i64, .int .i64, .row [.str, .str], .row [.int .i64, .int .i64]] x, .isz m [.int .i64] p]] => .chk (Nat.ble n 1000000) (.leaf (.ret (.int .i64 (duI n x))))
  | _ => .non⟩
set_option maxRecDepth 20000 in
theorem tq15_ok : SpecHolds Tryz.prog InvD 15 fun a => (tq15.2 a).run := by
  refine specD lxq15 Tryz.func15 (c := codeOf Tryz.prog 15) (by kernel_rfl) (fun _ => .sum keepq15 fq15s) (fun p hp => by
    have hl : loops (codeOf Tryz.prog 15) = [(0, bodyOf Tryz.prog 15 0)] := by kernel_rfl
    rw [hl] at hp
    simp only [List.mem_cons, List.not_mem_nil, or_false] at hp
    rcases hp with rfl
    · exact sumq15) fun args r hh => ?_
  unfold tq15 at hh
  simp only at hh
  split at hh
  · rename_i ti n x m p
    obtain ⟨hg, hh⟩ := chk_run hh
    refine ⟨by kernel_rfl, tr_ok (by rfl) hh, ?_⟩
    refine (vtq15 ti n x m p).trans (Eq.trans ?_ hh)
    have hn : n ≤ 1000000 := by simpa using hg
    unfold duI
    cases h0 : (n : Int) == 0 with
    | true => rfl
    | false =>
      have hp : 0 < n := by
        have := beq_eq_false_iff_ne.1 h0
        omega
      have ht := toq15 (ti := ti) (x := x) (m := m) (p := p) hn n 0 (x 0 6).n (by omega)
      rw [show ((0 : Nat) : Int) = 0 from rfl] at ht
      simp only [cond_false]
      rw [show Int.toNat 0 = 0 from rfl, condT (show (true && decide (0 < (n : Int))) = true by rw [decide_eq_true (by omega)]; rfl), condT (okq15_of ht rfl), outq15_of ht, condT (show n.ble 1000000 = true from hg)]
      rfl
  · simp [Tr.run] at hh
def InEq (n : Nat) (x : Nat → Nat → Dt) (m : Nat) (y : Nat → Nat → Dt) : Prop := n = m ∧ ∀ k, k < n → (x k 0).n = (y k 0).n
def LkEq (n : Nat) (x : Nat → Nat → Dt) (m : Nat) (y : Nat → Nat → Dt) : Prop := n = m ∧ ∀ k, k < n → (x k 0).n = (y k 0).n ∧ (x k 1).n = (y k 1).n
theorem cdq78 {x y : Nat → Nat → Dt} {k : Nat} : (((x k 0).n != (y k 0).n) = false ↔ (x k 0).n = (y k 0).n) := by simp
theorem toq78 {n : Nat} {x : Nat → Nat → Dt} {y : Nat → Nat → Dt} {z : Bool} (hn : n ≤ 1000000) : ((∀ k, 0 ≤ k → k < n → (x k 0).n = (y k 0).n) ∧ Lq78.To ⟨n, x, n, y, z, (n : Int), ((0 : Nat) : Int)⟩ false ⟨n, x, n, y, z, (n : Int), (n : Int)⟩) ∨
    ∃ k, 0 ≤ k ∧ k < n ∧ ¬ ((x k 0).n = (y k 0).n) ∧ (∀ j, 0 ≤ j → j < k → (fun k => (x k 0).n = (y k 0).n) j) ∧ Lq78.To ⟨n, x, n, y, z, (n : Int), ((0 : Nat) : Int)⟩ true ⟨n, x, n, y, false, (n : Int), (k : Int)⟩ := by
  refine Lq78.to_scan (fun k => ⟨n, x, n, y, z, (n : Int), (k : Int)⟩) (fun k => ⟨n, x, n, y, false, (n : Int), (k : Int)⟩) (fun k => (x k 0).n = (y k 0).n) (fun k s2 b hk hp h => onq78 ?_ h) (fun k hk hp => rtq78 ?_) (otq78 ?_) n 0 (by omega)
  · simp only [rndq78, Int.toNat_natCast]
    rw [condT (decide_eq_true (by omega)), condT (ixT hk), condT (ixT hk), condF (cdq78.2 hp), i64n k (by omega)]
  · simp only [rndq78, Int.toNat_natCast]
    rw [condT (decide_eq_true (by omega)), condT (ixT hk), condT (ixT hk), condT (Bool.not_eq_false _ ▸ fun z => hp (cdq78.1 z))]
  · simp only [rndq78, Int.toNat_natCast]
    rw [condF (decide_eq_false (by omega))]
theorem vtq78 (n : Nat) (x : Nat → Nat → Dt) (m : Nat) (y : Nat → Nat → Dt) : evFn (β := Res) Tryz.prog (spOf []) (inlOf []) extD (cKD [] []) (fun _ => .sum keepq78 fq78s) Tryz.f78 [.isz n [.int .i64] x, .isz m [.int .i64] y] [] (fun r _ => some r) =
    (bif (n : Int) != (m : Int) then some (.ret (.bool false)) else bif okq78 { n := n, x := x, m := m, y := y, z := false, l := (n : Int), k := 0 } then bif retq78 { n := n, x := x, m := m, y := y, z := false, l := (n : Int), k := 0 } then some (.ret (.bool (outq78 { n := n, x := x, m := m, y := y, z := false, l := (n : Int), k := 0 }).5)) else some (.ret (.bool true)) else none : Option Res) := by kernel_rfl
noncomputable def tq78 : Ent := ⟨78, fun
  | [.isz n [.int .i64] x, .isz m [.int .i64] y] => .chk (Nat.ble n 1000000) (.leaf (.ret (.bool (clB (InEq n x m y)))))
  | _ => .non⟩
set_option maxRecDepth 20000 in
theorem tq78_ok : SpecHolds Tryz.prog InvD 78 fun a => (tq78.2 a).run := by
  refine specD cx0 Tryz.func78 (c := codeOf Tryz.prog 78) (by kernel_rfl) (fun _ => .sum keepq78 fq78s) (fun p hp => by
    have hl : loops (codeOf Tryz.prog 78) = [(0, bodyOf Tryz.prog 78 0)] := by kernel_rfl
    rw [hl] at hp
    simp only [List.mem_cons, List.not_mem_nil, or_false] at hp
    rcases hp with rfl
    · exact sumq78) fun args r hh => ?_
  unfold tq78 at hh
  simp only at hh
  split at hh
  · rename_i n x m y
    obtain ⟨hg, hh⟩ := chk_run hh
    refine ⟨by kernel_rfl, tr_ok (by rfl) hh, ?_⟩
    refine (vtq78 n x m y).trans (Eq.trans ?_ hh)
    have hn : n ≤ 1000000 := by simpa using hg
    cases h0 : (n : Int) != (m : Int) with
    | true =>
      rw [clB_false (show ¬ InEq n x m y from fun z => by have := bne_iff_ne.1 h0; exact this (by rw [z.1]))]
      rfl
    | false =>
      obtain rfl : n = m := by
        have := bne_eq_false_iff_eq.1 h0
        omega
      simp only [cond_false]
      rcases toq78 (x := x) (y := y) (z := false) hn with ⟨h1, h2⟩ | ⟨k, _, hk, h1, _, h2⟩
      · rw [show ((0 : Nat) : Int) = 0 from rfl] at h2
        rw [condT (okq78_of h2), retq78_of h2, clB_true (show InEq n x n y from ⟨rfl, fun k hk => h1 k (Nat.zero_le _) hk⟩)]
        rfl
      · rw [show ((0 : Nat) : Int) = 0 from rfl] at h2
        rw [condT (okq78_of h2), retq78_of h2, outq78_of h2, clB_false (show ¬ InEq n x n y from fun z => h1 (z.2 k hk))]
        rfl
  · simp [Tr.run] at hh
theorem cdq120 {x y : Nat → Nat → Dt} {k : Nat} : ((!((x k 0).n == (y k 0).n && ((x k 1).n == (y k 1).n && true))) = false ↔ (x k 0).n = (y k 0).n ∧ (x k 1).n = (y k 1).n) := by simp
theorem toq120 {n : Nat} {x : Nat → Nat → Dt} {y : Nat → Nat → Dt} {z : Bool} (hn : n ≤ 1000000) : ((∀ k, 0 ≤ k → k < n → (x k 0).n = (y k 0).n ∧ (x k 1).n = (y k 1).n) ∧ Lq120.To ⟨n, x, n, y, z, (n : Int), ((0 : Nat) : Int)⟩ false ⟨n, x, n, y, z, (n : Int), (n : Int)⟩) ∨
    ∃ k, 0 ≤ k ∧ k < n ∧ ¬ ((x k 0).n = (y k 0).n ∧ (x k 1).n = (y k 1).n) ∧ (∀ j, 0 ≤ j → j < k → (fun k => (x k 0).n = (y k 0).n ∧ (x k 1).n = (y k 1).n) j) ∧ Lq120.To ⟨n, x, n, y, z, (n : Int), ((0 : Nat) : Int)⟩ true ⟨n, x, n, y, false, (n : Int), (k : Int)⟩ := by
  refine Lq120.to_scan (fun k => ⟨n, x, n, y, z, (n : Int), (k : Int)⟩) (fun k => ⟨n, x, n, y, false, (n : Int), (k : Int)⟩) (fun k => (x k 0).n = (y k 0).n ∧ (x k 1).n = (y k 1).n) (fun k s2 b hk hp h => onq120 ?_ h) (fun k hk hp => rtq120 ?_) (otq120 ?_) n 0 (by omega)
  · simp only [rndq120, Int.toNat_natCast]
    rw [condT (decide_eq_true (by omega)), condT (ixT hk), condT (ixT hk), condF (cdq120.2 hp), i64n k (by omega)]
  · simp only [rndq120, Int.toNat_natCast]
    rw [condT (decide_eq_true (by omega)), condT (ixT hk), condT (ixT hk), condT (Bool.not_eq_false _ ▸ fun z => hp (cdq120.1 z))]
  · simp only [rndq120, Int.toNat_natCast]
    rw [condF (decide_eq_false (by omega))]
theorem vtq120 (n : Nat) (x : Nat → Nat → Dt) (m : Nat) (y : Nat → Nat → Dt) : evFn (β := Res) Tryz.prog (spOf []) (inlOf []) extD (cKD [] []) (fun _ => .sum keepq120 fq120s) Tryz.f120 [.isz n [.int .i64, .int .i64] x, .isz m [.int .i64, .int .i64] y] [] (fun r _ => some r) =
    (bif (n : Int) != (m : Int) then some (.ret (.bool false)) else bif okq120 { n := n, x := x, m := m, y := y, z := false, l := (n : Int), k := 0 } then bif retq120 { n := n, x := x, m := m, y := y, z := false, l := (n : Int), k := 0 } then some (.ret (.bool (outq120 { n := n, x := x, m := m, y := y, z := false, l := (n : Int), k := 0 }).5)) else some (.ret (.bool true)) else none : Option Res) := by kernel_rfl
noncomputable def tq120 : Ent := ⟨120, fun
  | [.isz n [.int .i64, .int .i64] x, .isz m [.int .i64, .int .i64] y] => .chk (Nat.ble n 1000000) (.leaf (.ret (.bool (clB (LkEq n x m y)))))
  | _ => .non⟩
set_option maxRecDepth 20000 in
theorem tq120_ok : SpecHolds Tryz.prog InvD 120 fun a => (tq120.2 a).run := by
  refine specD cx0 Tryz.func120 (c := codeOf Tryz.prog 120) (by kernel_rfl) (fun _ => .sum keepq120 fq120s) (fun p hp => by
    have hl : loops (codeOf Tryz.prog 120) = [(0, bodyOf Tryz.prog 120 0)] := by kernel_rfl
    rw [hl] at hp
    simp only [List.mem_cons, List.not_mem_nil, or_false] at hp
    rcases hp with rfl
    · exact sumq120) fun args r hh => ?_
  unfold tq120 at hh
  simp only at hh
  split at hh
  · rename_i n x m y
    obtain ⟨hg, hh⟩ := chk_run hh
    refine ⟨by kernel_rfl, tr_ok (by rfl) hh, ?_⟩
    refine (vtq120 n x m y).trans (Eq.trans ?_ hh)
    have hn : n ≤ 1000000 := by simpa using hg
    cases h0 : (n : Int) != (m : Int) with
    | true =>
      rw [clB_false (show ¬ LkEq n x m y from fun z => by have := bne_iff_ne.1 h0; exact this (by rw [z.1]))]
      rfl
    | false =>
      obtain rfl : n = m := by
        have := bne_eq_false_iff_eq.1 h0
        omega
      simp only [cond_false]
      rcases toq120 (x := x) (y := y) (z := false) hn with ⟨h1, h2⟩ | ⟨k, _, hk, h1, _, h2⟩
      · rw [show ((0 : Nat) : Int) = 0 from rfl] at h2
        rw [condT (okq120_of h2), retq120_of h2, clB_true (show LkEq n x n y from ⟨rfl, fun k hk => h1 k (Nat.zero_le _) hk⟩)]
        rfl
      · rw [show ((0 : Nat) : Int) = 0 from rfl] at h2
        rw [condT (okq120_of h2), retq120_of h2, outq120_of h2, clB_false (show ¬ LkEq n x n y from fun z => h1 (z.2 k hk))]
        rfl
  · simp [Tr.run] at hh
open Go.Evl Go.RowKit
theorem txI_zero {a b : ByteArray} : txI a b = 0 ↔ a.toList = b.toList := by
  unfold txI
  constructor
  · intro h
    by_cases h1 : Op.bytesLess a.toList b.toList = true
    · rw [if_pos h1] at h; omega
    · rw [if_neg h1] at h
      by_cases h2 : leS a b = true
      · have h2 : (Op.bytesLess a.toList b.toList || a.toList == b.toList) = true := h2
        rw [Bool.or_eq_true] at h2
        rcases h2 with h3 | h3
        · exact absurd h3 h1
        · simpa using h3
      · rw [if_neg h2] at h; omega
  · intro h
    have h1 : ¬ Op.bytesLess a.toList b.toList = true := by rw [h, bytesLess_self]; simp
    have h2 : leS a b = true := by
      show (Op.bytesLess a.toList b.toList || a.toList == b.toList) = true
      rw [h]; simp
    rw [if_neg h1, if_pos h2]
theorem orI_zero {a b : Int} : orI a b = 0 ↔ a = 0 ∧ b = 0 := by
  unfold orI
  by_cases h : a = 0
  · rw [if_pos h]; simp [h]
  · rw [if_neg h]; simp [h]
def lcG (x y : Nat → Nat → Dt) (k : Nat) : Int := orI (txI (x k 0).s (y k 0).s) (txI (x k 1).s (y k 1).s)
def lcF (x y : Nat → Nat → Dt) (m : Nat) : Nat → Nat → Int
  | 0, k => if k < m then -1 else 0
  | d + 1, k => if m ≤ k then 1 else if lcG x y k = 0 then lcF x y m d (k + 1) else lcG x y k
def lcI (n : Nat) (x : Nat → Nat → Dt) (m : Nat) (y : Nat → Nat → Dt) : Int := lcF x y m n 0
def LbEq (n : Nat) (x : Nat → Nat → Dt) (m : Nat) (y : Nat → Nat → Dt) : Prop := n = m ∧ ∀ k, k < n → (x k 0).s.toList = (y k 0).s.toList ∧ (x k 1).s.toList = (y k 1).s.toList
theorem lcF_zero {x y : Nat → Nat → Dt} {m : Nat} : ∀ d k, k ≤ m → (lcF x y m d k = 0 ↔ k + d = m ∧ ∀ j, k ≤ j → j < k + d → (x j 0).s.toList = (y j 0).s.toList ∧ (x j 1).s.toList = (y j 1).s.toList)
  | 0, k, hk => by
    unfold lcF
    constructor
    · intro h
      by_cases h1 : k < m
      · rw [if_pos h1] at h; omega
      · exact ⟨by omega, fun j a b => by omega⟩
    · rintro ⟨h, _⟩
      rw [if_neg (by omega)]
  | d + 1, k, hk => by
    unfold lcF
    constructor
    · intro h
      by_cases h1 : m ≤ k
      · rw [if_pos h1] at h; omega
      · rw [if_neg h1] at h
        by_cases h2 : lcG x y k = 0
        · rw [if_pos h2] at h
          obtain ⟨h3, h4⟩ := (lcF_zero d (k + 1) (by omega)).1 h
          refine ⟨by omega, fun j a b => ?_⟩
          by_cases e : j = k
          · rw [e]
            obtain ⟨h5, h6⟩ := orI_zero.1 h2
            exact ⟨txI_zero.1 h5, txI_zero.1 h6⟩
          · exact h4 j (by omega) (by omega)
        · rw [if_neg h2] at h; exact absurd h h2
    · rintro ⟨h1, h2⟩
      rw [if_neg (by omega)]
      obtain ⟨h3, h4⟩ := h2 k (Nat.le_refl _) (by omega)
      rw [if_pos (show lcG x y k = 0 from orI_zero.2 ⟨txI_zero.2 h3, txI_zero.2 h4⟩)]
      exact (lcF_zero d (k + 1) (by omega)).2 ⟨by omega, fun j a b => h2 j (by omega) (by omega)⟩
theorem lcI_zero {n m : Nat} {x y : Nat → Nat → Dt} : lcI n x m y = 0 ↔ LbEq n x m y := by
  unfold lcI LbEq
  rw [lcF_zero n 0 (Nat.zero_le _), Nat.zero_add]
  exact ⟨fun h => ⟨h.1, fun k hk => h.2 k (Nat.zero_le _) hk⟩, fun h => ⟨h.1, fun k _ hk => h.2 k hk⟩⟩
theorem lxq151 : (mkCx Tryz.prog (spOf [tq152, t50]) (inlOf []) extD).Ok InvD := cx_of [] (by kernel_rfl) (by
  intro p hp
  simp only [List.mem_cons, List.not_mem_nil, or_false] at hp
  rcases hp with rfl | rfl
  · exact tq152_ok
  · exact t50_ok)
theorem vtq151 (a b c d : ByteArray) : evFn (β := Res) Tryz.prog (spOf [tq152, t50]) (inlOf []) extD (cKD [tq152, t50] []) (fun _ => .unroll 0) Tryz.f151 [.agg [.str a, .str b], .agg [.str c, .str d]] [] (fun r _ => some r) =
    (some (.ret (.int .i64 (orI (txI a c) (txI b d)))) : Option Res) := by kernel_rfl
noncomputable def tq151 : Ent := ⟨151, fun
  | [.agg [.str a, .str b], .agg [.str c, .str d]] => .leaf (.ret (.int .i64 (orI (txI a c) (txI b d))))
  | _ => .non⟩
set_option maxRecDepth 20000 in
theorem tq151_ok : SpecHolds Tryz.prog InvD 151 fun a => (tq151.2 a).run := by
  refine specD lxq151 Tryz.func151 (c := codeOf Tryz.prog 151) (by kernel_rfl) (fun _ => .unroll 0) (fun _ _ => trivial) fun args r hh => ?_
  unfold tq151 at hh
  simp only at hh
  split at hh
  · rename_i a b c d
    refine ⟨by kernel_rfl, tr_ok (by rfl) hh, ?_⟩
    refine (vtq151 a b c d).trans (Eq.trans ?_ hh)
    rfl
  · simp [Tr.run] at hh
theorem lxq150 : (mkCx Tryz.prog (spOf [tq151]) (inlOf []) extD).Ok InvD := cx_of [] (by kernel_rfl) (by
  intro p hp
  simp only [List.mem_cons, List.not_mem_nil, or_false] at hp
  rcases hp with rfl
  · exact tq151_ok)
structure Sq150 where
  n : Nat
  x : Nat → Nat → Dt
  m : Nat
  y : Nat → Nat → Dt
  z : Int
  n2 : Nat
  x2 : Nat → Nat → Dt
  l : Int
  k : Int
abbrev keepq150 : List Nat := [0, 1, 2, 6, 11, 12, 13]
abbrev vsq150 (s : Sq150) : List AV := [.isz s.n [.str, .str] s.x, .isz s.m [.str, .str] s.y, .fn (.func 151) [], .int .i64 s.z, .isz s.n2 [.str, .str] s.x2, .int .i64 s.l, .int .i64 s.k]
abbrev hpq150 (s : Sq150) : List Ob := []
noncomputable def decq150 : List AV → List Ob → Option Sq150
  | [.isz n [.str, .str] x, .isz m [.str, .str] y, .fn (.func 151) [], .int .i64 z, .isz n2 [.str, .str] x2, .int .i64 l, .int .i64 k], [] => some ⟨n, x, m, y, z, n2, x2, l, k⟩
  | _, _ => none
noncomputable def rndq150 (s : Sq150) : Option (Ex × List AV × List Ob) :=
  bif decide (s.k < s.l) then bif decide (0 ≤ s.k) && decide (s.k < (s.n2 : Int)) then bif decide (s.k ≥ (s.m : Int)) then some (.ret, [.isz s.n [.str, .str] s.x, .isz s.m [.str, .str] s.y, .fn (Fn.func 151) [], .int .i64 1, .isz s.n2 [.str, .str] s.x2, .int .i64 s.l, .int .i64 s.k], []) else bif decide (0 ≤ s.k) && decide (s.k < (s.m : Int)) then bif orI (txI (s.x2 s.k.toNat 0).s (s.y s.k.toNat 0).s) (txI (s.x2 s.k.toNat 1).s (s.y s.k.toNat 1).s) != 0 then some (.ret, [.isz s.n [.str, .str] s.x, .isz s.m [.str, .str] s.y, .fn (Fn.func 151) [], .int .i64 (orI (txI (s.x2 s.k.toNat 0).s (s.y s.k.toNat 0).s) (txI (s.x2 s.k.toNat 1).s (s.y s.k.toNat 1).s)), .isz s.n2 [.str, .str] s.x2, .int .i64 s.l, .int .i64 s.k], []) else some (.normal, [.isz s.n [.str, .str] s.x, .isz s.m [.str, .str] s.y, .fn (Fn.func 151) [], .int .i64 s.z, .isz s.n2 [.str, .str] s.x2, .int .i64 s.l, .int .i64 (IntKind.i64.wrap (s.k + 1))], []) else none else none else some (.exit 0, [.isz s.n [.str, .str] s.x, .isz s.m [.str, .str] s.y, .fn (Fn.func 151) [], .int .i64 s.z, .isz s.n2 [.str, .str] s.x2, .int .i64 s.l, .int .i64 s.k], [])
noncomputable def Lq150 : Ls Sq150 := ⟨0, decq150, vsq150, hpq150, rndq150⟩
set_option maxRecDepth 20000 in
theorem Lq150_ok : Lq150.Ok := fun vs H s h => by
  have h : decq150 vs H = some s := h
  unfold decq150 at h
  split at h
  · obtain rfl := Option.some.inj h
    exact ⟨rfl, rfl⟩
  · cases h
noncomputable def okq150 (s : Sq150) : Bool := Lq150.ok 2 s
noncomputable def outq150 (s : Sq150) : Sq150 := (Lq150.end_ s).2
noncomputable def retq150 (s : Sq150) : Bool := (Lq150.end_ s).1
noncomputable def finq150 (s : Sq150) : Tr (Ex × List AV × List Ob) := .node (retq150 s) (.leaf (.ret, vsq150 (outq150 s), hpq150 (outq150 s))) (.leaf (.exit 0, vsq150 (outq150 s), hpq150 (outq150 s)))
noncomputable abbrev fq150s : List AV → List Ob → Tr (Ex × List AV × List Ob) := stF decq150 okq150 finq150
theorem deq150 (c : Sq150) : Lq150.dec (Lq150.vs c) (Lq150.hp c) = some c := by kernel_rfl
theorem onq150 {s s1 s2 : Sq150} {b : Bool} (h : rndq150 s = some (.normal, vsq150 s1, hpq150 s1)) (h2 : Lq150.To s1 b s2) : Lq150.To s b s2 := Lq150.to_on h (deq150 s1) h2
theorem otq150 {s s1 : Sq150} (h : rndq150 s = some (.exit 0, vsq150 s1, hpq150 s1)) : Lq150.To s false s1 := Lq150.to_out h (deq150 s1)
theorem rtq150 {s s1 : Sq150} (h : rndq150 s = some (.ret, vsq150 s1, hpq150 s1)) : Lq150.To s true s1 := Lq150.to_ret h (deq150 s1)
theorem okq150_of {s s1 : Sq150} {b : Bool} (h : Lq150.To s b s1) : okq150 s = true := h.ok Lq150 (m := 2) rfl
theorem outq150_of {s s1 : Sq150} {b : Bool} (h : Lq150.To s b s1) : outq150 s = s1 := congrArg Prod.snd (h.end_ Lq150)
theorem retq150_of {s s1 : Sq150} {b : Bool} (h : Lq150.To s b s1) : retq150 s = b := congrArg Prod.fst (h.end_ Lq150)
theorem loopq150 (s : Sq150) : evC (β := Ex × List AV × List Ob) Tryz.prog (spOf [tq151]) (inlOf []) extD (cKD [tq151] []) ((fun _ => .sum keepq150 fq150s)) (bodyOf Tryz.prog 150 0) ⟨mkF Tryz.f150.ntmps keepq150 (vsq150 s), hpq150 s⟩ (fun e st => (cutBack keepq150 0 st).map fun q => (e, q.1, q.2)) = rndq150 s := by kernel_rfl
theorem sumq150 : LoopOkT Tryz.prog (spOf [tq151]) (inlOf []) extD (cKD [tq151] []) (fun _ => .sum keepq150 fq150s) Tryz.f150.ntmps (bodyOf Tryz.prog 150 0) (.sum keepq150 fq150s) := by
  dsimp only [LoopOkT]
  exact ⟨by decide, by decide, sum_ls Lq150 2 Lq150_ok loopq150⟩
theorem vtq150 (n : Nat) (x : Nat → Nat → Dt) (m : Nat) (y : Nat → Nat → Dt) : evFn (β := Res) Tryz.prog (spOf [tq151]) (inlOf []) extD (cKD [tq151] []) (fun _ => .sum keepq150 fq150s) Tryz.f150 [.isz n [.str, .str] x, .isz m [.str, .str] y, .fn (.func 151) []] [] (fun r _ => some r) =
    (bif okq150 { n := n, x := x, m := m, y := y, z := 0, n2 := n, x2 := x, l := (n : Int), k := 0 } then bif retq150 { n := n, x := x, m := m, y := y, z := 0, n2 := n, x2 := x, l := (n : Int), k := 0 } then some (.ret (.int .i64 (outq150 { n := n, x := x, m := m, y := y, z := 0, n2 := n, x2 := x, l := (n : Int), k := 0 }).5)) else bif decide (((outq150 { n := n, x := x, m := m, y := y, z := 0, n2 := n, x2 := x, l := (n : Int), k := 0 }).1 : Int) < ((outq150 { n := n, x := x, m := m, y := y, z := 0, n2 := n, x2 := x, l := (n : Int), k := 0 }).3 : Int)) then some (.ret (.int .i64 (-1))) else some (.ret (.int .i64 0)) else none : Option Res) := by kernel_rfl
theorem toq150 {n : Nat} {x : Nat → Nat → Dt} {m : Nat} {y : Nat → Nat → Dt} (hn : n ≤ 1000000) : ∀ d k, k + d = n →
    ∃ b s, Lq150.To ⟨n, x, m, y, 0, n, x, (n : Int), (k : Int)⟩ b s ∧ (b = true → s.z = lcF x y m d k) ∧ (b = false → s = ⟨n, x, m, y, 0, n, x, (n : Int), (n : Int)⟩ ∧ lcF x y m d k = if n < m then -1 else 0)
  | 0, k, h => by
    obtain rfl : k = n := by omega
    refine ⟨false, _, otq150 (s1 := ⟨k, x, m, y, 0, k, x, (k : Int), (k : Int)⟩) ?_, fun h => (Bool.false_ne_true h).elim, fun _ => ⟨rfl, rfl⟩⟩
    simp only [rndq150]
    rw [condF (decide_eq_false (by omega))]
  | d + 1, k, h => by
    have c1 : decide ((k : Int) < (n : Int)) = true := decide_eq_true (by omega)
    by_cases h1 : m ≤ k
    · refine ⟨true, _, rtq150 (s1 := ⟨n, x, m, y, 1, n, x, (n : Int), (k : Int)⟩) ?_, fun _ => by unfold lcF; rw [if_pos h1], fun h => (Bool.false_ne_true h.symm).elim⟩
      simp only [rndq150, Int.toNat_natCast]
      rw [condT c1, condT (ixT (by omega)), condT (decide_eq_true (by omega))]
    · have c2 : decide ((k : Int) ≥ (m : Int)) = false := decide_eq_false (by omega)
      by_cases h2 : lcG x y k = 0
      · obtain ⟨b, s, h3, h4, h5⟩ := toq150 (x := x) (m := m) (y := y) hn d (k + 1) (by omega)
        have e : lcF x y m (d + 1) k = lcF x y m d (k + 1) := by rw [lcF, if_neg h1, if_pos h2]
        refine ⟨b, s, onq150 ?_ h3, fun hb => by rw [e]; exact h4 hb, fun hb => by rw [e]; exact h5 hb⟩
        simp only [rndq150, Int.toNat_natCast]
        rw [condT c1, condT (ixT (by omega)), condF c2, condT (ixT (by omega)), condF (show (orI (txI (x k 0).s (y k 0).s) (txI (x k 1).s (y k 1).s) != 0) = false from bne_eq_false_iff_eq.2 h2), i64n k (by omega)]
      · refine ⟨true, _, rtq150 (s1 := ⟨n, x, m, y, lcG x y k, n, x, (n : Int), (k : Int)⟩) ?_, fun _ => by unfold lcF; rw [if_neg h1, if_neg h2], fun h => (Bool.false_ne_true h.symm).elim⟩
        simp only [rndq150, Int.toNat_natCast]
        rw [condT c1, condT (ixT (by omega)), condF c2, condT (ixT (by omega)), condT (show (orI (txI (x k 0).s (y k 0).s) (txI (x k 1).s (y k 1).s) != 0) = true from bne_iff_ne.2 h2)]
        rfl
noncomputable def tq150 : Ent := ⟨150, fun
  | [.isz n [.str, .str] x, .isz m [.str, .str] y, .fn (.func 151) []] => .chk (Nat.ble n 1000000) (.leaf (.ret (.int .i64 (lcI n x m y))))
  | _ => .non⟩
set_option maxRecDepth 20000 in
theorem tq150_ok : SpecHolds Tryz.prog InvD 150 fun a => (tq150.2 a).run := by
  refine specD lxq150 Tryz.func150 (c := codeOf Tryz.prog 150) (by kernel_rfl) (fun _ => .sum keepq150 fq150s) (fun p hp => by
    have hl : loops (codeOf Tryz.prog 150) = [(0, bodyOf Tryz.prog 150 0)] := by kernel_rfl
    rw [hl] at hp
    simp only [List.mem_cons, List.not_mem_nil, or_false] at hp
    rcases hp with rfl
    · exact sumq150) fun args r hh => ?_
  unfold tq150 at hh
  simp only at hh
  split at hh
  · rename_i n x m y
    obtain ⟨hg, hh⟩ := chk_run hh
    refine ⟨by kernel_rfl, tr_ok (by rfl) hh, ?_⟩
    refine (vtq150 n x m y).trans (Eq.trans ?_ hh)
    have hn : n ≤ 1000000 := by simpa using hg
    obtain ⟨b, s, h1, h2, h3⟩ := toq150 (x := x) (m := m) (y := y) hn n 0 (by omega)
    rw [show ((0 : Nat) : Int) = 0 from rfl] at h1
    rw [condT (okq150_of h1), retq150_of h1, outq150_of h1]
    cases b with
    | true =>
      rw [cond_true, h2 rfl]
      rfl
    | false =>
      obtain ⟨rfl, h4⟩ := h3 rfl
      rw [cond_false]
      show _ = some (Res.ret (.int .i64 (lcF x y m n 0)))
      rw [h4]
      by_cases h5 : n < m
      · rw [condT (decide_eq_true (show (n : Int) < (m : Int) by omega)), if_pos h5]
      · rw [condF (decide_eq_false (show ¬ (n : Int) < (m : Int) by omega)), if_neg h5]
  · simp [Tr.run] at hh
theorem lxq119 : (mkCx Tryz.prog (spOf [tq150]) (inlOf []) extD).Ok InvD := cx_of [] (by kernel_rfl) (by
  intro p hp
  simp only [List.mem_cons, List.not_mem_nil, or_false] at hp
  rcases hp with rfl
  · exact tq150_ok)
theorem vtq119 (n : Nat) (x : Nat → Nat → Dt) (m : Nat) (y : Nat → Nat → Dt) : evFn (β := Res) Tryz.prog (spOf [tq150]) (inlOf []) extD (cKD [tq150] []) (fun _ => .unroll 0) Tryz.f119 [.isz n [.str, .str] x, .isz m [.str, .str] y] [] (fun r _ => some r) =
    (bif n.ble 1000000 then some (.ret (.int .i64 (lcI n x m y))) else none : Option Res) := by kernel_rfl
noncomputable def tq119 : Ent := ⟨119, fun
  | [.isz n [.str, .str] x, .isz m [.str, .str] y] => .chk (Nat.ble n 1000000) (.leaf (.ret (.int .i64 (lcI n x m y))))
  | _ => .non⟩
set_option maxRecDepth 20000 in
theorem tq119_ok : SpecHolds Tryz.prog InvD 119 fun a => (tq119.2 a).run := by
  refine specD lxq119 Tryz.func119 (c := codeOf Tryz.prog 119) (by kernel_rfl) (fun _ => .unroll 0) (fun _ _ => trivial) fun args r hh => ?_
  unfold tq119 at hh
  simp only at hh
  split at hh
  · rename_i n x m y
    obtain ⟨hg, hh⟩ := chk_run hh
    refine ⟨by kernel_rfl, tr_ok (by rfl) hh, ?_⟩
    refine (vtq119 n x m y).trans (Eq.trans ?_ hh)
    rw [condT hg]
    rfl
  · simp [Tr.run] at hh
def SpE (t1 a1 p1 : Int) (v1 m1 : ByteArray) (b1 c1 s1 : Int) (n1 : Nat) (x1 : Nat → Nat → Dt) (l1 : Nat) (y1 : Nat → Nat → Dt) (t2 a2 p2 : Int) (v2 m2 : ByteArray) (b2 c2 s2 : Int) (n2 : Nat) (x2 : Nat → Nat → Dt) (l2 : Nat) (y2 : Nat → Nat → Dt) : Prop := t1 = t2 ∧ a1 = a2 ∧ p1 = p2 ∧ v1.toList = v2.toList ∧ m1.toList = m2.toList ∧ b1 = b2 ∧ c1 = c2 ∧ s1 = s2 ∧ LbEq n1 x1 n2 x2 ∧ LkEq l1 y1 l2 y2
theorem lxq80 : (mkCx Tryz.prog (spOf [tq119, tq120]) (inlOf []) extD).Ok InvD := cx_of [] (by kernel_rfl) (by
  intro p hp
  simp only [List.mem_cons, List.not_mem_nil, or_false] at hp
  rcases hp with rfl | rfl
  · exact tq119_ok
  · exact tq120_ok)
theorem vtq80 (t1 a1 p1 : Int) (v1 m1 : ByteArray) (b1 c1 s1 : Int) (n1 : Nat) (x1 : Nat → Nat → Dt) (l1 : Nat) (y1 : Nat → Nat → Dt) (t2 a2 p2 : Int) (v2 m2 : ByteArray) (b2 c2 s2 : Int) (n2 : Nat) (x2 : Nat → Nat → Dt) (l2 : Nat) (y2 : Nat → Nat → Dt) : evFn (β := Res) Tryz.prog (spOf [tq119, tq120]) (inlOf []) extD (cKD [tq119, tq120] []) (fun _ => .unroll 0) Tryz.f80 [.agg [.int .i64 t1, .int .i64 a1, .int .i64 p1, .str v1, .str m1, .int .i64 b1, .int .i64 c1, .int .i64 s1, .isz n1 [.str, .str] x1, .isz l1 [.int .i64, .int .i64] y1], .agg [.int .i64 t2, .int .i64 a2, .int .i64 p2, .str v2, .str m2, .int .i64 b2, .int .i64 c2, .int .i64 s2, .isz n2 [.str, .str] x2, .isz l2 [.int .i64, .int .i64] y2]] [] (fun r _ => some r) =
    (bif t1 != t2 then some (.ret (.bool false)) else bif a1 != a2 then some (.ret (.bool false)) else bif p1 != p2 then some (.ret (.bool false)) else bif !v1.toList == v2.toList then some (.ret (.bool false)) else bif !m1.toList == m2.toList then some (.ret (.bool false)) else bif b1 != b2 then some (.ret (.bool false)) else bif c1 != c2 then some (.ret (.bool false)) else bif s1 != s2 then some (.ret (.bool false)) else bif n1.ble 1000000 then bif lcI n1 x1 n2 x2 == 0 then bif l1.ble 1000000 then bif clB (LkEq l1 y1 l2 y2) then some (.ret (.bool true)) else some (.ret (.bool false)) else none else some (.ret (.bool false)) else none : Option Res) := by kernel_rfl
noncomputable def tq80 : Ent := ⟨80, fun
  | [.agg [.int .i64 t1, .int .i64 a1, .int .i64 p1, .str v1, .str m1, .int .i64 b1, .int .i64 c1, .int .i64 s1, .isz n1 [.str, .str] x1, .isz l1 [.int .i64, .int .i64] y1], .agg [.int .i64 t2, .int .i64 a2, .int .i64 p2, .str v2, .str m2, .int .i64 b2, .int .i64 c2, .int .i64 s2, .isz n2 [.str, .str] x2, .isz l2 [.int .i64, .int .i64] y2]] => .chk (Nat.ble n1 1000000 && Nat.ble l1 1000000) (.leaf (.ret (.bool (clB (SpE t1 a1 p1 v1 m1 b1 c1 s1 n1 x1 l1 y1 t2 a2 p2 v2 m2 b2 c2 s2 n2 x2 l2 y2)))))
  | _ => .non⟩
theorem ldN {p q : Prop} {c : Bool} (hc : c = false ↔ p) {R : Option Res} (h : p → R = some (.ret (.bool (clB q)))) : (bif c then some (.ret (.bool false)) else R) = some (.ret (.bool (clB (p ∧ q)))) := by
  cases e : c with
  | true => rw [clB_false (show ¬ (p ∧ q) from fun z => by rw [hc.2 z.1] at e; cases e)]; rfl
  | false => rw [cond_false, h (hc.1 e), clB_congr (show q ↔ p ∧ q from ⟨fun z => ⟨hc.1 e, z⟩, fun z => z.2⟩)]
theorem ldP {p q : Prop} {c : Bool} (hc : c = true ↔ p) {R : Option Res} (h : p → R = some (.ret (.bool (clB q)))) : (bif c then R else some (.ret (.bool false))) = some (.ret (.bool (clB (p ∧ q)))) := by
  cases e : c with
  | false => rw [clB_false (show ¬ (p ∧ q) from fun z => by rw [hc.2 z.1] at e; cases e)]; rfl
  | true => rw [cond_true, h (hc.1 e), clB_congr (show q ↔ p ∧ q from ⟨fun z => ⟨hc.1 e, z⟩, fun z => z.2⟩)]
theorem ld1 {p : Prop} {c : Bool} (hc : c = true ↔ p) : (bif c then some (.ret (.bool true)) else some (.ret (.bool false)) : Option Res) = some (.ret (.bool (clB p))) := by
  cases e : c with
  | false => rw [clB_false (show ¬ p from fun z => by rw [hc.2 z] at e; cases e)]; rfl
  | true => rw [clB_true (hc.1 e)]; rfl
set_option maxRecDepth 20000 in
theorem tq80_ok : SpecHolds Tryz.prog InvD 80 fun a => (tq80.2 a).run := by
  refine specD lxq80 Tryz.func80 (c := codeOf Tryz.prog 80) (by kernel_rfl) (fun _ => .unroll 0) (fun _ _ => trivial) fun args r hh => ?_
  unfold tq80 at hh
  simp only at hh
  split at hh
  · rename_i t1 a1 p1 v1 m1 b1 c1 s1 n1 x1 l1 y1 t2 a2 p2 v2 m2 b2 c2 s2 n2 x2 l2 y2
    obtain ⟨hg, hh⟩ := chk_run hh
    refine ⟨by kernel_rfl, tr_ok (by rfl) hh, ?_⟩
    refine (vtq80 t1 a1 p1 v1 m1 b1 c1 s1 n1 x1 l1 y1 t2 a2 p2 v2 m2 b2 c2 s2 n2 x2 l2 y2).trans (Eq.trans ?_ hh)
    rw [Bool.and_eq_true] at hg
    show _ = some (Res.ret (.bool (clB (SpE t1 a1 p1 v1 m1 b1 c1 s1 n1 x1 l1 y1 t2 a2 p2 v2 m2 b2 c2 s2 n2 x2 l2 y2))))
    unfold SpE
    refine ldN (by simp) fun _ => ldN (by simp) fun _ => ldN (by simp) fun _ => ldN (by simp) fun _ => ldN (by simp) fun _ => ldN (by simp) fun _ => ldN (by simp) fun _ => ldN (by simp) fun _ => ?_
    rw [condT hg.1, condT hg.2]
    exact ldP (by rw [beq_iff_eq]; exact lcI_zero) fun _ => ld1 clB_iff
  · simp [Tr.run] at hh
def SpK (x y : Nat → Dt) : Prop := SpE (x 0).n (x 1).n (x 2).n (x 3).s (x 4).s (x 5).n (x 6).n (x 7).n (x 8).len (x 8).el (x 9).len (x 9).el (y 0).n (y 1).n (y 2).n (y 3).s (y 4).s (y 5).n (y 6).n (y 7).n (y 8).len (y 8).el (y 9).len (y 9).el
def SpsE (n : Nat) (x : Nat → Nat → Dt) (m : Nat) (y : Nat → Nat → Dt) : Prop := n = m ∧ ∀ k, k < n → SpK (x k) (y k)
def smGB (n : Nat) (x : Nat → Nat → Dt) : Bool := (List.range n).all fun k => Nat.ble (x k 8).len 1000000 && Nat.ble (x k 9).len 1000000
theorem smG_get {n : Nat} {x : Nat → Nat → Dt} (h : smGB n x = true) {k : Nat} (hk : k < n) : (Nat.ble (x k 8).len 1000000 && Nat.ble (x k 9).len 1000000) = true := List.all_eq_true.1 h k (List.mem_range.2 hk)
theorem lxq79 : (mkCx Tryz.prog (spOf [tq80]) (inlOf []) extD).Ok InvD := cx_of [] (by kernel_rfl) (by
  intro p hp
  simp only [List.mem_cons, List.not_mem_nil, or_false] at hp
  rcases hp with rfl
  · exact tq80_ok)
structure Sq79 where
  n : Nat
  x : Nat → Nat → Dt
  m : Nat
  y : Nat → Nat → Dt
  z : Bool
  n2 : Nat
  x2 : Nat → Nat → Dt
  l : Int
  k : Int
abbrev keepq79 : List Nat := [0, 1, 2, 6, 15, 16, 17]
abbrev vsq79 (s : Sq79) : List AV := [.isz s.n SS s.x, .isz s.m SS s.y, .fn (.func 80) [], .bool s.z, .isz s.n2 SS s.x2, .int .i64 s.l, .int .i64 s.k]
abbrev hpq79 (s : Sq79) : List Ob := []
noncomputable def decq79 : List AV → List Ob → Option Sq79
  | [.isz n [.int .i64, .int .i64, .int .i64, .str, .str, .int .i64, .int .i64, .int .i64, .row [.str, .str], .row [.int .i64, .int .i64]] x, .isz m [.int .i64, .int .i64, .int .i64, .str, .str, .int .i64, .int .i64, .int .i64, .row [.str, .str], .row [.int .i64, .int .i64]] y, .fn (.func 80) [], .bool z, .isz n2 [.int .i64, .int .i64, .int .i64, .str, .str, .int .i64, .int .i64, .int .i64, .row [.str, .str], .row [.int .i64, .int .i64]] x2, .int .i64 l, .int .i64 k], [] => some ⟨n, x, m, y, z, n2, x2, l, k⟩
  | _, _ => none
noncomputable def rndq79 (s : Sq79) : Option (Ex × List AV × List Ob) :=
  bif decide (s.k < s.l) then bif decide (0 ≤ s.k) && decide (s.k < (s.n2 : Int)) then bif decide (0 ≤ s.k) && decide (s.k < (s.m : Int)) then bif (s.x2 s.k.toNat 8).len.ble 1000000 && (s.x2 s.k.toNat 9).len.ble 1000000 then bif clB (SpE (s.x2 s.k.toNat 0).n (s.x2 s.k.toNat 1).n (s.x2 s.k.toNat 2).n (s.x2 s.k.toNat 3).s (s.x2 s.k.toNat 4).s (s.x2 s.k.toNat 5).n (s.x2 s.k.toNat 6).n (s.x2 s.k.toNat 7).n (s.x2 s.k.toNat 8).len (s.x2 s.k.toNat 8).el (s.x2 s.k.toNat 9).len (s.x2 s.k.toNat 9).el (s.y s.k.toNat 0).n (s.y s.k.toNat 1).n (s.y s.k.toNat 2).n (s.y s.k.toNat 3).s (s.y s.k.toNat 4).s (s.y s.k.toNat 5).n (s.y s.k.toNat 6).n (s.y s.k.toNat 7).n (s.y s.k.toNat 8).len (s.y s.k.toNat 8).el (s.y s.k.toNat 9).len (s.y s.k.toNat 9).el) then some (.normal, [.isz s.n SS s.x, .isz s.m SS s.y, .fn (Fn.func 80) [], .bool s.z, .isz s.n2 SS s.x2, .int .i64 s.l, .int .i64 (IntKind.i64.wrap (s.k + 1))], []) else some (.ret, [.isz s.n SS s.x, .isz s.m SS s.y, .fn (Fn.func 80) [], .bool false, .isz s.n2 SS s.x2, .int .i64 s.l, .int .i64 s.k], []) else none else none else none else some (.exit 0, [.isz s.n SS s.x, .isz s.m SS s.y, .fn (Fn.func 80) [], .bool s.z, .isz s.n2 SS s.x2, .int .i64 s.l, .int .i64 s.k], [])
noncomputable def Lq79 : Ls Sq79 := ⟨0, decq79, vsq79, hpq79, rndq79⟩
set_option maxRecDepth 20000 in
theorem Lq79_ok : Lq79.Ok := fun vs H s h => by
  have h : decq79 vs H = some s := h
  unfold decq79 at h
  split at h
  · obtain rfl := Option.some.inj h
    exact ⟨rfl, rfl⟩
  · cases h
noncomputable def okq79 (s : Sq79) : Bool := Lq79.ok 2 s
noncomputable def outq79 (s : Sq79) : Sq79 := (Lq79.end_ s).2
noncomputable def retq79 (s : Sq79) : Bool := (Lq79.end_ s).1
noncomputable def finq79 (s : Sq79) : Tr (Ex × List AV × List Ob) := .node (retq79 s) (.leaf (.ret, vsq79 (outq79 s), hpq79 (outq79 s))) (.leaf (.exit 0, vsq79 (outq79 s), hpq79 (outq79 s)))
noncomputable abbrev fq79s : List AV → List Ob → Tr (Ex × List AV × List Ob) := stF decq79 okq79 finq79
theorem deq79 (c : Sq79) : Lq79.dec (Lq79.vs c) (Lq79.hp c) = some c := by kernel_rfl
theorem onq79 {s s1 s2 : Sq79} {b : Bool} (h : rndq79 s = some (.normal, vsq79 s1, hpq79 s1)) (h2 : Lq79.To s1 b s2) : Lq79.To s b s2 := Lq79.to_on h (deq79 s1) h2
theorem otq79 {s s1 : Sq79} (h : rndq79 s = some (.exit 0, vsq79 s1, hpq79 s1)) : Lq79.To s false s1 := Lq79.to_out h (deq79 s1)
theorem rtq79 {s s1 : Sq79} (h : rndq79 s = some (.ret, vsq79 s1, hpq79 s1)) : Lq79.To s true s1 := Lq79.to_ret h (deq79 s1)
theorem okq79_of {s s1 : Sq79} {b : Bool} (h : Lq79.To s b s1) : okq79 s = true := h.ok Lq79 (m := 2) rfl
theorem outq79_of {s s1 : Sq79} {b : Bool} (h : Lq79.To s b s1) : outq79 s = s1 := congrArg Prod.snd (h.end_ Lq79)
theorem retq79_of {s s1 : Sq79} {b : Bool} (h : Lq79.To s b s1) : retq79 s = b := congrArg Prod.fst (h.end_ Lq79)
theorem loopq79 (s : Sq79) : evC (β := Ex × List AV × List Ob) Tryz.prog (spOf [tq80]) (inlOf []) extD (cKD [tq80] []) ((fun _ => .sum keepq79 fq79s)) (bodyOf Tryz.prog 79 0) ⟨mkF Tryz.f79.ntmps keepq79 (vsq79 s), hpq79 s⟩ (fun e st => (cutBack keepq79 0 st).map fun q => (e, q.1, q.2)) = rndq79 s := by kernel_rfl
theorem sumq79 : LoopOkT Tryz.prog (spOf [tq80]) (inlOf []) extD (cKD [tq80] []) (fun _ => .sum keepq79 fq79s) Tryz.f79.ntmps (bodyOf Tryz.prog 79 0) (.sum keepq79 fq79s) := by
  dsimp only [LoopOkT]
  exact ⟨by decide, by decide, sum_ls Lq79 2 Lq79_ok loopq79⟩
theorem vtq79 (n : Nat) (x : Nat → Nat → Dt) (m : Nat) (y : Nat → Nat → Dt) : evFn (β := Res) Tryz.prog (spOf [tq80]) (inlOf []) extD (cKD [tq80] []) (fun _ => .sum keepq79 fq79s) Tryz.f79 [.isz n SS x, .isz m SS y, .fn (.func 80) []] [] (fun r _ => some r) =
    (bif (n : Int) != (m : Int) then some (.ret (.bool false)) else bif okq79 { n := n, x := x, m := m, y := y, z := false, n2 := n, x2 := x, l := (n : Int), k := 0 } then bif retq79 { n := n, x := x, m := m, y := y, z := false, n2 := n, x2 := x, l := (n : Int), k := 0 } then some (.ret (.bool (outq79 { n := n, x := x, m := m, y := y, z := false, n2 := n, x2 := x, l := (n : Int), k := 0 }).5)) else some (.ret (.bool true)) else none : Option Res) := by kernel_rfl
theorem toq79 {n : Nat} {x : Nat → Nat → Dt} {y : Nat → Nat → Dt} {z : Bool} (hn : n ≤ 1000000) (hs : smGB n x = true) : ((∀ k, 0 ≤ k → k < n → SpK (x k) (y k)) ∧ Lq79.To ⟨n, x, n, y, z, n, x, (n : Int), ((0 : Nat) : Int)⟩ false ⟨n, x, n, y, z, n, x, (n : Int), (n : Int)⟩) ∨
    ∃ k, 0 ≤ k ∧ k < n ∧ ¬ (SpK (x k) (y k)) ∧ (∀ j, 0 ≤ j → j < k → (fun k => SpK (x k) (y k)) j) ∧ Lq79.To ⟨n, x, n, y, z, n, x, (n : Int), ((0 : Nat) : Int)⟩ true ⟨n, x, n, y, false, n, x, (n : Int), (k : Int)⟩ := by
  refine Lq79.to_scan (fun k => ⟨n, x, n, y, z, n, x, (n : Int), (k : Int)⟩) (fun k => ⟨n, x, n, y, false, n, x, (n : Int), (k : Int)⟩) (fun k => SpK (x k) (y k)) (fun k s2 b hk hp h => onq79 ?_ h) (fun k hk hp => rtq79 ?_) (otq79 ?_) n 0 (by omega)
  · have hc := clB_true hp
    unfold SpK at hc
    simp only [rndq79, Int.toNat_natCast]
    rw [condT (decide_eq_true (by omega)), condT (ixT hk), condT (ixT hk), condT (smG_get hs hk), condT hc, i64n k (by omega)]
  · have hc := clB_false hp
    unfold SpK at hc
    simp only [rndq79, Int.toNat_natCast]
    rw [condT (decide_eq_true (by omega)), condT (ixT hk), condT (ixT hk), condT (smG_get hs hk), condF hc]
  · simp only [rndq79, Int.toNat_natCast]
    rw [condF (decide_eq_false (by omega))]
noncomputable def tq79 : Ent := ⟨79, fun
  | [.isz n [.int .i64, .int .i64, .int .i64, .str, .str, .int .i64, .int .i64, .int .i64, .row [.str, .str], .row [.int .i64, .int .i64]] x, .isz m [.int .i64, .int .i64, .int .i64, .str, .str, .int .i64, .int .i64, .int .i64, .row [.str, .str], .row [.int .i64, .int .i64]] y, .fn (.func 80) []] => .chk (Nat.ble n 1000000 && smGB n x) (.leaf (.ret (.bool (clB (SpsE n x m y)))))
  | _ => .non⟩
set_option maxRecDepth 20000 in
theorem tq79_ok : SpecHolds Tryz.prog InvD 79 fun a => (tq79.2 a).run := by
  refine specD lxq79 Tryz.func79 (c := codeOf Tryz.prog 79) (by kernel_rfl) (fun _ => .sum keepq79 fq79s) (fun p hp => by
    have hl : loops (codeOf Tryz.prog 79) = [(0, bodyOf Tryz.prog 79 0)] := by kernel_rfl
    rw [hl] at hp
    simp only [List.mem_cons, List.not_mem_nil, or_false] at hp
    rcases hp with rfl
    · exact sumq79) fun args r hh => ?_
  unfold tq79 at hh
  simp only at hh
  split at hh
  · rename_i n x m y
    obtain ⟨hg, hh⟩ := chk_run hh
    refine ⟨by kernel_rfl, tr_ok (by rfl) hh, ?_⟩
    refine (vtq79 n x m y).trans (Eq.trans ?_ hh)
    rw [Bool.and_eq_true] at hg
    have hn : n ≤ 1000000 := by simpa using hg.1
    cases h0 : (n : Int) != (m : Int) with
    | true =>
      rw [clB_false (show ¬ SpsE n x m y from fun z => by have := bne_iff_ne.1 h0; exact this (by rw [z.1]))]
      rfl
    | false =>
      obtain rfl : n = m := by
        have := bne_eq_false_iff_eq.1 h0
        omega
      simp only [cond_false]
      rcases toq79 (y := y) (z := false) hn hg.2 with ⟨h1, h2⟩ | ⟨k, _, hk, h1, _, h2⟩
      · rw [show ((0 : Nat) : Int) = 0 from rfl] at h2
        rw [condT (okq79_of h2), retq79_of h2, clB_true (show SpsE n x n y from ⟨rfl, fun k hk => h1 k (Nat.zero_le _) hk⟩)]
        rfl
      · rw [show ((0 : Nat) : Int) = 0 from rfl] at h2
        rw [condT (okq79_of h2), retq79_of h2, outq79_of h2, clB_false (show ¬ SpsE n x n y from fun z => h1 (z.2 k hk))]
        rfl
  · simp [Tr.run] at hh
def TrE (ti : Int) (n : Nat) (x : Nat → Nat → Dt) (m : Nat) (p : Nat → Nat → Dt) (ti2 : Int) (n2 : Nat) (x2 : Nat → Nat → Dt) (m2 : Nat) (p2 : Nat → Nat → Dt) : Prop := ti = ti2 ∧ InEq m p m2 p2 ∧ SpsE n x n2 x2
theorem lxq37 : (mkCx Tryz.prog (spOf [tq78, tq79]) (inlOf []) extD).Ok InvD := cx_of [] (by kernel_rfl) (by
  intro p hp
  simp only [List.mem_cons, List.not_mem_nil, or_false] at hp
  rcases hp with rfl | rfl
  · exact tq78_ok
  · exact tq79_ok)
theorem vtq37 (ti : Int) (n : Nat) (x : Nat → Nat → Dt) (m : Nat) (p : Nat → Nat → Dt) (ti2 : Int) (n2 : Nat) (x2 : Nat → Nat → Dt) (m2 : Nat) (p2 : Nat → Nat → Dt) : evFn (β := Res) Tryz.prog (spOf [tq78, tq79]) (inlOf []) extD (cKD [tq78, tq79] []) (fun _ => .unroll 0) Tryz.f37 [.agg [.int .i64 ti, .isz n SS x, .isz m [.int .i64] p], .agg [.int .i64 ti2, .isz n2 SS x2, .isz m2 [.int .i64] p2]] [] (fun r _ => some r) =
    (bif ti == ti2 then bif m.ble 1000000 then bif clB (InEq m p m2 p2) then bif n.ble 1000000 && smGB n x then bif clB (SpsE n x n2 x2) then some (.ret (.bool true)) else some (.ret (.bool false)) else none else some (.ret (.bool false)) else none else some (.ret (.bool false)) : Option Res) := by kernel_rfl
noncomputable def tq37 : Ent := ⟨37, fun
  | [.agg [.int .i64 ti, .isz n [.int .i64, .int .i64, .int .i64, .str, .str, .int .i64, .int .i64, .int .i64, .row [.str, .str], .row [.int .i64, .int .i64]] x, .isz m [.int .i64] p], .agg [.int .i64 ti2, .isz n2 [.int .i64, .int .i64, .int .i64, .str, .str, .int .i64, .int .i64, .int .i64, .row [.str, .str], .row [.int .i64, .int .i64]] x2, .isz m2 [.int .i64] p2]] => .chk (Nat.ble n 1000000 && (smGB n x && Nat.ble m 1000000)) (.leaf (.ret (.bool (clB (TrE ti n x m p ti2 n2 x2 m2 p2)))))
  | _ => .non⟩
set_option maxRecDepth 20000 in
theorem tq37_ok : SpecHolds Tryz.prog InvD 37 fun a => (tq37.2 a).run := by
  refine specD lxq37 Tryz.func37 (c := codeOf Tryz.prog 37) (by kernel_rfl) (fun _ => .unroll 0) (fun _ _ => trivial) fun args r hh => ?_
  unfold tq37 at hh
  simp only at hh
  split at hh
  · rename_i ti n x m p ti2 n2 x2 m2 p2
    obtain ⟨hg, hh⟩ := chk_run hh
    refine ⟨by kernel_rfl, tr_ok (by rfl) hh, ?_⟩
    refine (vtq37 ti n x m p ti2 n2 x2 m2 p2).trans (Eq.trans ?_ hh)
    rw [Bool.and_eq_true, Bool.and_eq_true] at hg
    show _ = some (Res.ret (.bool (clB (TrE ti n x m p ti2 n2 x2 m2 p2))))
    unfold TrE
    refine ldP (by simp) fun _ => ?_
    rw [condT hg.2.2]
    refine ldP clB_iff fun _ => ?_
    rw [condT (show (n.ble 1000000 && smGB n x) = true by rw [hg.1, hg.2.1]; rfl)]
    exact ld1 clB_iff
  · simp [Tr.run] at hh
open Go.Evl Go.RowKit
structure TrW (n : Nat) (y w q : Nat → Nat → Dt) : Prop where
  n12 : n ≤ 12
  good : Good n y
  sp : ∀ i, i < n → w i = nmT (y (kE n y i))
  pa : ∀ i, i < n → (q i 0).n = pE n y i
theorem trW_of {n : Nat} {x : Nat → Nat → Dt} (hn : n ≤ 12) (h : bdE n x = 0) : bdN n x = n ∧ TrW n (soF n x) (bdS n x) (bdP n x) := by
  obtain ⟨h1, h2⟩ := vt_at hn h
  have e : (bdE n x == 0) = true := by rw [h]; rfl
  refine ⟨?_, hn, (good_of h).1, fun i hi => ?_, fun i hi => ?_⟩
  · unfold bdN; rw [e]; exact h1
  · unfold bdS; rw [e]; exact (h2 i hi).1
  · unfold bdP; rw [e]; exact (h2 i hi).2
theorem caE_of {n : Nat} {x : Nat → Nat → Dt} (h : ∀ k, k < n → spE x k = 0) : caE n x = 0 := by
  unfold caE
  have : ∀ f i, i + f = n → scan (spG x) f i = none := by
    intro f
    induction f with
    | zero => intro i _; rfl
    | succ f ih =>
      intro i hi
      simp only [scan, spG]
      rw [if_pos (h i (by omega))]
      exact ih (i + 1) (by omega)
  rw [this n 0 (by omega)]
  rfl
theorem neF_of {y : Nat → Nat → Dt} {t : Int} : ∀ (f i : Nat), (∀ k, i ≤ k → k < i + f → (y k 0).n = t) → neF y t f i = i + f
  | 0, i, _ => rfl
  | f + 1, i, h => by
    unfold neF
    rw [h i (Nat.le_refl _) (by omega), bne_self_eq_false, cond_false, neF_of f (i + 1) fun k h1 h2 => h k (by omega) (by omega)]
    omega
def GdX (n : Nat) (x : Nat → Nat → Dt) : Prop := 1 ≤ n ∧ (∀ k, k < n → spE x k = 0) ∧ (∀ k, k < n → (x k 0).n = (x 0 0).n) ∧ dsL n x
theorem bdE_iff {n : Nat} {x : Nat → Nat → Dt} : bdE n x = 0 ↔ GdX n x := by
  constructor
  · intro h
    obtain ⟨h1, h2, h3, h4⟩ := good_of h
    exact ⟨h1.one, h3, h4, h2⟩
  · rintro ⟨h1, h2, h3, h4⟩
    unfold bdE
    rw [show Nat.beq n 0 = false from by cases n with | zero => omega | succ n => rfl, cond_false, caE_of h2]
    rw [neF_of n 0 fun k _ hk => h3 k (by omega), Nat.zero_add, Nat.beq_refl, (dfB_iff n x).2 h4]
    rfl
theorem row_of {n : Nat} {x x' : Nat → Nat → Dt} (hp : (toL n x').Perm (toL n x)) {k : Nat} (hk : k < n) : ∃ j, j < n ∧ vE x' k = vE x j := toL_mem.1 (hp.mem_iff.1 (toL_mem.2 ⟨k, hk, rfl⟩))
theorem vE_nmT (e : Nat → Dt) : nmE (nmT e) = nmE e := rfl
open Go.Evl Go.RowKit
def byN (a b c d : Int) : Int := if keB a b c d = true then mkX d c else 0
def byD (a b c d : Int) : Int := if keB a b c d = true then mkY d c else 1
def poB (s p w : Int) : Bool := wiB s 0 1099511627776 && cpB 0 p w
theorem lxq74 : (mkCx Tryz.prog (spOf [i31, i32]) (inlOf []) extD).Ok InvD := cx_of [] (by kernel_rfl) (by
  intro p hp
  simp only [List.mem_cons, List.not_mem_nil, or_false] at hp
  rcases hp with rfl | rfl
  · exact i31_ok
  · exact i32_ok)
theorem vtq74 (a b c d e : Int) : evFn (β := Res) Tryz.prog (spOf [i31, i32]) (inlOf []) extD (cKD [i31, i32] []) (fun _ => .unroll 0) Tryz.f74 [.int .i64 a, .int .i64 b, .int .i64 c, .int .i64 d, .int .i64 e] [] (fun r _ => some r) =
    (bif !decide (d = 0) then bif !decide (d = 0) then bif decide ((IntKind.i64.wrap (a.tmod d + b)).tmod d ≥ c) then some (.ret (.tup [.agg [.bool false, .int .i64 0, .int .i64 1, .int .i64 e], .int .i64 0])) else bif YtfepnmpoplcbmaaGreat.inI d && YtfepnmpoplcbmaaGreat.inI c then bif mkE d c != 0 then some (.ret (.tup [.agg [.bool false, .int .i64 0, .int .i64 0, .int .i64 0], .int .i64 (mkE d c)])) else some (.ret (.tup [.agg [.bool true, .int .i64 (mkX d c), .int .i64 (mkY d c), .int .i64 e], .int .i64 0])) else none else none else none : Option Res) := by kernel_rfl
noncomputable def tq74 : Ent := ⟨74, fun
  | [.int .i64 a, .int .i64 b, .int .i64 c, .int .i64 d, .int .i64 e] => .chk (trB a && cpB b c d) (.leaf (.ret (.tup [D4 (keB a b c d) (byN a b c d) (byD a b c d) e, .int .i64 0])))
  | _ => .non⟩
set_option maxRecDepth 20000 in
theorem tq74_ok : SpecHolds Tryz.prog InvD 74 fun a => (tq74.2 a).run := by
  refine specD lxq74 Tryz.func74 (c := codeOf Tryz.prog 74) (by kernel_rfl) (fun _ => .unroll 0) (fun _ _ => trivial) fun args r hh => ?_
  unfold tq74 at hh
  simp only at hh
  split at hh
  · rename_i a b c d e
    obtain ⟨hg, hh⟩ := chk_run hh
    refine ⟨by kernel_rfl, tr_ok (by rfl) hh, ?_⟩
    refine (vtq74 a b c d e).trans (Eq.trans ?_ hh)
    rw [Bool.and_eq_true] at hg
    obtain ⟨hg1, hg2⟩ := hg
    obtain ⟨⟨d1, d2⟩, ⟨c1, c2⟩, b1, b2⟩ := cpB_iff.1 hg2
    have h2' := wiB_iff.1 (show wiB a 1024 1125899906843647 = true from hg1)
    have q2 : a.tmod d = a % d := Int.tmod_eq_emod_of_nonneg (by omega)
    have m0 := Int.emod_nonneg a (show d ≠ 0 by omega)
    have m1 := Int.emod_lt_of_pos a (show 0 < d by omega)
    have q3 : (a % d + b).tmod d = (a + b) % d := by
      rw [Int.tmod_eq_emod_of_nonneg (by omega), Int.emod_add_emod]
    have k0 := Int.emod_nonneg (a + b) (show d ≠ 0 by omega)
    rw [q2, wrapI (x := a % d + b) (by omega) (by omega), q3, condT (show (!decide (d = 0)) = true by rw [decide_eq_false (by omega)]; rfl), condT (show (!decide (d = 0)) = true by rw [decide_eq_false (by omega)]; rfl)]
    show _ = some (Res.ret (.tup [D4 (keB a b c d) (byN a b c d) (byD a b c d) e, .int .i64 0]))
    unfold byN byD
    by_cases h3 : (a + b) % d < c
    · have hk : keB a b c d = true := decide_eq_true h3
      rw [condF (decide_eq_false (show ¬ (a + b) % d ≥ c by omega)), condT (show (YtfepnmpoplcbmaaGreat.inI d && YtfepnmpoplcbmaaGreat.inI c) = true by rw [inI_of (by omega) (by omega), inI_of (by omega) (by omega)]; rfl), condF (show (mkE d c != 0) = false by rw [mkE_part (by omega) (by omega) (by omega) (by omega)]; rfl), hk, if_pos rfl, if_pos rfl]
    · have hk : keB a b c d = false := decide_eq_false h3
      rw [condT (decide_eq_true (show (a + b) % d ≥ c by omega)), hk, if_neg Bool.false_ne_true, if_neg Bool.false_ne_true]
  · simp [Tr.run] at hh
theorem lxq36 : (mkCx Tryz.prog (spOf [i22]) (inlOf []) extD).Ok InvD := cx_of [] (by kernel_rfl) (by
  intro p hp
  simp only [List.mem_cons, List.not_mem_nil, or_false] at hp
  rcases hp with rfl
  · exact i22_ok)
theorem vtq36 (e : Bool) (s p w : Int) : evFn (β := Res) Tryz.prog (spOf [i22]) (inlOf []) extD (cKD [i22] []) (fun _ => .unroll 0) Tryz.f36 [.agg [.bool e, .int .i64 s, .int .i64 p, .int .i64 w]] [] (fun r _ => some r) =
    (bif decide (s ≥ 0) then bif decide (s ≤ 1099511627776) then bif YtfepnmpoplcbmaaGreat.cpI 0 p w == 0 then some (.ret (.bool true)) else some (.ret (.bool false)) else some (.ret (.bool false)) else some (.ret (.bool false)) : Option Res) := by kernel_rfl
noncomputable def tq36 : Ent := ⟨36, fun
  | [.agg [.bool e, .int .i64 s, .int .i64 p, .int .i64 w]] => .leaf (.ret (.bool (poB s p w)))
  | _ => .non⟩
set_option maxRecDepth 20000 in
theorem tq36_ok : SpecHolds Tryz.prog InvD 36 fun a => (tq36.2 a).run := by
  refine specD lxq36 Tryz.func36 (c := codeOf Tryz.prog 36) (by kernel_rfl) (fun _ => .unroll 0) (fun _ _ => trivial) fun args r hh => ?_
  unfold tq36 at hh
  simp only at hh
  split at hh
  · rename_i e s p w
    refine ⟨by kernel_rfl, tr_ok (by rfl) hh, ?_⟩
    refine (vtq36 e s p w).trans (Eq.trans ?_ hh)
    show _ = some (Res.ret (.bool (poB s p w)))
    unfold poB wiB
    by_cases h1 : 0 ≤ s
    · by_cases h2 : s ≤ 1099511627776
      · rw [condT (decide_eq_true h1), condT (decide_eq_true h2), decide_eq_true h1, decide_eq_true h2]
        unfold YtfepnmpoplcbmaaGreat.cpI
        cases cpB 0 p w <;> rfl
      · rw [condT (decide_eq_true h1), condF (decide_eq_false h2), decide_eq_true h1, decide_eq_false h2]; rfl
    · rw [condF (decide_eq_false h1), decide_eq_false h1]; rfl
  · simp [Tr.run] at hh
noncomputable def erAB (n : Nat) (x : Nat → Nat → Dt) : Bool := clB (∃ k, k < n ∧ (x k 7).n = 1)
noncomputable abbrev lpq48a (_ : Nat) : LT := .sum keepq48a fq48as
theorem lpsq48a : LpsOk (mkCx Tryz.prog (spOf []) (inlOf [13, 48, 81]) extD) (callN (mkCx Tryz.prog (spOf []) (inlOf [13, 48, 81]) extD) attD uD 20) [(48, lpq48a)] := by
  refine lps_one (cK := cKD [] [13, 48, 81]) (fun {β} => callK_eq (β := β) Tryz.prog (spOf []) (inlOf [13, 48, 81]) extD attD uD 20) Tryz.func48 (c := codeOf Tryz.prog 48) (by kernel_rfl) fun p hp => ?_
  have hl : loops (codeOf Tryz.prog 48) = [(0, bodyOf Tryz.prog 48 0)] := by kernel_rfl
  rw [hl, List.mem_singleton] at hp
  subst hp
  dsimp only [LoopOkT]
  exact ⟨by decide, by decide, sum_ls Lq48a 2 Lq48a_ok fun s => by kernel_rfl⟩
theorem cdq48a {x : Nat → Nat → Dt} {k : Nat} : ((x k 7).n == 1) = false ↔ ¬ (x k 7).n = 1 := by simp
theorem toq48a {n : Nat} {x : Nat → Nat → Dt} {z : Int} (hn : n ≤ 1000000) : ((∀ k, 0 ≤ k → k < n → ¬ (x k 7).n = 1) ∧ Lq48a.To ⟨n, x, z, (n : Int), ((0 : Nat) : Int)⟩ false ⟨n, x, z, (n : Int), (n : Int)⟩) ∨
    ∃ k, 0 ≤ k ∧ k < n ∧ ¬ ¬ (x k 7).n = 1 ∧ (∀ j, 0 ≤ j → j < k → (fun k => ¬ (x k 7).n = 1) j) ∧ Lq48a.To ⟨n, x, z, (n : Int), ((0 : Nat) : Int)⟩ true ⟨n, x, (k : Int), (n : Int), (k : Int)⟩ := by
  refine Lq48a.to_scan (fun k => ⟨n, x, z, (n : Int), (k : Int)⟩) (fun k => ⟨n, x, (k : Int), (n : Int), (k : Int)⟩) (fun k => ¬ (x k 7).n = 1) (fun k s2 b hk hp h => onq48a ?_ h) (fun k hk hp => rtq48a ?_) (otq48a ?_) n 0 (by omega)
  · simp only [rndq48a, Int.toNat_natCast]
    rw [condT (decide_eq_true (by omega)), condT (ixT hk), condF (cdq48a.2 hp), i64n k (by omega)]
  · simp only [rndq48a, Int.toNat_natCast]
    rw [condT (decide_eq_true (by omega)), condT (ixT hk), condT (beq_iff_eq.2 (Classical.byContradiction hp))]
  · simp only [rndq48a, Int.toNat_natCast]
    rw [condF (decide_eq_false (by omega))]
theorem lxq13a : (mkCx Tryz.prog (spOf []) (inlOf [13, 48, 81]) extD).Ok InvD := cx_of [13, 48, 81] (by kernel_rfl) (fun p hp => by cases hp)
theorem vtq13a (n : Nat) (x : Nat → Nat → Dt) : evFn (β := Res) Tryz.prog (spOf []) (inlOf [13, 48, 81]) extD (cKL [] [13, 48, 81] [(48, lpq48a)]) (fun _ => .unroll 0) Tryz.f13 [.isz n SS x, .fn (.func 81) []] [] (fun r _ => some r) =
    (bif okq48a { n := n, x := x, z := 0, l := (n : Int), k := 0 } then bif retq48a { n := n, x := x, z := 0, l := (n : Int), k := 0 } then bif decide ((outq48a { n := n, x := x, z := 0, l := (n : Int), k := 0 }).3 ≥ 0) then some (.ret (.bool true)) else some (.ret (.bool false)) else some (.ret (.bool false)) else none : Option Res) := by kernel_rfl
noncomputable def tq13a : Ent := ⟨13, fun
  | [.isz n [.int .i64, .int .i64, .int .i64, .str, .str, .int .i64, .int .i64, .int .i64, .row [.str, .str], .row [.int .i64, .int .i64]] x, .fn (.func 81) []] => .chk (Nat.ble n 1000000) (.leaf (.ret (.bool (erAB n x))))
  | _ => .non⟩
set_option maxRecDepth 20000 in
theorem tq13a_ok : SpecHolds Tryz.prog InvD 13 fun a => (tq13a.2 a).run := by
  refine specDL lxq13a lpsq48a Tryz.func13 (c := codeOf Tryz.prog 13) (by kernel_rfl) (fun _ => .unroll 0) (fun _ _ => trivial) fun args r hh => ?_
  unfold tq13a at hh
  simp only at hh
  split at hh
  · rename_i n x
    obtain ⟨hg, hh⟩ := chk_run hh
    refine ⟨by kernel_rfl, tr_ok (by rfl) hh, ?_⟩
    refine (vtq13a n x).trans (Eq.trans ?_ hh)
    have hn : n ≤ 1000000 := by simpa using hg
    show _ = some (Res.ret (.bool (erAB n x)))
    unfold erAB
    rcases toq48a (x := x) (z := 0) hn with ⟨h1, h2⟩ | ⟨k, _, hk, h1, _, h2⟩
    · rw [show ((0 : Nat) : Int) = 0 from rfl] at h2
      rw [condT (okq48a_of h2), retq48a_of h2, clB_false (fun ⟨k, hk, z⟩ => h1 k (Nat.zero_le _) hk z)]
      rfl
    · rw [show ((0 : Nat) : Int) = 0 from rfl] at h2
      rw [condT (okq48a_of h2), retq48a_of h2, outq48a_of h2, clB_true ⟨k, hk, Classical.byContradiction h1⟩, cond_true, condT (decide_eq_true (show (k : Int) ≥ 0 by omega))]
  · simp [Tr.run] at hh
noncomputable abbrev lpq48b (_ : Nat) : LT := .sum keepq48b fq48bs
theorem lpsq48b : LpsOk (mkCx Tryz.prog (spOf []) (inlOf [13, 48, 14]) extD) (callN (mkCx Tryz.prog (spOf []) (inlOf [13, 48, 14]) extD) attD uD 20) [(48, lpq48b)] := by
  refine lps_one (cK := cKD [] [13, 48, 14]) (fun {β} => callK_eq (β := β) Tryz.prog (spOf []) (inlOf [13, 48, 14]) extD attD uD 20) Tryz.func48 (c := codeOf Tryz.prog 48) (by kernel_rfl) fun p hp => ?_
  have hl : loops (codeOf Tryz.prog 48) = [(0, bodyOf Tryz.prog 48 0)] := by kernel_rfl
  rw [hl, List.mem_singleton] at hp
  subst hp
  dsimp only [LoopOkT]
  exact ⟨by decide, by decide, sum_ls Lq48b 2 Lq48b_ok fun s => by kernel_rfl⟩
theorem cdq48b {x : Nat → Nat → Dt} {k : Nat} : ((x k 7).n == 1) = false ↔ ¬ (x k 7).n = 1 := by simp
theorem toq48b {n : Nat} {x : Nat → Nat → Dt} {z : Int} (hn : n ≤ 1000000) : ((∀ k, 0 ≤ k → k < n → ¬ (x k 7).n = 1) ∧ Lq48b.To ⟨n, x, z, (n : Int), ((0 : Nat) : Int)⟩ false ⟨n, x, z, (n : Int), (n : Int)⟩) ∨
    ∃ k, 0 ≤ k ∧ k < n ∧ ¬ ¬ (x k 7).n = 1 ∧ (∀ j, 0 ≤ j → j < k → (fun k => ¬ (x k 7).n = 1) j) ∧ Lq48b.To ⟨n, x, z, (n : Int), ((0 : Nat) : Int)⟩ true ⟨n, x, (k : Int), (n : Int), (k : Int)⟩ := by
  refine Lq48b.to_scan (fun k => ⟨n, x, z, (n : Int), (k : Int)⟩) (fun k => ⟨n, x, (k : Int), (n : Int), (k : Int)⟩) (fun k => ¬ (x k 7).n = 1) (fun k s2 b hk hp h => onq48b ?_ h) (fun k hk hp => rtq48b ?_) (otq48b ?_) n 0 (by omega)
  · simp only [rndq48b, Int.toNat_natCast]
    rw [condT (decide_eq_true (by omega)), condT (ixT hk), condF (cdq48b.2 hp), i64n k (by omega)]
  · simp only [rndq48b, Int.toNat_natCast]
    rw [condT (decide_eq_true (by omega)), condT (ixT hk), condT (beq_iff_eq.2 (Classical.byContradiction hp))]
  · simp only [rndq48b, Int.toNat_natCast]
    rw [condF (decide_eq_false (by omega))]
theorem lxq13b : (mkCx Tryz.prog (spOf []) (inlOf [13, 48, 14]) extD).Ok InvD := cx_of [13, 48, 14] (by kernel_rfl) (fun p hp => by cases hp)
theorem vtq13b (n : Nat) (x : Nat → Nat → Dt) : evFn (β := Res) Tryz.prog (spOf []) (inlOf [13, 48, 14]) extD (cKL [] [13, 48, 14] [(48, lpq48b)]) (fun _ => .unroll 0) Tryz.f13 [.isz n SS x, .fn (.func 14) []] [] (fun r _ => some r) =
    (bif okq48b { n := n, x := x, z := 0, l := (n : Int), k := 0 } then bif retq48b { n := n, x := x, z := 0, l := (n : Int), k := 0 } then bif decide ((outq48b { n := n, x := x, z := 0, l := (n : Int), k := 0 }).3 ≥ 0) then some (.ret (.bool true)) else some (.ret (.bool false)) else some (.ret (.bool false)) else none : Option Res) := by kernel_rfl
noncomputable def tq13b : Ent := ⟨13, fun
  | [.isz n [.int .i64, .int .i64, .int .i64, .str, .str, .int .i64, .int .i64, .int .i64, .row [.str, .str], .row [.int .i64, .int .i64]] x, .fn (.func 14) []] => .chk (Nat.ble n 1000000) (.leaf (.ret (.bool (erAB n x))))
  | _ => .non⟩
set_option maxRecDepth 20000 in
theorem tq13b_ok : SpecHolds Tryz.prog InvD 13 fun a => (tq13b.2 a).run := by
  refine specDL lxq13b lpsq48b Tryz.func13 (c := codeOf Tryz.prog 13) (by kernel_rfl) (fun _ => .unroll 0) (fun _ _ => trivial) fun args r hh => ?_
  unfold tq13b at hh
  simp only at hh
  split at hh
  · rename_i n x
    obtain ⟨hg, hh⟩ := chk_run hh
    refine ⟨by kernel_rfl, tr_ok (by rfl) hh, ?_⟩
    refine (vtq13b n x).trans (Eq.trans ?_ hh)
    have hn : n ≤ 1000000 := by simpa using hg
    show _ = some (Res.ret (.bool (erAB n x)))
    unfold erAB
    rcases toq48b (x := x) (z := 0) hn with ⟨h1, h2⟩ | ⟨k, _, hk, h1, _, h2⟩
    · rw [show ((0 : Nat) : Int) = 0 from rfl] at h2
      rw [condT (okq48b_of h2), retq48b_of h2, clB_false (fun ⟨k, hk, z⟩ => h1 k (Nat.zero_le _) hk z)]
      rfl
    · rw [show ((0 : Nat) : Int) = 0 from rfl] at h2
      rw [condT (okq48b_of h2), retq48b_of h2, outq48b_of h2, clB_true ⟨k, hk, Classical.byContradiction h1⟩, cond_true, condT (decide_eq_true (show (k : Int) ≥ 0 by omega))]
  · simp [Tr.run] at hh
theorem lxq38 : (mkCx Tryz.prog (spOf [i31, tq13a, tq15, tq74]) (inlOf []) extD).Ok InvD := cx_of [] (by kernel_rfl) (by
  intro p hp
  simp only [List.mem_cons, List.not_mem_nil, or_false] at hp
  rcases hp with rfl | rfl | rfl | rfl
  · exact i31_ok
  · exact tq13a_ok
  · exact tq15_ok
  · exact tq74_ok)
theorem vtq38 (e : Bool) (s p w : Int) (ti : Int) (n : Nat) (x : Nat → Nat → Dt) (m : Nat) (q : Nat → Nat → Dt) (co : Int) : evFn (β := Res) Tryz.prog (spOf [i31, tq13a, tq15, tq74]) (inlOf []) extD (cKD [i31, tq13a, tq15, tq74] []) (fun _ => .unroll 0) Tryz.f38 [.agg [.bool e, .int .i64 s, .int .i64 p, .int .i64 w], .agg [.int .i64 ti, .isz n SS x, .isz m [.int .i64] q], .int .i64 co] [] (fun r _ => some r) =
    (bif n.ble 1000000 then bif erAB n x then bif e then some (.ret (.tup [.agg [.bool true, .int .i64 1, .int .i64 1, .int .i64 2], .int .i64 0])) else bif s != 0 then bif n.ble 1000000 then bif decide (duI n x ≥ s) then some (.ret (.tup [.agg [.bool true, .int .i64 1, .int .i64 1, .int .i64 3], .int .i64 0])) else bif trB ti && cpB co p w then some (.ret (.tup [.agg [.bool (keB ti co p w), .int .i64 (byN ti co p w), .int .i64 (byD ti co p w), .int .i64 5], .int .i64 0])) else none else none else bif trB ti && cpB co p w then some (.ret (.tup [.agg [.bool (keB ti co p w), .int .i64 (byN ti co p w), .int .i64 (byD ti co p w), .int .i64 5], .int .i64 0])) else none else bif e then bif s != 0 then bif n.ble 1000000 then bif decide (duI n x ≥ s) then some (.ret (.tup [.agg [.bool true, .int .i64 1, .int .i64 1, .int .i64 3], .int .i64 0])) else bif trB ti && cpB co p w then some (.ret (.tup [.agg [.bool (keB ti co p w), .int .i64 (byN ti co p w), .int .i64 (byD ti co p w), .int .i64 5], .int .i64 0])) else none else none else bif trB ti && cpB co p w then some (.ret (.tup [.agg [.bool (keB ti co p w), .int .i64 (byN ti co p w), .int .i64 (byD ti co p w), .int .i64 5], .int .i64 0])) else none else bif s != 0 then bif n.ble 1000000 then bif decide (duI n x ≥ s) then some (.ret (.tup [.agg [.bool true, .int .i64 1, .int .i64 1, .int .i64 3], .int .i64 0])) else bif trB ti && cpB co p w then some (.ret (.tup [.agg [.bool (keB ti co p w), .int .i64 (byN ti co p w), .int .i64 (byD ti co p w), .int .i64 5], .int .i64 0])) else none else none else bif trB ti && cpB co p w then some (.ret (.tup [.agg [.bool (keB ti co p w), .int .i64 (byN ti co p w), .int .i64 (byD ti co p w), .int .i64 5], .int .i64 0])) else none else none : Option Res) := by kernel_rfl
noncomputable def taR (e : Bool) (s : Int) (n : Nat) (x : Nat → Nat → Dt) : Int := if e = true ∧ erAB n x = true then 2 else if s ≠ 0 ∧ s ≤ duI n x then 3 else 5
noncomputable def taKB (e : Bool) (s p w ti : Int) (n : Nat) (x : Nat → Nat → Dt) (co : Int) : Bool := if taR e s n x = 5 then keB ti co p w else true
noncomputable def taN (e : Bool) (s p w ti : Int) (n : Nat) (x : Nat → Nat → Dt) (co : Int) : Int := if taR e s n x = 5 then byN ti co p w else 1
noncomputable def taD (e : Bool) (s p w ti : Int) (n : Nat) (x : Nat → Nat → Dt) (co : Int) : Int := if taR e s n x = 5 then byD ti co p w else 1
theorem ta_err {e : Bool} {s : Int} {n : Nat} {x : Nat → Nat → Dt} (h : e = true ∧ erAB n x = true) (p w ti co : Int) : taR e s n x = 2 ∧ taKB e s p w ti n x co = true ∧ taN e s p w ti n x co = 1 ∧ taD e s p w ti n x co = 1 := by
  have h1 : taR e s n x = 2 := if_pos h
  unfold taKB taN taD
  rw [h1]
  exact ⟨rfl, rfl, rfl, rfl⟩
theorem ta_slow {e : Bool} {s : Int} {n : Nat} {x : Nat → Nat → Dt} (h : ¬ (e = true ∧ erAB n x = true)) (h2 : s ≠ 0 ∧ s ≤ duI n x) (p w ti co : Int) : taR e s n x = 3 ∧ taKB e s p w ti n x co = true ∧ taN e s p w ti n x co = 1 ∧ taD e s p w ti n x co = 1 := by
  have h1 : taR e s n x = 3 := (if_neg h).trans (if_pos h2)
  unfold taKB taN taD
  rw [h1]
  exact ⟨rfl, rfl, rfl, rfl⟩
theorem ta_rest {e : Bool} {s : Int} {n : Nat} {x : Nat → Nat → Dt} (h : ¬ (e = true ∧ erAB n x = true)) (h2 : ¬ (s ≠ 0 ∧ s ≤ duI n x)) (p w ti co : Int) : taR e s n x = 5 ∧ taKB e s p w ti n x co = keB ti co p w ∧ taN e s p w ti n x co = byN ti co p w ∧ taD e s p w ti n x co = byD ti co p w := by
  have h1 : taR e s n x = 5 := (if_neg h).trans (if_neg h2)
  unfold taKB taN taD
  rw [h1]
  exact ⟨rfl, rfl, rfl, rfl⟩
noncomputable def tq38 : Ent := ⟨38, fun
  | [.agg [.bool e, .int .i64 s, .int .i64 p, .int .i64 w], .agg [.int .i64 ti, .isz n [.int .i64, .int .i64, .int .i64, .str, .str, .int .i64, .int .i64, .int .i64, .row [.str, .str], .row [.int .i64, .int .i64]] x, .isz m [.int .i64] q], .int .i64 co] => .chk (Nat.ble n 1000000 && (trB ti && cpB co p w)) (.leaf (.ret (.tup [D4 (taKB e s p w ti n x co) (taN e s p w ti n x co) (taD e s p w ti n x co) (taR e s n x), .int .i64 0])))
  | _ => .non⟩
set_option maxRecDepth 20000 in
theorem tq38_ok : SpecHolds Tryz.prog InvD 38 fun a => (tq38.2 a).run := by
  refine specD lxq38 Tryz.func38 (c := codeOf Tryz.prog 38) (by kernel_rfl) (fun _ => .unroll 0) (fun _ _ => trivial) fun args r hh => ?_
  unfold tq38 at hh
  simp only at hh
  split at hh
  · rename_i e s p w ti n x m q co
    obtain ⟨hg, hh⟩ := chk_run hh
    refine ⟨by kernel_rfl, tr_ok (by rfl) hh, ?_⟩
    refine (vtq38 e s p w ti n x m q co).trans (Eq.trans ?_ hh)
    rw [Bool.and_eq_true] at hg
    obtain ⟨g1, g2⟩ := hg
    show _ = some (Res.ret (.tup [D4 (taKB e s p w ti n x co) (taN e s p w ti n x co) (taD e s p w ti n x co) (taR e s n x), .int .i64 0]))
    rw [condT g1]
    cases hs : s != 0 with
    | true =>
      have hs' : s ≠ 0 := bne_iff_ne.1 hs
      cases ha : erAB n x with
      | true =>
        cases he : e with
        | true =>
          obtain ⟨h1, h2, h3, h4⟩ := ta_err (s := s) (n := n) (x := x) ⟨rfl, ha⟩ p w ti co
          rw [h1, h2, h3, h4]
          rfl
        | false =>
          rw [cond_true, cond_false, cond_true, condT g1]
          by_cases hd : s ≤ duI n x
          · obtain ⟨h1, h2, h3, h4⟩ := ta_slow (e := false) (n := n) (x := x) (fun z => Bool.false_ne_true z.1) ⟨hs', hd⟩ p w ti co
            rw [condT (decide_eq_true (show duI n x ≥ s from hd)), h1, h2, h3, h4]
          · obtain ⟨h1, h2, h3, h4⟩ := ta_rest (e := false) (n := n) (x := x) (fun z => Bool.false_ne_true z.1) (fun z => hd z.2) p w ti co
            rw [condF (decide_eq_false (show ¬ duI n x ≥ s from hd)), condT g2, h1, h2, h3, h4]
      | false =>
        have hn : ¬ (e = true ∧ erAB n x = true) := fun z => by rw [z.2] at ha; cases ha
        have hR : (bif n.ble 1000000 then bif decide (duI n x ≥ s) then some (Res.ret (.tup [.agg [.bool true, .int .i64 1, .int .i64 1, .int .i64 3], .int .i64 0])) else bif trB ti && cpB co p w then some (.ret (.tup [.agg [.bool (keB ti co p w), .int .i64 (byN ti co p w), .int .i64 (byD ti co p w), .int .i64 5], .int .i64 0])) else none else none) = some (Res.ret (.tup [D4 (taKB e s p w ti n x co) (taN e s p w ti n x co) (taD e s p w ti n x co) (taR e s n x), .int .i64 0])) := by
          rw [condT g1]
          by_cases hd : s ≤ duI n x
          · obtain ⟨h1, h2, h3, h4⟩ := ta_slow hn ⟨hs', hd⟩ p w ti co
            rw [condT (decide_eq_true (show duI n x ≥ s from hd)), h1, h2, h3, h4]
          · obtain ⟨h1, h2, h3, h4⟩ := ta_rest hn (fun z => hd z.2) p w ti co
            rw [condF (decide_eq_false (show ¬ duI n x ≥ s from hd)), condT g2, h1, h2, h3, h4]
        rw [← hR]
        cases e <;> rfl
    | false =>
      have hs' : ¬ (s ≠ 0 ∧ s ≤ duI n x) := fun z => z.1 (bne_eq_false_iff_eq.1 hs)
      rw [condT g2]
      by_cases ha : e = true ∧ erAB n x = true
      · obtain ⟨h1, h2, h3, h4⟩ := ta_err (s := s) ha p w ti co
        rw [h1, h2, h3, h4, ha.1, ha.2]
        rfl
      · obtain ⟨h1, h2, h3, h4⟩ := ta_rest ha hs' p w ti co
        rw [h1, h2, h3, h4]
        cases hb : erAB n x with
        | true =>
          cases he : e with
          | true => exact absurd ⟨he, hb⟩ ha
          | false => rfl
        | false => cases e <;> rfl
  · simp [Tr.run] at hh
theorem lxq10 : (mkCx Tryz.prog (spOf [t17, tq36, tq37, tq38]) (inlOf []) extD).Ok InvD := cx_of [] (by kernel_rfl) (by
  intro p hp
  simp only [List.mem_cons, List.not_mem_nil, or_false] at hp
  rcases hp with rfl | rfl | rfl | rfl
  · exact t17_ok
  · exact tq36_ok
  · exact tq37_ok
  · exact tq38_ok)
theorem vtq10 (e : Bool) (s p w : Int) (ti : Int) (n : Nat) (x : Nat → Nat → Dt) (m : Nat) (q : Nat → Nat → Dt) (co : Int) : evFn (β := Res) Tryz.prog (spOf [t17, tq36, tq37, tq38]) (inlOf []) extD (cKD [t17, tq36, tq37, tq38] []) (fun _ => .unroll 0) Tryz.f10 [.agg [.bool e, .int .i64 s, .int .i64 p, .int .i64 w], .agg [.int .i64 ti, .isz n SS x, .isz m [.int .i64] q], .int .i64 co] [] (fun r _ => some r) =
    (bif poB s p w then bif decide (co < 0) then some (.ret (.tup [.agg [.bool false, .int .i64 0, .int .i64 0, .int .i64 0], .int .i64 2])) else bif decide (co ≥ w) then some (.ret (.tup [.agg [.bool false, .int .i64 0, .int .i64 0, .int .i64 0], .int .i64 2])) else bif n.ble 12 && (bdE n x != 0 || okB n x) then bif bdE n x != 0 then some (.ret (.tup [.agg [.bool false, .int .i64 0, .int .i64 0, .int .i64 0], .int .i64 1])) else bif (bdN n x).ble 1000000 && (smGB (bdN n x) (bdS n x) && (bdN n x).ble 1000000) then bif clB (TrE (bdI n x) (bdN n x) (bdS n x) (bdN n x) (bdP n x) ti n x m q) then bif n.ble 1000000 && (trB ti && cpB co p w) then some (.ret (.tup [.agg [.bool (taKB e s p w ti n x co), .int .i64 (taN e s p w ti n x co), .int .i64 (taD e s p w ti n x co), .int .i64 (taR e s n x)], .int .i64 0])) else none else some (.ret (.tup [.agg [.bool false, .int .i64 0, .int .i64 0, .int .i64 0], .int .i64 1])) else none else none else some (.ret (.tup [.agg [.bool false, .int .i64 0, .int .i64 0, .int .i64 0], .int .i64 1])) : Option Res) := by kernel_rfl
theorem smGB_iff {n : Nat} {x : Nat → Nat → Dt} : smGB n x = true ↔ ∀ k, k < n → smV (vE x k) := by
  unfold smGB smV
  rw [List.all_eq_true]
  constructor
  · intro h k hk
    have := h k (List.mem_range.2 hk)
    simpa [vE, nmE, dtF, Dt.len] using this
  · intro h k hk
    have := h k (List.mem_range.1 hk)
    simpa [vE, nmE, dtF, Dt.len] using this
theorem bd_sm {n : Nat} {x : Nat → Nat → Dt} (hn : n ≤ 12) (hs : smGB n x = true) : bdN n x ≤ 12 ∧ smGB (bdN n x) (bdS n x) = true := by
  by_cases h : bdE n x = 0
  · obtain ⟨e1, e2⟩ := trW_of hn h
    rw [e1]
    refine ⟨hn, smGB_iff.2 fun k hk => ?_⟩
    have e : vE (bdS n x) k = vE (soF n x) (kE n (soF n x) k) := by unfold vE; rw [e2.sp k hk, vE_nmT]
    rw [e]
    exact smV_perm (soF_ok n x).2 (smGB_iff.1 hs) _ (kE_lt hn hk)
  · have e : bdN n x = 0 := by unfold bdN; rw [show (bdE n x == 0) = false from beq_eq_false_iff_ne.2 h]; rfl
    rw [e]
    exact ⟨by omega, rfl⟩
theorem bd_tr {n : Nat} {x : Nat → Nat → Dt} (h : bdE n x = 0) : trB (bdI n x) = true := by
  have hg := bdE_iff.1 h
  have h1 : spE x 0 = 0 := hg.2.1 0 hg.1
  unfold bdI
  rw [show (bdE n x == 0) = true from beq_iff_eq.2 h, cond_true]
  unfold spE scE at h1
  split at h1
  · rename_i h2
    exact h2.1
  · cases h1
noncomputable def tlE (s p w ti : Int) (n : Nat) (x : Nat → Nat → Dt) (m : Nat) (q : Nat → Nat → Dt) (co : Int) : Int :=
  if poB s p w = true then (if co < 0 ∨ w ≤ co then 2 else if clB (bdE n x = 0 ∧ TrE (bdI n x) (bdN n x) (bdS n x) (bdN n x) (bdP n x) ti n x m q) = true then 0 else 1) else 1
noncomputable def tlKB (e : Bool) (s p w ti : Int) (n : Nat) (x : Nat → Nat → Dt) (m : Nat) (q : Nat → Nat → Dt) (co : Int) : Bool := if tlE s p w ti n x m q co = 0 then taKB e s p w ti n x co else false
noncomputable def tlN (e : Bool) (s p w ti : Int) (n : Nat) (x : Nat → Nat → Dt) (m : Nat) (q : Nat → Nat → Dt) (co : Int) : Int := if tlE s p w ti n x m q co = 0 then taN e s p w ti n x co else 0
noncomputable def tlD (e : Bool) (s p w ti : Int) (n : Nat) (x : Nat → Nat → Dt) (m : Nat) (q : Nat → Nat → Dt) (co : Int) : Int := if tlE s p w ti n x m q co = 0 then taD e s p w ti n x co else 0
noncomputable def tlR (e : Bool) (s p w ti : Int) (n : Nat) (x : Nat → Nat → Dt) (m : Nat) (q : Nat → Nat → Dt) (co : Int) : Int := if tlE s p w ti n x m q co = 0 then taR e s n x else 0
theorem tl_bad {s p w ti : Int} {n : Nat} {x : Nat → Nat → Dt} {m : Nat} {q : Nat → Nat → Dt} {co r : Int} (h : tlE s p w ti n x m q co = r) (hr : r ≠ 0) (e : Bool) : tlKB e s p w ti n x m q co = false ∧ tlN e s p w ti n x m q co = 0 ∧ tlD e s p w ti n x m q co = 0 ∧ tlR e s p w ti n x m q co = 0 := by
  unfold tlKB tlN tlD tlR
  rw [h, if_neg hr, if_neg hr, if_neg hr, if_neg hr]
  exact ⟨rfl, rfl, rfl, rfl⟩
theorem tl_good {s p w ti : Int} {n : Nat} {x : Nat → Nat → Dt} {m : Nat} {q : Nat → Nat → Dt} {co : Int} (h : tlE s p w ti n x m q co = 0) (e : Bool) : tlKB e s p w ti n x m q co = taKB e s p w ti n x co ∧ tlN e s p w ti n x m q co = taN e s p w ti n x co ∧ tlD e s p w ti n x m q co = taD e s p w ti n x co ∧ tlR e s p w ti n x m q co = taR e s n x := by
  unfold tlKB tlN tlD tlR
  rw [if_pos h, if_pos h, if_pos h, if_pos h]
  exact ⟨rfl, rfl, rfl, rfl⟩
theorem bd_guard {n : Nat} {x : Nat → Nat → Dt} (h12 : n ≤ 12) : (n.ble 12 && (bdE n x != 0 || okB n x)) = true := by
  rw [Nat.ble_eq_true_of_le h12, Bool.true_and]
  cases e : bdE n x != 0 with
  | true => rfl
  | false => rw [(okB_true h12 (by simpa using e)).1]; rfl
noncomputable def tq10 : Ent := ⟨10, fun
  | [.agg [.bool e, .int .i64 s, .int .i64 p, .int .i64 w], .agg [.int .i64 ti, .isz n [.int .i64, .int .i64, .int .i64, .str, .str, .int .i64, .int .i64, .int .i64, .row [.str, .str], .row [.int .i64, .int .i64]] x, .isz m [.int .i64] q], .int .i64 co] => .chk (Nat.ble n 12 && smGB n x) (.leaf (.ret (.tup [D4 (tlKB e s p w ti n x m q co) (tlN e s p w ti n x m q co) (tlD e s p w ti n x m q co) (tlR e s p w ti n x m q co), .int .i64 (tlE s p w ti n x m q co)])))
  | _ => .non⟩
set_option maxRecDepth 20000 in
theorem tq10_ok : SpecHolds Tryz.prog InvD 10 fun a => (tq10.2 a).run := by
  refine specD lxq10 Tryz.func10 (c := codeOf Tryz.prog 10) (by kernel_rfl) (fun _ => .unroll 0) (fun _ _ => trivial) fun args r hh => ?_
  unfold tq10 at hh
  simp only at hh
  split at hh
  · rename_i e s p w ti n x m q co
    obtain ⟨hg, hh⟩ := chk_run hh
    refine ⟨by kernel_rfl, tr_ok (by rfl) hh, ?_⟩
    refine (vtq10 e s p w ti n x m q co).trans (Eq.trans ?_ hh)
    rw [Bool.and_eq_true] at hg
    have hn : n ≤ 12 := by simpa using hg.1
    obtain ⟨b12, bsm⟩ := bd_sm hn hg.2
    show _ = some (Res.ret (.tup [D4 (tlKB e s p w ti n x m q co) (tlN e s p w ti n x m q co) (tlD e s p w ti n x m q co) (tlR e s p w ti n x m q co), .int .i64 (tlE s p w ti n x m q co)]))
    cases hp : poB s p w with
    | false =>
      have h0 : tlE s p w ti n x m q co = 1 := by unfold tlE; rw [hp, if_neg Bool.false_ne_true]
      obtain ⟨h1, h2, h3, h4⟩ := tl_bad h0 (by decide) e
      rw [h0, h1, h2, h3, h4]; rfl
    | true =>
      rw [cond_true]
      by_cases hc : co < 0 ∨ w ≤ co
      · have h0 : tlE s p w ti n x m q co = 2 := by unfold tlE; rw [hp, if_pos rfl, if_pos hc]
        obtain ⟨h1, h2, h3, h4⟩ := tl_bad h0 (by decide) e
        rw [h0, h1, h2, h3, h4]
        by_cases hc1 : co < 0
        · rw [condT (decide_eq_true hc1)]
        · rw [condF (decide_eq_false hc1), condT (decide_eq_true (show co ≥ w by omega))]
      · rw [condF (decide_eq_false (show ¬ co < 0 by omega)), condF (decide_eq_false (show ¬ co ≥ w by omega)), condT (bd_guard hn)]
        have hE : tlE s p w ti n x m q co = if clB (bdE n x = 0 ∧ TrE (bdI n x) (bdN n x) (bdS n x) (bdN n x) (bdP n x) ti n x m q) = true then 0 else 1 := by unfold tlE; rw [hp, if_pos rfl, if_neg hc]
        by_cases hb : bdE n x = 0
        · rw [condF (show (bdE n x != 0) = false by rw [hb]; rfl), condT (show ((bdN n x).ble 1000000 && (smGB (bdN n x) (bdS n x) && (bdN n x).ble 1000000)) = true by rw [Nat.ble_eq_true_of_le (show bdN n x ≤ 1000000 by omega), bsm]; rfl)]
          by_cases ht : TrE (bdI n x) (bdN n x) (bdS n x) (bdN n x) (bdP n x) ti n x m q
          · rw [clB_true ⟨hb, ht⟩, if_pos rfl] at hE
            obtain ⟨h1, h2, h3, h4⟩ := tl_good hE e
            have hcp : cpB co p w = true := by
              unfold poB at hp
              rw [Bool.and_eq_true] at hp
              obtain ⟨c1, c2, c3⟩ := cpB_iff.1 hp.2
              exact cpB_iff.2 ⟨c1, c2, by omega⟩
            rw [condT (clB_true ht), condT (show (n.ble 1000000 && (trB ti && cpB co p w)) = true by rw [Nat.ble_eq_true_of_le (show n ≤ 1000000 by omega), ← ht.1, bd_tr hb, hcp]; rfl), hE, h1, h2, h3, h4]
          · rw [clB_false (fun z => ht z.2), if_neg Bool.false_ne_true] at hE
            obtain ⟨h1, h2, h3, h4⟩ := tl_bad hE (by decide) e
            rw [condF (clB_false ht), hE, h1, h2, h3, h4]
        · rw [clB_false (fun z => hb z.1), if_neg Bool.false_ne_true] at hE
          obtain ⟨h1, h2, h3, h4⟩ := tl_bad hE (by decide) e
          rw [condT (bne_iff_ne.2 hb), hE, h1, h2, h3, h4]
  · simp [Tr.run] at hh
end Go.Proofs.YtfepnmpoplcbmaaGreat.T
