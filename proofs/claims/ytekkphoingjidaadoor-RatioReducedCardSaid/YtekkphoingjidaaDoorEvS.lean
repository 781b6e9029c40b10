/- A function that turns its callee's panic into a result (a deferred recover). Conditions: its text has the shape given. -/
import Derived.Test.YtekkphoingjidaaDoorEvR
import Derived.DefersIn
import Derived.RecoverIn
import Derived.WideLaws
namespace Go.Evl
open Go.RowKit

structure Att where
  fa : FuncId
  fna : Func
  A : Code
  id1 : Nat
  om : Oper
  od : Oper
  C : Code
  t : Tmp
  g : FuncId
  fng : Func
  id2 : Nat
  orec : Oper
  obin : Oper
  dr : Tmp
  db : Tmp
  ti : TypeId
  tj : TypeId
  X : Code

structure Att.Ok (P : Program) (T : Att) : Prop where
  hfa : P.funcs[T.fa]? = some T.fna
  hba : T.fna.body = some (.seq T.A (.seq (.region T.id1 #[T.om, T.od] false) T.C))
  hod : T.od.op = .defer { callee := .value (.tmp T.t), args := #[], argTypes := #[] }
  hodg : T.od.guard = none
  hodd : T.od.dst = none
  hfg : P.funcs[T.g]? = some T.fng
  hgn : (T.fng.name == "runtime.NumGoroutine") = false
  hbg : T.fng.body = some (.seq (.region T.id2 #[T.orec, T.obin] false) (.cond (.tmp T.db) T.X .skip))
  hrec : T.orec.op = .call { callee := .builtin .recover, args := #[], argTypes := #[] }
  hrecg : T.orec.guard = none
  hrecd : T.orec.dst = some T.dr
  hbin : T.obin.op = .binOp .neq T.ti (.tmp T.dr) (.const .nilIface) T.tj
  hbing : T.obin.guard = none
  hbind : T.obin.dst = some T.db
  hdr : (show Nat from T.dr) < T.fng.ntmps
  hdb : (show Nat from T.db) < T.fng.ntmps
  hres : T.fng.results = #[]
  hti : P.underlying T.ti = some (.interface (P.methodsAt T.ti))
  hne : T.dr ≠ T.db

def attEnd (P : Program) (T : Att) (tm : List AV) (H : List Ob) : Option (Res × List Ob) :=
  (resultsA P ⟨tm, H⟩ T.fna.results.toList).map fun vs => (.ret (packA vs), H)
def attRun (Γ : Cx) (cf : CallF) (df : DrawF) (lp lpg : Nat → LK) (T : Att) (args : List AV) (H : List Ob) : Option (Res × List Ob) :=
  match runC Γ cf df lp T.A ⟨frame0 T.fna args, H⟩ with
  | some (.normal, st0) =>
    match stepA Γ cf #[T.om, T.od] 0 st0 with
    | some (true, st1) =>
      match getT st1.tm T.t with
      | .fn (.func g) cs =>
        if Nat.beq g T.g && Nat.ble cs.length T.fng.ntmps then
          match runC Γ cf df lp T.C st1 with
          | some (.ret, st2) => attEnd Γ.P T st2.tm st2.hp
          | some (.normal, st2) => attEnd Γ.P T st2.tm st2.hp
          | some (.pan, st2) =>
            match runC Γ cf df lpg T.X ⟨((frame0 T.fng cs).set T.dr .junk).set T.db (.bool true), st2.hp⟩ with
            | some (.normal, st3) => attEnd Γ.P T st2.tm st3.hp
            | _ => none
          | _ => none
        else none
      | _ => none
    | _ => none
  | _ => none


section
variable {Γ : Cx} {Inv : World → Prop} {cf : CallF} {df : DrawF} {lp lpg : Nat → LK} {w0 : World} {T : Att}

theorem defer_run {P : Program} {x : Operand → Value} {o : Oper} {t : Tmp} (ho : o.op = .defer { callee := .value (.tmp t), args := #[], argTypes := #[] }) {g : FuncId} {us : Array Value} (hx : x (.tmp t) = .func (.func g) #[] us) (w : World) :
    (execOp x o).run P w = .ok (.defer { target := .fn (.func g) us, args := #[] }) w := by
  simp [execOp, ho, resolve, hx, Deferred.ofValue]

theorem attEnd_sound {ρ : Nat → Nat} {A : Nat → Prop} {w1 w : World} {D : List Deferred} {st : St} {a : Act} {H : List Ob} {q : Res} {H' : List Ob} (hr : Rel D w0 ρ A st a w) (h : attEnd Γ.P T st.tm st.hp = some (q, H'))
    {ρ0 : Nat → Nat} {A0 : Nat → Prop} (hext : Ext (Live H) ρ0 A0 w1 (Live st.hp) ρ A w) : ∃ v, (results T.fna a.tmps).run Γ.P w = .ok v w ∧ EndRel w0 ρ0 A0 w1 H q H' (.returned v) w := by
  obtain ⟨vs, hvs, he⟩ := Option.map_eq_some_iff.1 h
  simp only [Prod.mk.injEq] at he
  obtain ⟨rfl, rfl⟩ := he
  obtain ⟨u, hu, hru⟩ := results_run (fn := T.fna) (xs := vs) (st := st) hr hvs
  exact ⟨u, hu, ρ, A, hr.mem, hext, u, rfl, hru⟩

theorem attRun_sound (hT : T.Ok Γ.P) (hΓ : Γ.Ok Inv) (hI : Stable Inv) (h0 : Inv w0) (hcf : CallSound Γ.P Inv cf) (hdf : DrawSound Γ.P Inv df) (hdl : DrawLen df)
    (hlA : LoopsOk Γ cf df lp T.fna.ntmps T.A) (hlC : LoopsOk Γ cf df lp T.fna.ntmps T.C) (hlX : LoopsOk Γ cf df lpg T.fng.ntmps T.X) {args : List AV} {H : List Ob} {q : Res} {H' : List Ob} (hargs : args.length ≤ T.fna.ntmps)
    (h : attRun Γ cf df lp lpg T args H = some (q, H')) {ρ : Nat → Nat} {A : Nat → Prop} {w : World} {vs : List Value} (hm : Mem w0 ρ A w H) (hv : Rvs ρ A w (Live H) args vs) :
    Calls Γ.P T.fa vs.toArray w (EndRel w0 ρ A w H q H') := by
  rw [← callsIn_fr (r := none) (n := 1)]
  have hlen : vs.length = args.length := hv.1.symm
  have hrel : Rel [] w0 ρ A ⟨frame0 T.fna args, H⟩ { tmps := vs.toArray ++ Array.replicate (T.fna.ntmps - vs.toArray.size) undef, defers := [] } w := by
    refine ⟨?_, rfl, hm⟩
    have : (vs.toArray ++ Array.replicate (T.fna.ntmps - vs.toArray.size) undef).toList = vs ++ List.replicate (T.fna.ntmps - args.length) undef := by simp [hlen]
    rw [this]
    exact hv.append (.replicate .raw _)
  have hl0 : (frame0 T.fna args).length = T.fna.ntmps := by simp [frame0]; omega
  refine callsIn_of_wp_defers hT.hfa hT.hba trivial ?_ rfl
  unfold attRun at h
  split at h
  case h_2 => simp at h
  rename_i st0 hA
  split at h
  case h_2 => simp at h
  rename_i st1 hop
  split at h
  case h_2 => simp at h
  rename_i g cs hg
  split at h
  case isFalse => simp at h
  rename_i hgc
  simp only [Bool.and_eq_true, Nat.beq_eq, Nat.ble_eq] at hgc
  obtain ⟨rfl, hcs⟩ := hgc
  have hl1 : st0.tm.length = T.fna.ntmps := by rw [runC_length hdl _ hA]; exact hl0
  have hl2 : st1.tm.length = T.fna.ntmps := by rw [stepA_length hop]; exact hl1
  refine wpIn_seq (wpIn_mono (runC_sound hΓ hI h0 hcf hdf hdl _ T.A (Nat.le_refl _) hlA _ ρ A w _ .normal st0 hrel hl0 hA) ?_)
  rintro x a0 wa ⟨ρa, Aa, hxa, rfl, hra⟩
  refine wpIn_seq (wpIn_region ?_)
  show wpOpsIn _ _ _ _ _ [0, 1] _ _
  rw [wpOpsIn_cons]
  refine stepA_sound hΓ hI h0 hcf hra hop (fun _ => ?_) (fun e => by cases e)
  rintro a1 wb ⟨ρb, Ab, hxb, _, hrb⟩
  rw [wpOpsIn_cons]
  unfold wpOpIn
  have e1 : (#[T.om, T.od] : Array Oper)[1]? = some T.od := rfl
  simp only [e1, Region.wanted, hT.hodg, if_true]
  have hfv := opd_rv hrb.tm (.tmp T.t)
  simp only [opd, hg] at hfv
  obtain ⟨us, hus, hurv⟩ := hfv.of_fn
  refine ⟨fun _ _ => trivial, ?_⟩
  rw [show Oper.semAt (Fr none).round a1.eval T.od = execOp a1.eval T.od from rfl, defer_run hT.hod hus wb]
  rw [Oper.uponIn_defer]
  change Code.wpIn (Fr none) 1 Γ.P T.C (bodyPostDIn (Fr none) 1 Γ.P T.fna (EndRel w0 ρ A w H q H')) ({ a1 with defers := { target := .fn (.func T.g) us.toArray, args := #[] } :: a1.defers }.put T.od.dst undef) wb
  have hd1 : ({ a1 with defers := { target := .fn (.func T.g) us.toArray, args := #[] } :: a1.defers }.put T.od.dst undef) = { a1 with defers := [{ target := .fn (.func T.g) us.toArray, args := #[] }] } := by
    rw [hT.hodd, hrb.df]; rfl
  rw [hd1]
  have hrd : Rel [{ target := .fn (.func T.g) us.toArray, args := #[] }] w0 ρb Ab st1 { a1 with defers := [{ target := .fn (.func T.g) us.toArray, args := #[] }] } wb := ⟨hrb.tm, rfl, hrb.mem⟩
  have hinv : ∀ w, (invoke (.fn (.func T.g) us.toArray) #[]).run Γ.P w = .ok (.enter T.g us.toArray) w := fun w => by
    have : (invoke (.fn (.func T.g) us.toArray) #[]).run Γ.P w = (callFunc T.g us.toArray).run Γ.P w := by simp [invoke]
    rw [this, callFunc_enter hT.hfg hT.hgn (by simp [hT.hbg])]
  have hne : T.dr ≠ T.db := hT.hne
  have hrr : ∀ x w, (execOp x T.orec).run Γ.P w = .ok .recover w := fun x w => by
    simp only [execOp, hT.hrec, resolve]
    simp [invoke]
    rfl
  have hul : us.length = cs.length := hurv.1.symm
  have e0' : (#[T.orec, T.obin] : Array Oper)[0]? = some T.orec := rfl
  have e1' : (#[T.orec, T.obin] : Array Oper)[1]? = some T.obin := rfl
  have hres0 : ∀ tmps w, (results T.fng tmps).run Γ.P w = .ok (.tuple #[]) w := fun tmps w => by simp [results, hT.hres]
  -- the catching function in a frame that returns
  have idle : ∀ w', CallsDIn (Fr none) 0 Γ.P T.g us.toArray .returning w' fun e u' w'' => e = .returned (.tuple #[]) ∧ u' = .returning ∧ w'' = w' := by
    intro w'
    refine callsDIn_of_wpSIn hT.hfg hT.hbg trivial fun c₀ cs₀ hu => ?_
    refine wpSIn_seq (wpSIn_region ?_)
    show wpOpsSIn _ _ _ _ _ [0, 1] _ _ _
    have hrd0 : recoverD (c₀ :: cs₀) = none := by simp [recoverD, hu]
    have hev : (({ tmps := us.toArray ++ Array.replicate (T.fng.ntmps - us.toArray.size) undef, defers := [] } : Act).put (some T.dr) .nilIface).eval (.tmp T.dr) = .nilIface := by
      have h1 : (show Nat from T.dr) < us.length + (T.fng.ntmps - us.length) := by have := hT.hdr; omega
      have h2 : T.dr < us.length + (T.fng.ntmps - us.length) := h1
      simp [Act.put, Act.eval, Array.getD, h2]
    have hbr : (execOp (({ tmps := us.toArray ++ Array.replicate (T.fng.ntmps - us.toArray.size) undef, defers := [] } : Act).put (some T.dr) .nilIface).eval T.obin).run Γ.P w' = .ok (.value (.bool false)) w' := by
      simp only [execOp, hT.hbin, hev]
      simp [Act.eval, eqGuard, run_neq_nil_nil _ _ hT.hti]
    simp only [wpOpsSIn, e0', e1', Region.wanted, hT.hrecg, hT.hbing, if_true, hrr, hrd0, hT.hrecd, hT.hbind, hbr]
    refine ⟨fun _ _ => trivial, fun _ _ => trivial, ?_⟩
    refine wpSIn_cond (t := false) ?_ ?_
    · have h1 : (show Nat from T.db) < us.length + (T.fng.ntmps - us.length) := by have := hT.hdb; omega
      have h2 : T.db < us.length + (T.fng.ntmps - us.length) := h1
      simp [Act.put, Act.eval, Array.getD, h2]
    · simp only [Bool.false_eq_true, if_false]
      refine wpSIn_of_wpIn rfl (wpIn_skip ?_)
      exact ⟨rfl, .returning, by cases c₀; simp_all, _, hres0 _ _, rfl, rfl, rfl⟩
  -- the catching function in a frame that panics
  have catching : ∀ (t : TypeId) (v : Value) (ρ2 : Nat → Nat) (A2 : Nat → Prop) (w2 : World) (st2 st3 : St), Mem w0 ρ2 A2 w2 st2.hp → Rvs ρ2 A2 w2 (Live st2.hp) cs us → runC Γ cf df lpg T.X ⟨((frame0 T.fng cs).set T.dr .junk).set T.db (.bool true), st2.hp⟩ = some (.normal, st3) →
      CallsDIn (Fr none) 0 Γ.P T.g us.toArray (.panicking [{ v := .iface t v, recovered := false }]) w2 fun e u' w3 => e = .returned (.tuple #[]) ∧ u' = .panicking [{ v := .iface t v, recovered := true }] ∧
        ∃ ρ3 A3, Mem w0 ρ3 A3 w3 st3.hp ∧ Ext (Live st2.hp) ρ2 A2 w2 (Live st3.hp) ρ3 A3 w3 := by
    intro t v ρ2 A2 w2 st2 st3 hm2 hus2 hX
    refine callsDIn_of_wpSIn hT.hfg hT.hbg trivial fun c₀ cs₀ hu => ?_
    refine wpSIn_seq (wpSIn_region ?_)
    show wpOpsSIn _ _ _ _ _ [0, 1] _ _ _
    have hrd0 : recoverD (c₀ :: cs₀) = some (.iface t v, { c₀ with mode := .panicking [{ v := .iface t v, recovered := true }] } :: cs₀) := by simp [recoverD, hu]
    have hev : (({ tmps := us.toArray ++ Array.replicate (T.fng.ntmps - us.toArray.size) undef, defers := [] } : Act).put (some T.dr) (.iface t v)).eval (.tmp T.dr) = .iface t v := by
      have h1 : (show Nat from T.dr) < us.length + (T.fng.ntmps - us.length) := by have := hT.hdr; omega
      have h2 : T.dr < us.length + (T.fng.ntmps - us.length) := h1
      simp [Act.put, Act.eval, Array.getD, h2]
    have hbr : (execOp (({ tmps := us.toArray ++ Array.replicate (T.fng.ntmps - us.toArray.size) undef, defers := [] } : Act).put (some T.dr) (.iface t v)).eval T.obin).run Γ.P w2 = .ok (.value (.bool true)) w2 := by
      simp only [execOp, hT.hbin, hev]
      simp [Act.eval, eqGuard, run_neq_held_nil _ _ _ _ hT.hti]
    simp only [wpOpsSIn, e0', e1', Region.wanted, hT.hrecg, hT.hbing, if_true, hrr, hrd0, hT.hrecd, hT.hbind, hbr]
    refine ⟨fun _ _ => trivial, fun _ _ => trivial, ?_⟩
    refine wpSIn_cond (t := true) ?_ ?_
    · have h1 : (show Nat from T.db) < us.length + (T.fng.ntmps - us.length) := by have := hT.hdb; omega
      have h2 : T.db < us.length + (T.fng.ntmps - us.length) := h1
      simp [Act.put, Act.eval, Array.getD, h2]
    · simp only [if_true]
      have hrx : Rel [] w0 ρ2 A2 ⟨((frame0 T.fng cs).set T.dr .junk).set T.db (.bool true), st2.hp⟩
          ((({ tmps := us.toArray ++ Array.replicate (T.fng.ntmps - us.toArray.size) undef, defers := [] } : Act).put (some T.dr) (.iface t v)).put (some T.db) (.bool true)) w2 := by
        refine ⟨?_, rfl, hm2⟩
        have hbase : Rvs ρ2 A2 w2 (Live st2.hp) (frame0 T.fng cs) ({ tmps := us.toArray ++ Array.replicate (T.fng.ntmps - us.toArray.size) undef, defers := [] } : Act).tmps.toList := by
          have : (us.toArray ++ Array.replicate (T.fng.ntmps - us.toArray.size) undef).toList = us ++ List.replicate (T.fng.ntmps - cs.length) undef := by simp [hul]
          show Rvs ρ2 A2 w2 (Live st2.hp) (frame0 T.fng cs) (us.toArray ++ Array.replicate (T.fng.ntmps - us.toArray.size) undef).toList
          rw [this]
          exact hus2.append (.replicate .raw _)
        exact put_rel (put_rel hbase (some T.dr) .junk) (some T.db) .bool
      have hlx : (((frame0 T.fng cs).set T.dr .junk).set T.db (.bool true)).length = T.fng.ntmps := by simp [frame0]; omega
      refine wpSIn_of_wpIn rfl (wpIn_mono (runC_sound hΓ hI h0 hcf hdf hdl _ T.X (Nat.le_refl _) hlX _ ρ2 A2 w2 _ .normal st3 hrx hlx hX) ?_)
      rintro x a3 w3 ⟨ρ3, A3, hx3, rfl, hr3⟩
      exact ⟨hr3.df, _, rfl, _, hres0 _ _, rfl, rfl, ρ3, A3, hr3.mem, hx3⟩
  have hx1 := hxa.trans hxb
  split at h
  · rename_i st2 hC
    refine wpIn_mono (runC_sound hΓ hI h0 hcf hdf hdl _ T.C (Nat.le_refl _) hlC st1 ρb Ab wb _ .ret st2 hrd hl2 hC) ?_
    rintro x a2 w2 ⟨ρ2, A2, hx2, rfl, hr2⟩
    show LeavesIn _ _ _ _ a2.tmps _ a2.defers .returning w2
    rw [hr2.df]
    refine leavesIn_cons (by simp) (fun h => by simp [Fence.wide] at h) (hinv w2) (fun _ _ => trivial) ((idle w2).mono ?_)
    rintro e u' w3 ⟨rfl, rfl, rfl⟩
    exact attEnd_sound hr2 h (hx1.trans hx2)
  · rename_i st2 hC
    refine wpIn_mono (runC_sound hΓ hI h0 hcf hdf hdl _ T.C (Nat.le_refl _) hlC st1 ρb Ab wb _ .normal st2 hrd hl2 hC) ?_
    rintro x a2 w2 ⟨ρ2, A2, hx2, rfl, hr2⟩
    show LeavesIn _ _ _ _ a2.tmps _ a2.defers .returning w2
    rw [hr2.df]
    refine leavesIn_cons (by simp) (fun h => by simp [Fence.wide] at h) (hinv w2) (fun _ _ => trivial) ((idle w2).mono ?_)
    rintro e u' w3 ⟨rfl, rfl, rfl⟩
    exact attEnd_sound hr2 h (hx1.trans hx2)
  · rename_i st2 hC
    split at h
    · rename_i st3 hX
      refine wpIn_mono (runC_sound hΓ hI h0 hcf hdf hdl _ T.C (Nat.le_refl _) hlC st1 ρb Ab wb _ .pan st2 hrd hl2 hC) ?_
      rintro x a2 w2 ⟨ρ2, A2, hx2, t, v, rfl, hr2⟩
      show LeavesIn _ _ _ _ a2.tmps _ a2.defers (.panicking _) w2
      rw [hr2.df]
      refine leavesIn_cons (by simp) (fun h => by simp [Fence.wide] at h) (hinv w2) (fun _ _ => trivial) ((catching t v ρ2 A2 w2 st2 st3 hr2.mem (hx2.rvs hurv) hX).mono ?_)
      rintro e u' w3 ⟨rfl, rfl, ρ3, A3, hm3, hx3⟩
      show LeavesIn _ _ _ _ a2.tmps _ [] .returning w3
      exact attEnd_sound (st := ⟨st2.tm, st3.hp⟩) (D := [{ target := .fn (.func T.g) us.toArray, args := #[] }]) (a := a2) ⟨hx3.rvs hr2.tm, hr2.df, hm3⟩ h ((hx1.trans hx2).trans hx3)
    · simp at h
  · simp at h
end
end Go.Evl
