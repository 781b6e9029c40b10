/- Each operation acts by its plan. Conditions: the context's contracts hold. -/
import Derived.Test.YtekkphoingjidaaDoorEvD
namespace Go.Evl
open Go.RowKit

section
variable {P : Program} {ρ : Nat → Nat} {A : Nat → Prop} {w : World} {n : Nat → Prop}

theorem Rvs.map_const (vs : List Value) : Rvs ρ A w n (vs.map ofConst) vs :=
  ⟨by simp, fun i hc hv => by simpa using ofConst_rv vs[i]⟩
theorem zeroA_run {t : TypeId} {cs : List AV} (h : zeroA P t = some cs) : ∃ z : Value, (∀ w', (zeroValue t).run P w' = .ok z w') ∧ Rvs ρ A w n cs z.cells.toList := by
  unfold zeroA at h
  cases hi : P.info? t with
  | none => simp [hi] at h
  | some i =>
    cases hz : i.zero with
    | none => simp [hi, hz] at h
    | some z =>
      simp only [hi, hz, Option.bind_some, Option.map_some, Option.some.injEq] at h
      subst h
      exact ⟨z, fun w' => by simp [zeroValue, typeInfo, hi, hz], .map_const _⟩
theorem placesA_run (w' : World) : ∀ (fs : List Field) (ps : List (Nat × Nat)), placesA P fs = some ps → (fs.mapM fun f => (do pure (f.offset, ← sizeOf f.type) : Sem (Nat × Nat))).run P w' = .ok ps w' := by
  intro fs
  induction fs with
  | nil => intro ps h; simp only [placesA, Option.some.injEq] at h; subst h; simp
  | cons f fs ih =>
    intro ps h
    simp only [placesA] at h
    split at h
    · rename_i k r hk hr
      simp only [Option.some.injEq] at h
      subst h
      have := ih r hr
      simp only [List.mapM_cons, Sem.run_bind, run_sizeOf hk, Result.andThen_ok, Sem.run_pure, this]
    · simp at h
theorem seg_foldl (off : Nat) : ∀ (us : List Value) (k : Nat) (arr : Array Value),
    (us.zipIdx k).foldl (fun cs (x : Value × Nat) => cs.setIfInBounds (off + x.2) x.1) arr = (seg arr.toList (off + k) us).toArray := by
  intro us
  induction us with
  | nil => intro k arr; simp [seg]
  | cons u us ih =>
    intro k arr
    simp only [List.zipIdx_cons, List.foldl_cons, seg]
    rw [ih]
    simp [Nat.add_assoc]
theorem seg_rvs : ∀ (us : List AV) (vs : List Value) (cs : List AV) (bs : List Value) (off : Nat), Rvs ρ A w n us vs → Rvs ρ A w n cs bs → Rvs ρ A w n (seg cs off us) (seg bs off vs) := by
  intro us
  induction us with
  | nil => intro vs cs bs off h k; cases h.nil_inv; exact k
  | cons u us ih =>
    intro vs cs bs off h k
    obtain ⟨v, vs', rfl, h1, h2⟩ := h.cons_inv
    exact ih _ _ _ _ h2 (k.set off h1)
/-- parts of a literal, read one by one -/
inductive PRel (ρ : Nat → Nat) (A : Nat → Prop) (w : World) (n : Nat → Prop) : List (Nat × AV) → List (Nat × Value) → Prop
  | nil : PRel ρ A w n [] []
  | cons {i : Nat} {v : AV} {u : Value} {ps : List (Nat × AV)} {qs : List (Nat × Value)} (h : Rv ρ A w n v u) (t : PRel ρ A w n ps qs) : PRel ρ A w n ((i, v) :: ps) ((i, u) :: qs)
theorem fillA_run {place : Nat → Option (Nat × Nat)} {parts : List (Nat × AV)} {vals : List (Nat × Value)} (hp : PRel ρ A w n parts vals) : ∀ (cells : List AV) (arr : List Value) (out : List AV),
    fillA place cells parts = some out → Rvs ρ A w n cells arr →
    ∃ o : List Value, Instr.fill place arr.toArray vals = some o.toArray ∧ Rvs ρ A w n out o := by
  induction hp with
  | nil =>
    intro cells arr out h hr
    simp only [fillA, Option.some.injEq] at h
    subst h
    exact ⟨arr, rfl, hr⟩
  | @cons i v u ps qs hv _ ih =>
    intro cells arr out h hr
    simp only [fillA] at h
    simp only [Instr.fill]
    cases hpl : place i with
    | none => simp [hpl] at h
    | some ok =>
      obtain ⟨off, k⟩ := ok
      simp only [hpl] at h
      split at h
      · rename_i hc
        simp only [Bool.and_eq_true, decide_eq_true_eq, Nat.ble_eq] at hc
        obtain ⟨⟨hk, hle⟩, hpa⟩ := hc
        obtain ⟨hcells, _⟩ := cellsOf_rv hv hpa
        have hsz : u.cells.size = k := by rw [← hk, hcells.1]; simp
        have hlen : cells.length = arr.length := hr.1
        simp only []
        rw [if_neg (by simp [hsz]; omega)]
        have hf : (u.cells.zipIdx.foldl (fun cs (x : Value × Nat) => cs.setIfInBounds (off + x.2) x.1) arr.toArray) = (seg arr off u.cells.toList).toArray := by
          rw [← Array.foldl_toList, Array.toList_zipIdx, seg_foldl]
          simp
        rw [hf]
        exact ih _ _ out h (seg_rvs _ _ _ _ off hcells hr)
      · simp at h
theorem parts_rel {tm : List AV} {a : Act} (h : Rvs ρ A w n tm a.tmps.toList) (ps : Array (Nat × Operand)) :
    PRel ρ A w n (ps.toList.map fun p => (p.1, opd tm p.2)) (ps.map fun x => (x.1, a.eval x.2)).toList := by
  rw [Array.toList_map]
  generalize ps.toList = l
  induction l with
  | nil => exact .nil
  | cons p l ih => exact .cons (opd_rv h _) ih

theorem buildA_run {t : TypeId} {parts : List (Nat × AV)} {vals : Array (Nat × Value)} {v : AV} (h : buildA P t parts = some v) (hp : PRel ρ A w n parts vals.toList) (w' : World) :
    ∃ u, (Instr.build t vals).run P w' = .ok u w' ∧ Rv ρ A w n v u := by
  unfold buildA at h
  split at h
  · rename_i zero fs hz hu
    split at h
    · rename_i ps hps
      obtain ⟨out, ho, rfl⟩ := Option.map_eq_some_iff.1 h
      obtain ⟨z, hzr, hzv⟩ := zeroA_run (ρ := ρ) (A := A) (w := w) (n := n) hz
      obtain ⟨o, hfo, hro⟩ := fillA_run hp zero z.cells.toList out ho hzv
      refine ⟨.agg o.toArray, ?_, .agg hro.1 hro.2⟩
      have hpl := placesA_run w' fs.toList ps hps
      simp only [Array.toArray_toList] at hfo
      simp only [Instr.build, Sem.run_bind, hzr, Result.andThen_ok, run_underlying' hu, Array.mapM_eq_mapM_toList, Sem.run_map, hpl]
      simp only [List.getElem?_toArray, hfo, Sem.run_pure]
    · simp at h
  · simp at h
end
end Go.Evl
