/- The plans of single operations, and that each plan is what the operation does. Conditions: the program's type table gives the types named. -/
import Derived.Test.YtekkphoingjidaaDoorEvA
namespace Go.Evl
open Go.RowKit

inductive Res where
  | ret (v : AV)
  | pan
  deriving Inhabited

inductive Plan where
  | val (v : AV)
  | load (id off m : Nat) (ag : Bool)
  | new (cs : List AV) (t : TypeId)
  | store (id off : Nat) (cs : List AV)
  | spc (f : FuncId) (args : List AV) (r : Res)
  | call (f : FuncId) (args : List AV)
  | pan
  deriving Inhabited

def Grow (A : Nat → Prop) (w w' : World) : Nat → Prop := fun b => A b ∨ (w.heap.size ≤ b ∧ b < w'.heap.size)

/-- cells written over from off on -/
def seg {α : Type} (vs : List α) (off : Nat) : List α → List α
  | [] => vs
  | u :: us => seg (vs.set off u) (off + 1) us
theorem seg_length {α : Type} (us : List α) : ∀ (vs : List α) (off : Nat), (seg vs off us).length = vs.length := by
  induction us with
  | nil => intros; rfl
  | cons u us ih => intro vs off; simp [seg, ih]

/-- w' is w but for block b, which holds cells vs -/
structure PutB (w w' : World) (b : Nat) (vs : List Value) (t : TypeId) : Prop where
  os : w'.os = w.os
  tape : w'.tape = w.tape
  output : w'.output = w.output
  size : w'.heap.size = w.heap.size
  here : w'.heap[b]? = some (.cells vs.toArray t (0, 0))
  other : ∀ k, k ≠ b → w'.heap[k]? = w.heap[k]?

/-- What a plan says of an operation's run. -/
def Acts (P : Program) (ρ : Nat → Nat) (A : Nat → Prop) (w : World) (n : Nat → Prop) (s : Sem Next) : Plan → Prop
  | .val v => ∃ u w', s.run P w = .ok (.value u) w' ∧ Below w.heap.size w w' ∧ Rv ρ (Grow A w w') w' n v u
  | .load id off m ag => n id ∧ (ag = false → m = 1) ∧ ∀ us : List Value, us.length = m → (∀ j (h : j < us.length), w.cell? ⟨ρ id, off + j, none⟩ = some us[j]) →
      s.run P w = .ok (.value (if ag then .agg us.toArray else us.headD undef)) w
  | .new cs t => ∃ vs, Rvs ρ A w n cs vs ∧ s.run P w = .ok (.value (.pointer (some ⟨w.heap.size, 0, none⟩))) (w.alloc (.cells vs.toArray t))
  | .store id off cs => n id ∧ ∃ vs, Rvs ρ A w n cs vs ∧ ∀ bs t, w.heap[ρ id]? = some (.cells (List.toArray bs) t (0, 0)) → off + vs.length ≤ bs.length →
      ∃ w', s.run P w = .ok .skip w' ∧ PutB w w' (ρ id) (seg bs off vs) t
  | .spc f args _ => ∃ vs, Rvs ρ A w None_ args vs ∧ s.run P w = .ok (.enter f vs.toArray) w
  | .call f args => ∃ vs, Rvs ρ A w n args vs ∧ s.run P w = .ok (.enter f vs.toArray) w
  | .pan => ∃ t v, s.run P w = .halt (.panic (.iface t v)) w

/-! Operands -/
def ofConst : Value → AV
  | .bool b => .bool b
  | .int k n => .int k n
  | .string s => .str s
  | .slice none 0 0 => .isl 0 0 (fun _ => [])
  | v => .raw v
def getT (tm : List AV) (t : Nat) : AV := (tm[t]?).getD (.raw undef)
def opd (tm : List AV) : Operand → AV
  | .tmp t => getT tm t
  | .const v => ofConst v
  | .global g => .raw (.pointer (some ⟨g, 0, none⟩))
  | .func f => .fn (.func f) []
section
variable {P : Program} {ρ : Nat → Nat} {A : Nat → Prop} {w : World} {n : Nat → Prop}

theorem ofConst_rv (v : Value) : Rv ρ A w n (ofConst v) v := by
  unfold ofConst
  split <;> first | exact .bool | exact .int | exact .str | exact .isl0 | exact .raw
theorem opd_rv {tm : List AV} {a : Act} (h : Rvs ρ A w n tm a.tmps.toList) (y : Operand) : Rv ρ A w n (opd tm y) (a.eval y) := by
  cases y with
  | tmp t =>
    simp only [opd, getT, Act.eval]
    cases ht : tm[t]? with
    | none =>
      have : a.tmps.toList.length ≤ t := by rw [← h.1]; simpa using ht
      have hs : a.tmps.size ≤ t := by simpa using this
      have : a.tmps.getD t undef = undef := by simp [Array.getD, Nat.not_lt.2 hs]
      rw [this]; exact .raw
    | some c =>
      obtain ⟨v, hv, hr⟩ := h.get ht
      have : a.tmps.getD t undef = v := by
        rw [Array.getD_eq_getD_getElem?, ← Array.getElem?_toList, hv]; rfl
      rw [this]; exact hr
  | const v => exact ofConst_rv v
  | global g => exact .raw
  | func f => exact .fn (vs := []) rfl (fun i hc _ => absurd hc (Nat.not_lt_zero _))

theorem Rv.grow {v : AV} {u : Value} {w' : World} (h : Rv ρ A w n v u) (hA : ∀ b, A b → b < w.heap.size) (hb : Below w.heap.size w w') : Rv ρ (Grow A w w') w' n v u :=
  h.mono (fun _ h => h) (fun _ _ => rfl) (fun _ h => .inl h) (fun b hb' => hb.block b (hA b hb'))
theorem Acts.val_same {s : Sem Next} {v : AV} {u : Value} (hs : s.run P w = .ok (.value u) w) (h : Rv ρ A w n v u) : Acts P ρ A w n s (.val v) :=
  ⟨u, w, hs, Below.refl _ _, h.mono (fun _ h => h) (fun _ _ => rfl) (fun _ h => .inl h) (fun _ _ => rfl)⟩
end

/-! Cells -/
section
variable {P : Program} {w : World}

theorem addr_add (b o k : Nat) : (Addr.mk b o none).add k = ⟨b, o + k, none⟩ := by
  unfold Addr.add
  split
  · subst_vars; rfl
  · rfl
theorem run_loadCellsFrom (b off : Nat) (us : List Value) : ∀ (i : Nat) (acc : Array Value), (∀ j (h : j < us.length), w.cell? ⟨b, off + (i + j), none⟩ = some us[j]) →
    (loadCellsFrom ⟨b, off, none⟩ i us.length acc).run P w = .ok (acc ++ us.toArray) w := by
  induction us with
  | nil => intro i acc _; simp [loadCellsFrom]
  | cons u us ih =>
    intro i acc h
    have h0 : w.cell? ⟨b, off + i, none⟩ = some u := h 0 (by simp)
    have := ih (i + 1) (acc.push u) (fun j hj => by
      have h1 := h (j + 1) (by simpa using hj)
      rw [show off + (i + 1 + j) = off + (i + (j + 1)) by omega]; exact h1)
    simp only [List.length_cons, loadCellsFrom, addr_add, Sem.run_bind, run_load, h0, Result.andThen_ok, this]
    simp
theorem run_loadCells (b off : Nat) (us : List Value) (h : ∀ j (h : j < us.length), w.cell? ⟨b, off + j, none⟩ = some us[j]) :
    (loadCells ⟨b, off, none⟩ us.length).run P w = .ok us.toArray w := by
  have := run_loadCellsFrom (P := P) b off us 0 #[] (fun j hj => by simpa using h j hj)
  simpa [loadCells] using this

def isAgg? (P : Program) (t : TypeId) : Option Bool := (P.underlying t).map fun | .struct _ | .array _ _ => true | _ => false
def size? (P : Program) (t : TypeId) : Option Nat := (P.info? t).map (·.size)

theorem run_underlying' {t : TypeId} {d : TypeDesc} (h : P.underlying t = some d) (w : World) : (underlying t).run P w = .ok d w := by
  simp [underlying, h]
theorem run_isAgg {t : TypeId} {g : Bool} (h : isAgg? P t = some g) (w : World) : (isAgg t).run P w = .ok g w := by
  unfold isAgg? at h
  cases hu : P.underlying t with
  | none => simp [hu] at h
  | some d =>
    simp only [hu, Option.map_some, Option.some.injEq] at h
    simp only [isAgg, Sem.run_bind, run_underlying' hu, Result.andThen_ok]
    subst h
    cases d <;> rfl
theorem run_sizeOf {t : TypeId} {k : Nat} (h : size? P t = some k) (w : World) : (sizeOf t).run P w = .ok k w := by
  unfold size? at h
  cases hi : P.info? t with
  | none => simp [hi] at h
  | some i => simp [hi] at h; simp [sizeOf, typeInfo, hi, h]
theorem run_loadVar {t : TypeId} {g : Bool} {b off : Nat} {us : List Value} (hg : isAgg? P t = some g) (hs : size? P t = some us.length) (h1 : g = false → us.length = 1)
    (h : ∀ j (h : j < us.length), w.cell? ⟨b, off + j, none⟩ = some us[j]) :
    (loadVar t ⟨b, off, none⟩).run P w = .ok (if g then .agg us.toArray else us.headD undef) w := by
  cases g with
  | true => simp [loadVar, run_isAgg hg, run_sizeOf hs, run_loadCells b off us h]
  | false =>
    have := h1 rfl
    match us, this with
    | [u], _ =>
      have h0 : w.cell? ⟨b, off, none⟩ = some u := h 0 (by simp)
      simp [loadVar, run_isAgg hg, run_load, h0]

theorem cells_get {b : Nat} {bs : List Value} {t : TypeId} (hb : w.heap[b]? = some (.cells bs.toArray t (0, 0))) (o : Nat) : w.cell? ⟨b, o, none⟩ = bs[o]? := by
  simp [World.cell?, hb]
theorem run_storeCells {b : Nat} {t : TypeId} (us : List Value) : ∀ (w : World) (off i : Nat) (bs : List Value), w.heap[b]? = some (.cells bs.toArray t (0, 0)) → off + i + us.length ≤ bs.length →
    (∀ u ∈ us, u.oneCell' = true) → ∃ w', (storeCells ⟨b, off, none⟩ us i).run P w = .ok () w' ∧ PutB w w' b (seg bs (off + i) us) t := by
  induction us with
  | nil => intro w off i bs hb _ _; exact ⟨w, by simp [storeCells], rfl, rfl, rfl, rfl, hb, fun _ _ => rfl⟩
  | cons u us ih =>
    intro w off i bs hb hl h1
    simp only [List.length_cons] at hl
    have hc : w.cell? ⟨b, off + i, none⟩ = some bs[off + i] := by rw [cells_get hb]; exact List.getElem?_eq_getElem (by omega)
    have hf : w.frozen? ⟨b, off + i, none⟩ = false := by simp [World.frozen?, hb]
    have hb' : (w.setCell ⟨b, off + i, none⟩ u).heap[b]? = some (.cells (bs.set (off + i) u).toArray t (0, 0)) := by
      simp [World.setCell, Array.getElem?_modify, hb]
    obtain ⟨w', hr, hp⟩ := ih (w.setCell ⟨b, off + i, none⟩ u) off (i + 1) (bs.set (off + i) u) hb' (by simp; omega) (fun v hv => h1 v (by simp [hv]))
    refine ⟨w', ?_, ?_⟩
    · simp only [storeCells, addr_add, Sem.run_bind, run_store _ _ _ _ _ (h1 u (by simp)), hc, hf, Bool.false_eq_true, if_false, Result.andThen_ok, hr]
    · refine ⟨hp.os, hp.tape, hp.output, by rw [hp.size]; simp, hp.here, fun k hk => ?_⟩
      rw [hp.other k hk]
      simp only [World.setCell, Array.getElem?_modify]
      rw [if_neg (fun e => hk e.symm)]
end

/-! Abstract cells -/
def cellsOf : AV → List AV
  | .agg cs => cs
  | v => [v]
def oneA : AV → Bool
  | .junk => false
  | .agg _ => false
  | .tup _ => false
  | .raw v => v.oneCell'
  | _ => true
/-- a value whose cells are told -/
def plainA : AV → Bool
  | .junk => false
  | .raw v => v.oneCell'
  | .tup _ => false
  | .agg cs => cs.all oneA
  | _ => true
section
variable {P : Program} {ρ : Nat → Nat} {A : Nat → Prop} {w : World} {n : Nat → Prop}
theorem oneA_rv {c : AV} {v : Value} (h : Rv ρ A w n c v) (ho : oneA c = true) : v.oneCell' = true := by
  cases h <;> first | rfl | (simp [oneA] at ho; done) | (simpa [oneA] using ho)
theorem Rvs.one {cs : List AV} {vs : List Value} (h : Rvs ρ A w n cs vs) (ho : cs.all oneA = true) : ∀ v ∈ vs, v.oneCell' = true := by
  intro v hv
  obtain ⟨i, hi, rfl⟩ := List.mem_iff_getElem.1 hv
  have hc : i < cs.length := by rw [h.1]; exact hi
  exact oneA_rv (h.2 i hc hi) (List.all_eq_true.1 ho _ (List.getElem_mem hc))
theorem cells_of_one {v : Value} (h : v.oneCell' = true) : v.cells = #[v] := by
  cases v <;> first | rfl | (simp [Value.oneCell'] at h)
theorem cellsOf_rv {c : AV} {v : Value} (h : Rv ρ A w n c v) (hp : plainA c = true) : Rvs ρ A w n (cellsOf c) v.cells.toList ∧ ∀ u ∈ v.cells.toList, u.oneCell' = true := by
  cases hc : c with
  | agg cs =>
    subst hc
    obtain ⟨vs, rfl, hvs⟩ := h.of_agg
    simp only [plainA] at hp
    exact ⟨by simpa [cellsOf, Value.cells] using hvs, by simpa [Value.cells] using hvs.one hp⟩
  | _ =>
    subst hc
    have ho : v.oneCell' = true := oneA_rv h (by first | rfl | (simp [plainA] at hp; done) | (simpa [plainA, oneA] using hp))
    rw [cells_of_one ho]
    exact ⟨.cons h .nil, by simpa using ho⟩
end
end Go.Evl
