/- Memory: what a value, a new object, a store and a contract leave. No condition. -/
import Derived.Test.YtekkphoingjidaaDoorEvH
namespace Go.Evl
open Go.RowKit

/-- the memory of a run that began in w0 -/
structure Mem (w0 : World) (ρ : Nat → Nat) (A : Nat → Prop) (w : World) (H : List Ob) : Prop where
  hp : HRel ρ A w w0.heap.size H
  bel : Below w0.heap.size w0 w
  lt : ∀ b, A b → b < w.heap.size

section
variable {w0 : World} {ρ : Nat → Nat} {A : Nat → Prop} {w : World} {H : List Ob}

theorem lt_of_heap {w : World} {b : Nat} {o : Obj} (h : w.heap[b]? = some o) : b < w.heap.size := by
  rcases Nat.lt_or_ge b w.heap.size with h' | h'
  · exact h'
  · simp [Array.getElem?_eq_none h'] at h

/-- objects read on where nothing of theirs has turned -/
theorem HRel.later {base : Nat} (h : HRel ρ A w base H) {A' : Nat → Prop} {w' : World} (hi : ∀ b, A b → A' b) (hn : ∀ b, b < w.heap.size → A' b → A b) (hw : ∀ b, b < w.heap.size → w'.heap[b]? = w.heap[b]?)
    (hlt : ∀ b, A b → b < w.heap.size) : HRel ρ A' w' base H := by
  refine ⟨fun id o ho => ?_, h.inj⟩
  have := h.obj id o ho
  cases o with
  | free => trivial
  | cells cs t =>
    obtain ⟨h1, h2, vs, h3, h4⟩ := this
    have hb := lt_of_heap h3
    exact ⟨h1, fun hA => h2 (hn _ hb hA), vs, by rw [hw _ hb, h3], h4.mono (fun _ h => h) (fun _ _ => rfl) hi (fun b hA => hw b (hlt b hA))⟩

theorem Mem.grow (h : Mem w0 ρ A w H) {w' : World} (hb : Below w.heap.size w w') : Mem w0 ρ (Grow A w w') w' H ∧ Ext (Live H) ρ A w (Live H) ρ (Grow A w w') w' := by
  refine ⟨⟨h.hp.later (fun _ h => .inl h) (fun b hlt hA => ?_) hb.block h.lt, h.bel.trans (hb.mono h.bel.size), fun b hA => ?_⟩, fun _ h => h, fun _ _ => rfl, fun _ h => .inl h, fun b hA => hb.block b (h.lt b hA), fun b hA => hA.imp id (·.1), hb.size⟩
  · rcases hA with hA | hA
    · exact hA
    · omega
  · rcases hA with hA | hA
    · exact Nat.lt_of_lt_of_le (h.lt b hA) hb.size
    · exact hA.2
theorem Mem.drew (h : Mem w0 ρ A w H) : Mem w0 ρ A w.drew H :=
  ⟨h.hp.later (fun _ h => h) (fun _ _ h => h) (fun _ _ => rfl) h.lt, h.bel.drew, h.lt⟩

/-- a new object at an id that is free -/
theorem Mem.new (h : Mem w0 ρ A w H) {cs : List AV} {vs : List Value} {t : TypeId} (hv : Rvs ρ A w (Live H) cs vs) {fresh : Nat} {H' : List Ob}
    (hf : ¬ Live H fresh) (hnew : H'[fresh]? = some (.cells cs t)) (hold : ∀ i, i ≠ fresh → H'[i]? = H[i]?) :
    Mem w0 (fun i => if i = fresh then w.heap.size else ρ i) A (w.alloc (.cells vs.toArray t)) H' ∧
    Ext (Live H) ρ A w (Live H') (fun i => if i = fresh then w.heap.size else ρ i) A (w.alloc (.cells vs.toArray t)) := by
  have hne : ∀ id, Live H id → id ≠ fresh := fun id hl e => hf (e ▸ hl)
  have hlive : ∀ id, Live H id → Live H' id := fun id ⟨o, ho, hl⟩ => ⟨o, by rw [hold id (hne id ⟨o, ho, hl⟩)]; exact ho, hl⟩
  have hback : ∀ id, id ≠ fresh → Live H' id → Live H id := fun id hn ⟨o, ho, hl⟩ => ⟨o, by rw [← hold id hn]; exact ho, hl⟩
  have hkeep : ∀ b, A b → (w.alloc (.cells vs.toArray t)).heap[b]? = w.heap[b]? := fun b hA => Below.heap_alloc _ _ _ (h.lt b hA)
  have hext : Ext (Live H) ρ A w (Live H') (fun i => if i = fresh then w.heap.size else ρ i) A (w.alloc (.cells vs.toArray t)) :=
    ⟨hlive, fun id hl => by simp [hne id hl], fun _ h => h, hkeep, fun _ h => .inl h, by simp⟩
  have hblk : ∀ id, Live H id → ρ id < w.heap.size := by
    intro id ⟨o, ho, hl⟩
    have := h.hp.obj id o ho
    cases o with
    | free => cases hl
    | cells cs t => obtain ⟨_, _, us, h3, _⟩ := this; exact lt_of_heap h3
  refine ⟨⟨⟨fun id o ho => ?_, fun i j hi hj e => ?_⟩, h.bel.alloc h.bel.size _, fun b hA => by have := h.lt b hA; simp; omega⟩, hext⟩
  · by_cases hid : id = fresh
    · subst hid
      rw [hnew] at ho
      cases ho
      simp only [if_true]
      refine ⟨h.bel.size, fun hA => Nat.lt_irrefl _ (h.lt _ hA), vs, ?_, hext.rvs hv⟩
      show (w.heap.push _)[w.heap.size]? = _
      simp
    · simp only [hid, if_false]
      rw [hold id hid] at ho
      have := h.hp.obj id o ho
      cases o with
      | free => trivial
      | cells cs t =>
        obtain ⟨h1, h2, us, h3, h4⟩ := this
        exact ⟨h1, h2, us, by rw [Below.heap_alloc _ _ _ (lt_of_heap h3), h3], hext.rvs h4⟩
  · by_cases hi' : i = fresh
    · by_cases hj' : j = fresh
      · rw [hi', hj']
      · simp only [hi', hj', if_true, if_false] at e
        have := hblk j (hback j hj' hj)
        omega
    · by_cases hj' : j = fresh
      · simp only [hi', hj', if_true, if_false] at e
        have := hblk i (hback i hi' hi)
        omega
      · simp only [hi', hj', if_false] at e
        exact h.hp.inj i j (hback i hi' hi) (hback j hj' hj) e

/-- a store into an object -/
theorem Mem.put (h : Mem w0 ρ A w H) {id off : Nat} {bs cs : List AV} {t : TypeId} {vs : List Value} (ho : H[id]? = some (.cells bs t)) (hv : Rvs ρ A w (Live H) cs vs) (hl : off + cs.length ≤ bs.length) :
    ∃ us, w.heap[ρ id]? = some (.cells (List.toArray us) t (0, 0)) ∧ off + vs.length ≤ us.length ∧ ∀ w', PutB w w' (ρ id) (seg us off vs) t →
      Mem w0 ρ A w' (H.set id (.cells (seg bs off cs) t)) ∧ Ext (Live H) ρ A w (Live (H.set id (.cells (seg bs off cs) t))) ρ A w' := by
  have hlen : id < H.length := (List.getElem?_eq_some_iff.1 ho).1
  obtain ⟨h1, h2, us, h3, h4⟩ := h.hp.obj id _ ho
  have hget : ∀ i, (H.set id (.cells (seg bs off cs) t))[i]? = if i = id then some (.cells (seg bs off cs) t) else H[i]? := by
    intro i
    rw [List.getElem?_set]
    by_cases e : i = id
    · subst e; simp [hlen]
    · have e' : ¬ id = i := fun x => e x.symm
      simp [e, e']
  have hlive : ∀ i, Live (H.set id (.cells (seg bs off cs) t)) i ↔ Live H i := by
    intro i
    unfold Live
    rw [hget]
    by_cases e : i = id
    · subst e; simp [ho, Ob.live]
    · simp [e]
  refine ⟨us, h3, by rw [← hv.1, ← h4.1]; exact hl, fun w' hp => ?_⟩
  have hext : Ext (Live H) ρ A w (Live (H.set id (.cells (seg bs off cs) t))) ρ A w' :=
    ⟨fun i hi => (hlive i).2 hi, fun _ _ => rfl, fun _ h => h, fun b hA => hp.other b (fun e => h2 (e ▸ hA)), fun _ h => .inl h, by rw [hp.size]; exact Nat.le_refl _⟩
  refine ⟨⟨⟨fun i o hi => ?_, fun i j hi hj => h.hp.inj i j ((hlive i).1 hi) ((hlive j).1 hj)⟩, ?_, fun b hA => by rw [hp.size]; exact h.lt b hA⟩, hext⟩
  · rw [hget] at hi
    by_cases e : i = id
    · subst e
      simp only [if_true, Option.some.injEq] at hi
      subst hi
      exact ⟨h1, h2, _, hp.here, hext.rvs (seg_rvs _ _ _ _ off hv h4)⟩
    · rw [if_neg e] at hi
      have := h.hp.obj i o hi
      cases o with
      | free => trivial
      | cells cs' t' =>
        obtain ⟨k1, k2, us', k3, k4⟩ := this
        have hne : ρ i ≠ ρ id := fun x => e (h.hp.inj i id ⟨_, hi, rfl⟩ ⟨_, ho, rfl⟩ x)
        exact ⟨k1, k2, us', by rw [hp.other _ hne]; exact k3, hext.rvs k4⟩
  · refine h.bel.trans ⟨hp.os, hp.tape, hp.output, by rw [hp.size]; exact Nat.le_refl _, fun k hk => hp.other k (fun e => by omega)⟩

/-- a reading of an object -/
theorem Mem.get (h : Mem w0 ρ A w H) {id off m : Nat} {bs : List AV} {t : TypeId} (ho : H[id]? = some (.cells bs t)) (hl : off + m ≤ bs.length) :
    ∃ us : List Value, us.length = m ∧ (∀ j (hj : j < us.length), w.cell? ⟨ρ id, off + j, none⟩ = some us[j]) ∧ Rvs ρ A w (Live H) ((bs.drop off).take m) us := by
  obtain ⟨h1, h2, us, h3, h4⟩ := h.hp.obj id _ ho
  have hlen := h4.1
  refine ⟨(us.drop off).take m, by simp; omega, fun j hj => ?_, (h4.drop off).take m⟩
  rw [cells_get h3]
  simp only [List.length_take, List.length_drop] at hj
  simp only [List.getElem_take, List.getElem_drop]
  exact List.getElem?_eq_getElem (by omega)
end
end Go.Evl
