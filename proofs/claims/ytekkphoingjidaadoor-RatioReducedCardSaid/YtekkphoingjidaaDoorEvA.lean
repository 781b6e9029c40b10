/- An abstract evaluator for the model's code: abstract values, their reading in a world, abstract heaps. No condition. -/
import Derived.CallsIn
import Derived.OrdersIn
import Derived.Below
namespace Go.Evl
open Go.RowKit

/-- Abstract values. -/
inductive AV where
  | junk
  | bool (b : Bool)
  | int (k : IntKind) (n : Int)
  | str (s : ByteArray)
  | raw (v : Value)
  | agg (cs : List AV)
  | tup (cs : List AV)
  | ptr (id off : Nat)
  | ipt (cells : List AV)
  | isl (len k : Nat) (el : Nat → List AV)
  | fn (f : Fn) (cs : List AV)
  | iface (t : TypeId) (v : AV)
  | map (id : Nat)
  deriving Inhabited

/-- no ids -/
abbrev None_ : Nat → Prop := fun _ => False

/-- How an abstract value reads in a world: ids of n are read by ρ; immutable rows lie in blocks of A. -/
inductive Rv (ρ : Nat → Nat) (A : Nat → Prop) (w : World) : (Nat → Prop) → AV → Value → Prop
  | junk {n v} : Rv ρ A w n .junk v
  | bool {n b} : Rv ρ A w n (.bool b) (.bool b)
  | int {n k i} : Rv ρ A w n (.int k i) (.int k i)
  | str {n s} : Rv ρ A w n (.str s) (.string s)
  | raw {n v} : Rv ρ A w n (.raw v) v
  | agg {n} {cs : List AV} {vs : List Value} (hl : cs.length = vs.length) (h : ∀ i (hc : i < cs.length) (hv : i < vs.length), Rv ρ A w n cs[i] vs[i]) : Rv ρ A w n (.agg cs) (.agg vs.toArray)
  | tup {n} {cs : List AV} {vs : List Value} (hl : cs.length = vs.length) (h : ∀ i (hc : i < cs.length) (hv : i < vs.length), Rv ρ A w n cs[i] vs[i]) : Rv ρ A w n (.tup cs) (.tuple vs.toArray)
  | ptr {n : Nat → Prop} {id off} (h : n id) : Rv ρ A w n (.ptr id off) (.pointer (some ⟨ρ id, off, none⟩))
  | ipt {n} {cells : List AV} {b off : Nat} (us : Nat → Value) (hA : A b) (hc : ∀ j, j < cells.length → w.cell? ⟨b, off + j, none⟩ = some (us j))
      (hr : ∀ j (hj : j < cells.length), Rv ρ A w None_ cells[j] (us j)) : Rv ρ A w n (.ipt cells) (.pointer (some ⟨b, off, none⟩))
  | isl0 {n k a cap} {el : Nat → List AV} : Rv ρ A w n (.isl 0 k el) (.slice a 0 cap)
  | isl {n} {len k b off cap : Nat} {el : Nat → List AV} (us : Nat → Nat → Value) (hA : A b) (hk : ∀ i, i < len → (el i).length = k)
      (hc : ∀ i, i < len → ∀ j, j < k → w.cell? ⟨b, off + i * k + j, none⟩ = some (us i j))
      (hr : ∀ i, i < len → ∀ j (hj : j < (el i).length), Rv ρ A w None_ (el i)[j] (us i j)) (hcap : len ≤ cap) : Rv ρ A w n (.isl len k el) (.slice (some ⟨b, off, none⟩) len cap)
  | fn {n} {f : Fn} {cs : List AV} {vs : List Value} (hl : cs.length = vs.length) (h : ∀ i (hc : i < cs.length) (hv : i < vs.length), Rv ρ A w n cs[i] vs[i]) : Rv ρ A w n (.fn f cs) (.func f #[] vs.toArray)
  | iface {n t a v} (h : Rv ρ A w n a v) : Rv ρ A w n (.iface t a) (.iface t v)
  | map {n : Nat → Prop} {id} (h : n id) : Rv ρ A w n (.map id) (.map (some (ρ id)))

theorem cell_eq {w w' : World} {b o : Nat} (h : w'.heap[b]? = w.heap[b]?) : w'.cell? ⟨b, o, none⟩ = w.cell? ⟨b, o, none⟩ := by
  simp only [World.cell?, h]

theorem Rv.mono {ρ ρ' : Nat → Nat} {A A' : Nat → Prop} {w w' : World} {n : Nat → Prop} {a : AV} {v : Value} (h : Rv ρ A w n a v) :
    ∀ {n' : Nat → Prop}, (∀ id, n id → n' id) → (∀ id, n id → ρ' id = ρ id) → (∀ b, A b → A' b) → (∀ b, A b → w'.heap[b]? = w.heap[b]?) → Rv ρ' A' w' n' a v := by
  induction h with
  | junk => intros; exact .junk
  | bool => intros; exact .bool
  | int => intros; exact .int
  | str => intros; exact .str
  | raw => intros; exact .raw
  | agg hl _ ih => intro n' hn hρ hA hw; exact .agg hl fun i hc hv => ih i hc hv hn hρ hA hw
  | tup hl _ ih => intro n' hn hρ hA hw; exact .tup hl fun i hc hv => ih i hc hv hn hρ hA hw
  | ptr h => intro n' hn hρ hA hw; rw [← hρ _ h]; exact .ptr (hn _ h)
  | ipt us hb hc _ ih => intro n' hn hρ hA hw; exact .ipt us (hA _ hb) (fun j hj => by rw [cell_eq (hw _ hb)]; exact hc j hj) (fun j hj => ih j hj (fun _ h => h) (fun _ h => h.elim) hA hw)
  | isl0 => intros; exact .isl0
  | isl us hb hk hc _ hcap ih => intro n' hn hρ hA hw; exact .isl us (hA _ hb) hk (fun i hi j hj => by rw [cell_eq (hw _ hb)]; exact hc i hi j hj) (fun i hi j hj => ih i hi j hj (fun _ h => h) (fun _ h => h.elim) hA hw) hcap
  | fn hl _ ih => intro n' hn hρ hA hw; exact .fn hl fun i hc hv => ih i hc hv hn hρ hA hw
  | iface _ ih => intro n' hn hρ hA hw; exact .iface (ih hn hρ hA hw)
  | map h => intro n' hn hρ hA hw; rw [← hρ _ h]; exact .map (hn _ h)

/-- Two lists, read one by one. -/
def Rvs (ρ : Nat → Nat) (A : Nat → Prop) (w : World) (n : Nat → Prop) (cs : List AV) (vs : List Value) : Prop :=
  cs.length = vs.length ∧ ∀ i (hc : i < cs.length) (hv : i < vs.length), Rv ρ A w n cs[i] vs[i]

section
variable {ρ ρ' : Nat → Nat} {A A' : Nat → Prop} {w w' : World} {n n' : Nat → Prop}

theorem Rvs.mono {cs : List AV} {vs : List Value} (h : Rvs ρ A w n cs vs) (hn : ∀ id, n id → n' id) (hρ : ∀ id, n id → ρ' id = ρ id) (hA : ∀ b, A b → A' b)
    (hw : ∀ b, A b → w'.heap[b]? = w.heap[b]?) : Rvs ρ' A' w' n' cs vs := ⟨h.1, fun i hc hv => (h.2 i hc hv).mono hn hρ hA hw⟩
theorem Rvs.nil : Rvs ρ A w n [] [] := ⟨rfl, fun _ hc _ => absurd hc (Nat.not_lt_zero _)⟩
theorem Rvs.cons {c : AV} {v : Value} {cs : List AV} {vs : List Value} (h : Rv ρ A w n c v) (hs : Rvs ρ A w n cs vs) : Rvs ρ A w n (c :: cs) (v :: vs) :=
  ⟨by simp [hs.1], fun i => by
    cases i with
    | zero => intro _ _; exact h
    | succ i => intro hc hv; exact hs.2 i (by simpa using hc) (by simpa using hv)⟩
theorem Rvs.cons_inv {c : AV} {cs : List AV} {vs : List Value} (h : Rvs ρ A w n (c :: cs) vs) : ∃ v vs', vs = v :: vs' ∧ Rv ρ A w n c v ∧ Rvs ρ A w n cs vs' := by
  obtain ⟨hl, hi⟩ := h
  cases vs with
  | nil => simp at hl
  | cons v vs =>
    refine ⟨v, vs, rfl, hi 0 (by simp) (by simp), by simpa using hl, fun i hc hv => ?_⟩
    exact hi (i + 1) (by simpa using hc) (by simpa using hv)
theorem Rvs.nil_inv {vs : List Value} (h : Rvs ρ A w n [] vs) : vs = [] := by
  obtain ⟨hl, _⟩ := h
  cases vs with
  | nil => rfl
  | cons v vs => simp at hl
theorem Rvs.get {cs : List AV} {vs : List Value} (h : Rvs ρ A w n cs vs) {i : Nat} {c : AV} (hc : cs[i]? = some c) : ∃ v, vs[i]? = some v ∧ Rv ρ A w n c v := by
  obtain ⟨hi, rfl⟩ := List.getElem?_eq_some_iff.1 hc
  have hv : i < vs.length := by rw [← h.1]; exact hi
  exact ⟨vs[i], List.getElem?_eq_getElem hv, h.2 i hi hv⟩
theorem Rvs.append {cs ds : List AV} {vs us : List Value} (h : Rvs ρ A w n cs vs) (k : Rvs ρ A w n ds us) : Rvs ρ A w n (cs ++ ds) (vs ++ us) := by
  induction cs generalizing vs with
  | nil => cases h.nil_inv; simpa using k
  | cons c cs ih =>
    obtain ⟨v, vs', rfl, h1, h2⟩ := h.cons_inv
    exact .cons h1 (ih h2)
theorem Rvs.take {cs : List AV} {vs : List Value} (h : Rvs ρ A w n cs vs) (k : Nat) : Rvs ρ A w n (cs.take k) (vs.take k) :=
  ⟨by simp [h.1], fun i hc hv => by
    simp only [List.length_take] at hc hv
    simpa using h.2 i (by omega) (by omega)⟩
theorem Rvs.drop {cs : List AV} {vs : List Value} (h : Rvs ρ A w n cs vs) (k : Nat) : Rvs ρ A w n (cs.drop k) (vs.drop k) :=
  ⟨by simp [h.1], fun i hc hv => by
    simp only [List.length_drop] at hc hv
    simpa using h.2 (k + i) (by omega) (by omega)⟩
theorem Rvs.set {cs : List AV} {vs : List Value} (h : Rvs ρ A w n cs vs) (i : Nat) {c : AV} {v : Value} (hc : Rv ρ A w n c v) : Rvs ρ A w n (cs.set i c) (vs.set i v) :=
  ⟨by simp [h.1], fun j h1 h2 => by
    simp only [List.length_set] at h1 h2
    simp only [List.getElem_set]
    by_cases e : i = j
    · simp [e, hc]
    · simp [e, h.2 j h1 h2]⟩
theorem Rvs.replicate {c : AV} {v : Value} (h : Rv ρ A w n c v) (k : Nat) : Rvs ρ A w n (List.replicate k c) (List.replicate k v) :=
  ⟨by simp, fun i _ _ => by simpa using h⟩
theorem Rv.of_agg {cs : List AV} {v : Value} (h : Rv ρ A w n (.agg cs) v) : ∃ vs : List Value, v = .agg vs.toArray ∧ Rvs ρ A w n cs vs := by
  cases h with
  | agg hl h => exact ⟨_, rfl, hl, h⟩
theorem Rv.of_tup {cs : List AV} {v : Value} (h : Rv ρ A w n (.tup cs) v) : ∃ vs : List Value, v = .tuple vs.toArray ∧ Rvs ρ A w n cs vs := by
  cases h with
  | tup hl h => exact ⟨_, rfl, hl, h⟩
theorem Rv.of_fn {f : Fn} {cs : List AV} {v : Value} (h : Rv ρ A w n (.fn f cs) v) : ∃ vs : List Value, v = .func f #[] vs.toArray ∧ Rvs ρ A w n cs vs := by
  cases h with
  | fn hl h => exact ⟨_, rfl, hl, h⟩
theorem Rv.of_bool {b : Bool} {v : Value} (h : Rv ρ A w n (.bool b) v) : v = .bool b := by cases h; rfl
theorem Rv.of_int {k : IntKind} {i : Int} {v : Value} (h : Rv ρ A w n (.int k i) v) : v = .int k i := by cases h; rfl
theorem Rv.of_str {s : ByteArray} {v : Value} (h : Rv ρ A w n (.str s) v) : v = .string s := by cases h; rfl
theorem Rv.of_raw {u v : Value} (h : Rv ρ A w n (.raw u) v) : v = u := by cases h; rfl
theorem Rv.of_ptr {id off : Nat} {v : Value} (h : Rv ρ A w n (.ptr id off) v) : v = .pointer (some ⟨ρ id, off, none⟩) ∧ n id := by cases h; exact ⟨rfl, ‹_›⟩
end

/-! Bounds on the ids of a value -/
mutual
def bnd (n : Nat) : AV → Bool
  | .ptr id _ => Nat.blt id n
  | .map id => Nat.blt id n
  | .agg cs => bnds n cs
  | .tup cs => bnds n cs
  | .fn _ cs => bnds n cs
  | .iface _ v => bnd n v
  | _ => true
def bnds (n : Nat) : List AV → Bool
  | [] => true
  | c :: cs => bnd n c && bnds n cs
end

theorem bnds_get {n : Nat} : ∀ {cs : List AV}, bnds n cs = true → ∀ i (h : i < cs.length), bnd n cs[i] = true := by
  intro cs
  induction cs with
  | nil => intro _ i h; simp at h
  | cons c cs ih =>
    intro hb i h
    simp only [bnds, Bool.and_eq_true] at hb
    cases i with
    | zero => exact hb.1
    | succ i => simpa using ih hb.2 i (by simpa using h)

/-- the ids of n below m -/
abbrev Upto (n : Nat → Prop) (m : Nat) : Nat → Prop := fun id => n id ∧ id < m
theorem Rv.bnd {ρ : Nat → Nat} {A : Nat → Prop} {w : World} {n : Nat → Prop} {a : AV} {v : Value} (h : Rv ρ A w n a v) : ∀ {m}, bnd m a = true → Rv ρ A w (Upto n m) a v := by
  induction h with
  | junk => intros; exact .junk
  | bool => intros; exact .bool
  | int => intros; exact .int
  | str => intros; exact .str
  | raw => intros; exact .raw
  | agg hl _ ih => intro m hb; simp only [Evl.bnd] at hb; exact .agg hl fun i hc hv => ih i hc hv (bnds_get hb i hc)
  | tup hl _ ih => intro m hb; simp only [Evl.bnd] at hb; exact .tup hl fun i hc hv => ih i hc hv (bnds_get hb i hc)
  | ptr h => intro m hb; simp only [Evl.bnd] at hb; exact .ptr ⟨h, by simpa using hb⟩
  | ipt us hb hc hr _ => intro m _; exact .ipt us hb hc hr
  | isl0 => intros; exact .isl0
  | isl us hb hk hc hr hcap _ => intro m _; exact .isl us hb hk hc hr hcap
  | fn hl _ ih => intro m hb; simp only [Evl.bnd] at hb; exact .fn hl fun i hc hv => ih i hc hv (bnds_get hb i hc)
  | iface _ ih => intro m hb; simp only [Evl.bnd] at hb; exact .iface (ih hb)
  | map h => intro m hb; simp only [Evl.bnd] at hb; exact .map ⟨h, by simpa using hb⟩
theorem Rvs.bnd {ρ : Nat → Nat} {A : Nat → Prop} {w : World} {n : Nat → Prop} {m : Nat} {cs : List AV} {vs : List Value} (h : Rvs ρ A w n cs vs) (hb : bnds m cs = true) : Rvs ρ A w (Upto n m) cs vs :=
  ⟨h.1, fun i hc hv => (h.2 i hc hv).bnd (bnds_get hb i hc)⟩
theorem Rv.any {ρ : Nat → Nat} {A : Nat → Prop} {w : World} {n : Nat → Prop} {a : AV} {v : Value} (h : Rv ρ A w None_ a v) : Rv ρ A w n a v :=
  h.mono (fun _ h => h.elim) (fun _ h => h.elim) (fun _ h => h) (fun _ _ => rfl)
theorem Rv.bnd0 {ρ : Nat → Nat} {A : Nat → Prop} {w : World} {n : Nat → Prop} {a : AV} {v : Value} (h : Rv ρ A w n a v) (hb : Evl.bnd 0 a = true) : Rv ρ A w None_ a v :=
  (h.bnd hb).mono (fun _ h => absurd h.2 (Nat.not_lt_zero _)) (fun _ _ => rfl) (fun _ h => h) (fun _ _ => rfl)
theorem Rvs.bnd0 {ρ : Nat → Nat} {A : Nat → Prop} {w : World} {n : Nat → Prop} {cs : List AV} {vs : List Value} (h : Rvs ρ A w n cs vs) (hb : bnds 0 cs = true) : Rvs ρ A w None_ cs vs :=
  ⟨h.1, fun i hc hv => (h.2 i hc hv).bnd0 (bnds_get hb i hc)⟩

/-! Abstract heaps -/
inductive Ob where
  | free
  | cells (cs : List AV) (t : TypeId)
  deriving Inhabited
def Ob.live : Ob → Bool
  | .free => false
  | _ => true

/-- the live ids of a heap -/
def Live (H : List Ob) : Nat → Prop := fun id => ∃ o, H[id]? = some o ∧ o.live = true

/-- How an object reads at a block. -/
def ORel (ρ : Nat → Nat) (A : Nat → Prop) (w : World) (n : Nat → Prop) (base b : Nat) : Ob → Prop
  | .free => True
  | .cells cs t => base ≤ b ∧ ¬ A b ∧ ∃ vs : List Value, w.heap[b]? = some (.cells vs.toArray t (0, 0)) ∧ Rvs ρ A w n cs vs

structure HRel (ρ : Nat → Nat) (A : Nat → Prop) (w : World) (base : Nat) (H : List Ob) : Prop where
  obj : ∀ id o, H[id]? = some o → ORel ρ A w (Live H) base (ρ id) o
  inj : ∀ i j, Live H i → Live H j → ρ i = ρ j → i = j

/-- From one state of memory to a later one: what was named stays named, what was immutable stays. -/
structure Ext (n : Nat → Prop) (ρ : Nat → Nat) (A : Nat → Prop) (w : World) (n' : Nat → Prop) (ρ' : Nat → Nat) (A' : Nat → Prop) (w' : World) : Prop where
  ids : ∀ id, n id → n' id
  nam : ∀ id, n id → ρ' id = ρ id
  imm : ∀ b, A b → A' b
  keep : ∀ b, A b → w'.heap[b]? = w.heap[b]?
  late : ∀ b, A' b → A b ∨ w.heap.size ≤ b
  size : w.heap.size ≤ w'.heap.size
theorem Ext.refl (n : Nat → Prop) (ρ : Nat → Nat) (A : Nat → Prop) (w : World) : Ext n ρ A w n ρ A w := ⟨fun _ h => h, fun _ _ => rfl, fun _ h => h, fun _ _ => rfl, fun _ h => .inl h, Nat.le_refl _⟩
theorem Ext.trans {n n' n'' : Nat → Prop} {ρ ρ' ρ'' : Nat → Nat} {A A' A'' : Nat → Prop} {w w' w'' : World} (h : Ext n ρ A w n' ρ' A' w') (k : Ext n' ρ' A' w' n'' ρ'' A'' w'') : Ext n ρ A w n'' ρ'' A'' w'' :=
  ⟨fun id hi => k.ids id (h.ids id hi), fun id hi => (k.nam id (h.ids id hi)).trans (h.nam id hi), fun b hb => k.imm b (h.imm b hb), fun b hb => (k.keep b (h.imm b hb)).trans (h.keep b hb),
   fun b hb => (k.late b hb).elim (h.late b) (fun hl => .inr (Nat.le_trans h.size hl)), Nat.le_trans h.size k.size⟩
theorem Ext.rv {n n' : Nat → Prop} {ρ ρ' : Nat → Nat} {A A' : Nat → Prop} {w w' : World} (h : Ext n ρ A w n' ρ' A' w') {a : AV} {v : Value} (r : Rv ρ A w n a v) : Rv ρ' A' w' n' a v :=
  r.mono h.ids h.nam h.imm h.keep
theorem Ext.rvs {n n' : Nat → Prop} {ρ ρ' : Nat → Nat} {A A' : Nat → Prop} {w w' : World} (h : Ext n ρ A w n' ρ' A' w') {a : List AV} {v : List Value} (r : Rvs ρ A w n a v) : Rvs ρ' A' w' n' a v :=
  r.mono h.ids h.nam h.imm h.keep

end Go.Evl
