/- A region whose order is drawn, in whatever order: the theorem's end. Conditions: the context's contracts hold; the program mixes orders. -/
import Derived.CallsIn
import Derived.RangeFuncRecord
import Derived.RangeFuncIn
import Derived.MapKept
import Derived.OrdersIn
import Derived.Below
import Derived.Laws.StructEq
import Derived.Laws.IdiomStrings
import Derived.Deep.LoopGhost
/- An abstract evaluator for the model's code: abstract values, their reading in a world, abstract heaps. No condition. -/
namespace Go.Evl
open Go.RowKit

inductive Tr (α : Type) where
  | non
  | leaf (a : α)
  | node (b : Bool) (x y : Tr α)
  | chk (b : Bool) (x : Tr α)
def Tr.run {α : Type} : Tr α → Option α
  | .non => none
  | .leaf a => some a
  | .node b x y => bif b then x.run else y.run
  | .chk b x => bif b then x.run else none
def Tr.fold {α β : Type} : Tr α → (α → Tr β) → Tr β
  | .non, _ => .non
  | .leaf a, k => k a
  | .node b x y, k => .node b (x.fold k) (y.fold k)
  | .chk b x, k => .chk b (x.fold k)
theorem Tr.fold_eq {α β : Type} (t : Tr α) (k : α → Tr β) : (t.fold k).run = t.run.bind fun a => (k a).run := by
  induction t with
  | non => rfl
  | leaf a => rfl
  | node b x y hx hy => cases b <;> simp [Tr.fold, Tr.run, hx, hy]
  | chk b x hx => cases b <;> simp [Tr.fold, Tr.run, hx]
/-- one way through a tree, by guesses -/
def Tr.path {α : Type} : Tr α → List Bool → Option α
  | .non, _ => none
  | .leaf a, _ => some a
  | .chk b x, gs => bif b then x.path gs else none
  | .node _ _ _, [] => none
  | .node b x _, true :: gs => bif b then x.path gs else none
  | .node b _ y, false :: gs => bif b then none else y.path gs
theorem Tr.path_run {α : Type} (t : Tr α) : ∀ (gs : List Bool) {a : α}, t.path gs = some a → t.run = some a := by
  induction t with
  | non => intro gs a h; simp [Tr.path] at h
  | leaf a => intro gs a h; simpa [Tr.path, Tr.run] using h
  | chk b x hx =>
    intro gs a h
    cases b with
    | true => exact hx gs (by simpa [Tr.path] using h)
    | false => simp [Tr.path] at h
  | node b x y hx hy =>
    intro gs a h
    cases gs with
    | nil => simp [Tr.path] at h
    | cons g gs =>
      cases g <;> cases b
      · exact hy gs (by simpa [Tr.path] using h)
      · simp [Tr.path] at h
      · simp [Tr.path] at h
      · exact hx gs (by simpa [Tr.path] using h)
/-- what comes up on a way: for the printing of ways -/
inductive TcR (α : Type) where
  | dead (cs : List (Bool × Bool))
  | more (c : Bool) (cs : List (Bool × Bool))
  | done (cs : List (Bool × Bool)) (a : α)
def Tr.trace {α : Type} : Tr α → List Bool → List (Bool × Bool) → TcR α
  | .non, _, cs => .dead cs
  | .leaf a, _, cs => .done cs a
  | .chk b x, gs, cs => x.trace gs ((b, true) :: cs)
  | .node b _ _, [], cs => .more b cs
  | .node b x _, true :: gs, cs => x.trace gs ((b, true) :: cs)
  | .node b _ y, false :: gs, cs => y.trace gs ((b, false) :: cs)
def Tr.ofOpt {α : Type} : Option α → Tr α
  | none => .non
  | some a => .leaf a
theorem Tr.ofOpt_run {α : Type} (o : Option α) : (Tr.ofOpt o).run = o := by cases o <;> rfl

/-- Data that is read only: a number, a string, a boolean, a row of data. -/
inductive Dt where
  | mk (n : Int) (s : ByteArray) (b : Bool) (len : Nat) (el : Nat → Nat → Dt)
def Dt.n : Dt → Int
  | .mk n _ _ _ _ => n
def Dt.s : Dt → ByteArray
  | .mk _ s _ _ _ => s
def Dt.b : Dt → Bool
  | .mk _ _ b _ _ => b
def Dt.len : Dt → Nat
  | .mk _ _ _ l _ => l
def Dt.el : Dt → Nat → Nat → Dt
  | .mk _ _ _ _ el => el
/-- The form of a cell of data. -/
inductive Sh where
  | int (k : IntKind)
  | str
  | bool
  | row (sh : List Sh)

/-- Abstract values. -/
inductive AV where
  | junk
  | bool (b : Bool)
  | int (k : IntKind) (n : Int)
  | str (s : ByteArray)
  | raw (v : Value)
  | agg (cs : List AV)
  | tup (cs : List AV)
  | ptr (id off : Nat)
  | ipt (cells : List AV)
  | isl (len k : Nat) (el : Nat → List AV)
  | isz (len : Nat) (sh : List Sh) (el : Nat → Nat → Dt)
  | fn (f : Fn) (cs : List AV)
  | iface (t : TypeId) (v : AV)
  | map (id : Nat)
  | yld (id : Nat)
  deriving Inhabited

/-- a cell of data -/
def toAV : Sh → Dt → AV
  | .int k, d => .int k d.n
  | .str, d => .str d.s
  | .bool, d => .bool d.b
  | .row sh, d => .isz d.len sh d.el
/-- the cells of a row's element -/
def shA (f : Nat → Dt) : List Sh → Nat → List AV
  | [], _ => []
  | s :: r, j => toAV s (f j) :: shA f r (j + 1)
theorem shA_length (f : Nat → Dt) : ∀ (l : List Sh) (j : Nat), (shA f l j).length = l.length := by
  intro l
  induction l with
  | nil => intro _; rfl
  | cons s r ih => intro j; simp [shA, ih]

/-- no ids -/
abbrev None_ : Nat → Prop := fun _ => False

/-- How an abstract value reads in a world: ids of n are read by ρ; immutable rows lie in blocks of A. -/
inductive Rv (ρ : Nat → Nat) (A : Nat → Prop) (w : World) : (Nat → Prop) → AV → Value → Prop
  | junk {n v} : Rv ρ A w n .junk v
  | bool {n b} : Rv ρ A w n (.bool b) (.bool b)
  | int {n k i} : Rv ρ A w n (.int k i) (.int k i)
  | str {n s} : Rv ρ A w n (.str s) (.string s)
  | raw {n v} : Rv ρ A w n (.raw v) v
  | agg {n} {cs : List AV} {vs : List Value} (hl : cs.length = vs.length) (h : ∀ i (hc : i < cs.length) (hv : i < vs.length), Rv ρ A w n cs[i] vs[i]) : Rv ρ A w n (.agg cs) (.agg vs.toArray)
  | tup {n} {cs : List AV} {vs : List Value} (hl : cs.length = vs.length) (h : ∀ i (hc : i < cs.length) (hv : i < vs.length), Rv ρ A w n cs[i] vs[i]) : Rv ρ A w n (.tup cs) (.tuple vs.toArray)
  | ptr {n : Nat → Prop} {id off} (h : n id) : Rv ρ A w n (.ptr id off) (.pointer (some ⟨ρ id, off, none⟩))
  | ipt {n} {cells : List AV} {b off : Nat} (us : Nat → Value) (hA : A b) (hc : ∀ j, j < cells.length → w.cell? ⟨b, off + j, none⟩ = some (us j))
      (hr : ∀ j (hj : j < cells.length), Rv ρ A w None_ cells[j] (us j)) : Rv ρ A w n (.ipt cells) (.pointer (some ⟨b, off, none⟩))
  | isl0 {n k a cap} {el : Nat → List AV} : Rv ρ A w n (.isl 0 k el) (.slice a 0 cap)
  | isl {n} {len k b off cap : Nat} {el : Nat → List AV} (us : Nat → Nat → Value) (hA : A b) (hk : ∀ i, i < len → (el i).length = k)
      (hc : ∀ i, i < len → ∀ j, j < k → w.cell? ⟨b, off + i * k + j, none⟩ = some (us i j))
      (hr : ∀ i, i < len → ∀ j (hj : j < (el i).length), Rv ρ A w None_ (el i)[j] (us i j)) (hcap : len ≤ cap) : Rv ρ A w n (.isl len k el) (.slice (some ⟨b, off, none⟩) len cap)
  | isz {n len} {sh : List Sh} {el : Nat → Nat → Dt} {v} (h : Rv ρ A w n (.isl len sh.length fun i => shA (el i) sh 0) v) : Rv ρ A w n (.isz len sh el) v
  | fn {n} {f : Fn} {cs : List AV} {vs : List Value} (hl : cs.length = vs.length) (h : ∀ i (hc : i < cs.length) (hv : i < vs.length), Rv ρ A w n cs[i] vs[i]) : Rv ρ A w n (.fn f cs) (.func f #[] vs.toArray)
  | iface {n t a v} (h : Rv ρ A w n a v) : Rv ρ A w n (.iface t a) (.iface t v)
  | map {n : Nat → Prop} {id} (h : n id) : Rv ρ A w n (.map id) (.map (some (ρ id)))
  | yld {n : Nat → Prop} {id} (h : n id) : Rv ρ A w n (.yld id) (.func (.yield (ρ id)) #[] #[])

theorem cell_eq {w w' : World} {b o : Nat} (h : w'.heap[b]? = w.heap[b]?) : w'.cell? ⟨b, o, none⟩ = w.cell? ⟨b, o, none⟩ := by
  simp only [World.cell?, h]

theorem Rv.mono {ρ ρ' : Nat → Nat} {A A' : Nat → Prop} {w w' : World} {n : Nat → Prop} {a : AV} {v : Value} (h : Rv ρ A w n a v) :
    ∀ {n' : Nat → Prop}, (∀ id, n id → n' id) → (∀ id, n id → ρ' id = ρ id) → (∀ b, A b → A' b) → (∀ b, A b → w'.heap[b]? = w.heap[b]?) → Rv ρ' A' w' n' a v := by
  induction h with
  | junk => intros; exact .junk
  | bool => intros; exact .bool
  | int => intros; exact .int
  | str => intros; exact .str
  | raw => intros; exact .raw
  | agg hl _ ih => intro n' hn hρ hA hw; exact .agg hl fun i hc hv => ih i hc hv hn hρ hA hw
  | tup hl _ ih => intro n' hn hρ hA hw; exact .tup hl fun i hc hv => ih i hc hv hn hρ hA hw
  | ptr h => intro n' hn hρ hA hw; rw [← hρ _ h]; exact .ptr (hn _ h)
  | ipt us hb hc _ ih => intro n' hn hρ hA hw; exact .ipt us (hA _ hb) (fun j hj => by rw [cell_eq (hw _ hb)]; exact hc j hj) (fun j hj => ih j hj (fun _ h => h) (fun _ h => h.elim) hA hw)
  | isl0 => intros; exact .isl0
  | isl us hb hk hc _ hcap ih => intro n' hn hρ hA hw; exact .isl us (hA _ hb) hk (fun i hi j hj => by rw [cell_eq (hw _ hb)]; exact hc i hi j hj) (fun i hi j hj => ih i hi j hj (fun _ h => h) (fun _ h => h.elim) hA hw) hcap
  | isz _ ih => intro n' hn hρ hA hw; exact .isz (ih hn hρ hA hw)
  | fn hl _ ih => intro n' hn hρ hA hw; exact .fn hl fun i hc hv => ih i hc hv hn hρ hA hw
  | iface _ ih => intro n' hn hρ hA hw; exact .iface (ih hn hρ hA hw)
  | map h => intro n' hn hρ hA hw; rw [← hρ _ h]; exact .map (hn _ h)
  | yld h => intro n' hn hρ hA hw; rw [← hρ _ h]; exact .yld (hn _ h)

/-- Two lists, read one by one. -/
def Rvs (ρ : Nat → Nat) (A : Nat → Prop) (w : World) (n : Nat → Prop) (cs : List AV) (vs : List Value) : Prop :=
  cs.length = vs.length ∧ ∀ i (hc : i < cs.length) (hv : i < vs.length), Rv ρ A w n cs[i] vs[i]

section
variable {ρ ρ' : Nat → Nat} {A A' : Nat → Prop} {w w' : World} {n n' : Nat → Prop}

theorem Rvs.mono {cs : List AV} {vs : List Value} (h : Rvs ρ A w n cs vs) (hn : ∀ id, n id → n' id) (hρ : ∀ id, n id → ρ' id = ρ id) (hA : ∀ b, A b → A' b)
    (hw : ∀ b, A b → w'.heap[b]? = w.heap[b]?) : Rvs ρ' A' w' n' cs vs := ⟨h.1, fun i hc hv => (h.2 i hc hv).mono hn hρ hA hw⟩
theorem Rvs.nil : Rvs ρ A w n [] [] := ⟨rfl, fun _ hc _ => absurd hc (Nat.not_lt_zero _)⟩
theorem Rvs.cons {c : AV} {v : Value} {cs : List AV} {vs : List Value} (h : Rv ρ A w n c v) (hs : Rvs ρ A w n cs vs) : Rvs ρ A w n (c :: cs) (v :: vs) :=
  ⟨by simp [hs.1], fun i => by
    cases i with
    | zero => intro _ _; exact h
    | succ i => intro hc hv; exact hs.2 i (by simpa using hc) (by simpa using hv)⟩
theorem Rvs.cons_inv {c : AV} {cs : List AV} {vs : List Value} (h : Rvs ρ A w n (c :: cs) vs) : ∃ v vs', vs = v :: vs' ∧ Rv ρ A w n c v ∧ Rvs ρ A w n cs vs' := by
  obtain ⟨hl, hi⟩ := h
  cases vs with
  | nil => simp at hl
  | cons v vs =>
    refine ⟨v, vs, rfl, hi 0 (by simp) (by simp), by simpa using hl, fun i hc hv => ?_⟩
    exact hi (i + 1) (by simpa using hc) (by simpa using hv)
theorem Rvs.nil_inv {vs : List Value} (h : Rvs ρ A w n [] vs) : vs = [] := by
  obtain ⟨hl, _⟩ := h
  cases vs with
  | nil => rfl
  | cons v vs => simp at hl
theorem Rvs.get {cs : List AV} {vs : List Value} (h : Rvs ρ A w n cs vs) {i : Nat} {c : AV} (hc : cs[i]? = some c) : ∃ v, vs[i]? = some v ∧ Rv ρ A w n c v := by
  obtain ⟨hi, rfl⟩ := List.getElem?_eq_some_iff.1 hc
  have hv : i < vs.length := by rw [← h.1]; exact hi
  exact ⟨vs[i], List.getElem?_eq_getElem hv, h.2 i hi hv⟩
theorem Rvs.append {cs ds : List AV} {vs us : List Value} (h : Rvs ρ A w n cs vs) (k : Rvs ρ A w n ds us) : Rvs ρ A w n (cs ++ ds) (vs ++ us) := by
  induction cs generalizing vs with
  | nil => cases h.nil_inv; simpa using k
  | cons c cs ih =>
    obtain ⟨v, vs', rfl, h1, h2⟩ := h.cons_inv
    exact .cons h1 (ih h2)
theorem Rvs.take {cs : List AV} {vs : List Value} (h : Rvs ρ A w n cs vs) (k : Nat) : Rvs ρ A w n (cs.take k) (vs.take k) :=
  ⟨by simp [h.1], fun i hc hv => by
    simp only [List.length_take] at hc hv
    simpa using h.2 i (by omega) (by omega)⟩
theorem Rvs.drop {cs : List AV} {vs : List Value} (h : Rvs ρ A w n cs vs) (k : Nat) : Rvs ρ A w n (cs.drop k) (vs.drop k) :=
  ⟨by simp [h.1], fun i hc hv => by
    simp only [List.length_drop] at hc hv
    simpa using h.2 (k + i) (by omega) (by omega)⟩
theorem Rvs.set {cs : List AV} {vs : List Value} (h : Rvs ρ A w n cs vs) (i : Nat) {c : AV} {v : Value} (hc : Rv ρ A w n c v) : Rvs ρ A w n (cs.set i c) (vs.set i v) :=
  ⟨by simp [h.1], fun j h1 h2 => by
    simp only [List.length_set] at h1 h2
    simp only [List.getElem_set]
    by_cases e : i = j
    · simp [e, hc]
    · simp [e, h.2 j h1 h2]⟩
theorem Rvs.replicate {c : AV} {v : Value} (h : Rv ρ A w n c v) (k : Nat) : Rvs ρ A w n (List.replicate k c) (List.replicate k v) :=
  ⟨by simp, fun i _ _ => by simpa using h⟩
theorem Rv.of_agg {cs : List AV} {v : Value} (h : Rv ρ A w n (.agg cs) v) : ∃ vs : List Value, v = .agg vs.toArray ∧ Rvs ρ A w n cs vs := by
  cases h with
  | agg hl h => exact ⟨_, rfl, hl, h⟩
theorem Rv.of_tup {cs : List AV} {v : Value} (h : Rv ρ A w n (.tup cs) v) : ∃ vs : List Value, v = .tuple vs.toArray ∧ Rvs ρ A w n cs vs := by
  cases h with
  | tup hl h => exact ⟨_, rfl, hl, h⟩
theorem Rv.of_fn {f : Fn} {cs : List AV} {v : Value} (h : Rv ρ A w n (.fn f cs) v) : ∃ vs : List Value, v = .func f #[] vs.toArray ∧ Rvs ρ A w n cs vs := by
  cases h with
  | fn hl h => exact ⟨_, rfl, hl, h⟩
theorem Rv.of_bool {b : Bool} {v : Value} (h : Rv ρ A w n (.bool b) v) : v = .bool b := by cases h; rfl
theorem Rv.of_int {k : IntKind} {i : Int} {v : Value} (h : Rv ρ A w n (.int k i) v) : v = .int k i := by cases h; rfl
theorem Rv.of_str {s : ByteArray} {v : Value} (h : Rv ρ A w n (.str s) v) : v = .string s := by cases h; rfl
theorem Rv.of_raw {u v : Value} (h : Rv ρ A w n (.raw u) v) : v = u := by cases h; rfl
theorem Rv.of_yld {id : Nat} {v : Value} (h : Rv ρ A w n (.yld id) v) : v = .func (.yield (ρ id)) #[] #[] ∧ n id := by cases h; exact ⟨rfl, ‹_›⟩
theorem Rv.of_map {id : Nat} {v : Value} (h : Rv ρ A w n (.map id) v) : v = .map (some (ρ id)) ∧ n id := by cases h; exact ⟨rfl, ‹_›⟩
theorem Rv.of_ptr {id off : Nat} {v : Value} (h : Rv ρ A w n (.ptr id off) v) : v = .pointer (some ⟨ρ id, off, none⟩) ∧ n id := by cases h; exact ⟨rfl, ‹_›⟩
end

/-! Bounds on the ids of a value -/
mutual
def bnd (n : Nat) : AV → Bool
  | .ptr id _ => Nat.blt id n
  | .map id => Nat.blt id n
  | .yld id => Nat.blt id n
  | .agg cs => bnds n cs
  | .tup cs => bnds n cs
  | .fn _ cs => bnds n cs
  | .iface _ v => bnd n v
  | _ => true
def bnds (n : Nat) : List AV → Bool
  | [] => true
  | c :: cs => bnd n c && bnds n cs
end

theorem bnds_get {n : Nat} : ∀ {cs : List AV}, bnds n cs = true → ∀ i (h : i < cs.length), bnd n cs[i] = true := by
  intro cs
  induction cs with
  | nil => intro _ i h; simp at h
  | cons c cs ih =>
    intro hb i h
    simp only [bnds, Bool.and_eq_true] at hb
    cases i with
    | zero => exact hb.1
    | succ i => simpa using ih hb.2 i (by simpa using h)

/-- the ids of n below m -/
abbrev Upto (n : Nat → Prop) (m : Nat) : Nat → Prop := fun id => n id ∧ id < m
theorem Rv.bnd {ρ : Nat → Nat} {A : Nat → Prop} {w : World} {n : Nat → Prop} {a : AV} {v : Value} (h : Rv ρ A w n a v) : ∀ {m}, bnd m a = true → Rv ρ A w (Upto n m) a v := by
  induction h with
  | junk => intros; exact .junk
  | bool => intros; exact .bool
  | int => intros; exact .int
  | str => intros; exact .str
  | raw => intros; exact .raw
  | agg hl _ ih => intro m hb; simp only [Evl.bnd] at hb; exact .agg hl fun i hc hv => ih i hc hv (bnds_get hb i hc)
  | tup hl _ ih => intro m hb; simp only [Evl.bnd] at hb; exact .tup hl fun i hc hv => ih i hc hv (bnds_get hb i hc)
  | ptr h => intro m hb; simp only [Evl.bnd] at hb; exact .ptr ⟨h, by simpa using hb⟩
  | ipt us hb hc hr _ => intro m _; exact .ipt us hb hc hr
  | isl0 => intros; exact .isl0
  | isl us hb hk hc hr hcap _ => intro m _; exact .isl us hb hk hc hr hcap
  | isz _ ih => intro m _; exact .isz (ih rfl)
  | fn hl _ ih => intro m hb; simp only [Evl.bnd] at hb; exact .fn hl fun i hc hv => ih i hc hv (bnds_get hb i hc)
  | iface _ ih => intro m hb; simp only [Evl.bnd] at hb; exact .iface (ih hb)
  | map h => intro m hb; simp only [Evl.bnd] at hb; exact .map ⟨h, by simpa using hb⟩
  | yld h => intro m hb; simp only [Evl.bnd] at hb; exact .yld ⟨h, by simpa using hb⟩
theorem Rvs.bnd {ρ : Nat → Nat} {A : Nat → Prop} {w : World} {n : Nat → Prop} {m : Nat} {cs : List AV} {vs : List Value} (h : Rvs ρ A w n cs vs) (hb : bnds m cs = true) : Rvs ρ A w (Upto n m) cs vs :=
  ⟨h.1, fun i hc hv => (h.2 i hc hv).bnd (bnds_get hb i hc)⟩
theorem Rv.any {ρ : Nat → Nat} {A : Nat → Prop} {w : World} {n : Nat → Prop} {a : AV} {v : Value} (h : Rv ρ A w None_ a v) : Rv ρ A w n a v :=
  h.mono (fun _ h => h.elim) (fun _ h => h.elim) (fun _ h => h) (fun _ _ => rfl)
theorem Rv.bnd0 {ρ : Nat → Nat} {A : Nat → Prop} {w : World} {n : Nat → Prop} {a : AV} {v : Value} (h : Rv ρ A w n a v) (hb : Evl.bnd 0 a = true) : Rv ρ A w None_ a v :=
  (h.bnd hb).mono (fun _ h => absurd h.2 (Nat.not_lt_zero _)) (fun _ _ => rfl) (fun _ h => h) (fun _ _ => rfl)
theorem Rvs.bnd0 {ρ : Nat → Nat} {A : Nat → Prop} {w : World} {n : Nat → Prop} {cs : List AV} {vs : List Value} (h : Rvs ρ A w n cs vs) (hb : bnds 0 cs = true) : Rvs ρ A w None_ cs vs :=
  ⟨h.1, fun i hc hv => (h.2 i hc hv).bnd0 (bnds_get hb i hc)⟩

/-! Abstract heaps -/
/-- where the record of a range over a function stands -/
inductive LS where
  | ready
  | busy
  | done (c : Code)
  | over (p : Option Code)
  deriving Inhabited
inductive Ob where
  | free
  | cells (cs : List AV) (t : TypeId)
  | dfr
  | dfx
  | loop (tm : List AV) (ps : Array Tmp) (asg body : Code) (blk : Nat) (st : LS)
  | map (es : List (AV × AV))
  deriving Inhabited
def Ob.live : Ob → Bool
  | .free => false
  | _ => true
def LS.state : LS → LoopState
  | .ready => .ready
  | .busy => .busy
  | .done _ => .done
  | .over _ => .exhausted
def LS.pending : LS → Option Code
  | .done c => some c
  | .over p => p
  | _ => none

/-- the live ids of a heap -/
def Live (H : List Ob) : Nat → Prop := fun id => ∃ o, H[id]? = some o ∧ o.live = true

/-- How an object reads. -/
def ObjR (ρ : Nat → Nat) (A : Nat → Prop) (w : World) (n : Nat → Prop) : Ob → Obj → Prop
  | .free, _ => True
  | .cells cs t, x => ∃ vs : List Value, x = .cells vs.toArray t (0, 0) ∧ Rvs ρ A w n cs vs
  | .dfr, x => x = .deferred (some [])
  | .dfx, _ => True
  | .loop tm ps asg body blk st, x => n blk ∧ ∃ (fn : FuncId) (vs : List Value), x = .loop { state := st.state, pending := st.pending, fn := fn, tmps := vs.toArray, params := ps, assign := asg, body := body, defers := ρ blk } ∧ Rvs ρ A w n tm vs
  | .map es, x => ∃ (ents : List MapEntry) (clock : Nat), x = .map ents.toArray clock ∧ Rvs ρ A w n (es.map (·.1)) (ents.map (·.key)) ∧ Rvs ρ A w n (es.map (·.2)) (ents.map (·.val))
theorem ObjR.mono {ρ ρ' : Nat → Nat} {A A' : Nat → Prop} {w w' : World} {n n' : Nat → Prop} {o : Ob} {x : Obj} (h : ObjR ρ A w n o x) (hn : ∀ id, n id → n' id) (hρ : ∀ id, n id → ρ' id = ρ id) (hA : ∀ b, A b → A' b)
    (hw : ∀ b, A b → w'.heap[b]? = w.heap[b]?) : ObjR ρ' A' w' n' o x := by
  cases o with
  | free => trivial
  | cells cs t => obtain ⟨vs, h1, h2⟩ := h; exact ⟨vs, h1, h2.mono hn hρ hA hw⟩
  | dfr => exact h
  | dfx => trivial
  | loop tm ps asg body blk st => obtain ⟨hb, fn, vs, h1, h2⟩ := h; exact ⟨hn _ hb, fn, vs, by rw [hρ _ hb]; exact h1, h2.mono hn hρ hA hw⟩
  | map es => obtain ⟨ents, clock, h1, h2, h3⟩ := h; exact ⟨ents, clock, h1, h2.mono hn hρ hA hw, h3.mono hn hρ hA hw⟩
def bndOb (m : Nat) : Ob → Bool
  | .free => true
  | .cells cs _ => bnds m cs
  | .dfr => true
  | .dfx => true
  | .loop tm _ _ _ blk _ => Nat.blt blk m && bnds m tm
  | .map es => bnds m (es.map (·.1)) && bnds m (es.map (·.2))
theorem ObjR.bnd {ρ : Nat → Nat} {A : Nat → Prop} {w : World} {n : Nat → Prop} {o : Ob} {x : Obj} (h : ObjR ρ A w n o x) {m : Nat} (hb : bndOb m o = true) : ObjR ρ A w (Upto n m) o x := by
  cases o with
  | free => trivial
  | cells cs t => obtain ⟨vs, h1, h2⟩ := h; exact ⟨vs, h1, h2.bnd hb⟩
  | dfr => exact h
  | dfx => trivial
  | loop tm ps asg body blk st =>
    obtain ⟨hk, fn, vs, h1, h2⟩ := h
    simp only [bndOb, Bool.and_eq_true] at hb
    exact ⟨⟨hk, by simpa using hb.1⟩, fn, vs, h1, h2.bnd hb.2⟩
  | map es =>
    obtain ⟨ents, clock, h1, h2, h3⟩ := h
    simp only [bndOb, Bool.and_eq_true] at hb
    exact ⟨ents, clock, h1, h2.bnd hb.1, h3.bnd hb.2⟩

/-- How an object reads at a block. -/
def ORel (ρ : Nat → Nat) (A : Nat → Prop) (w : World) (n : Nat → Prop) (base b : Nat) (o : Ob) : Prop :=
  o.live = true → base ≤ b ∧ ¬ A b ∧ ∃ x, w.heap[b]? = some x ∧ ObjR ρ A w n o x

structure HRel (ρ : Nat → Nat) (A : Nat → Prop) (w : World) (base : Nat) (H : List Ob) : Prop where
  obj : ∀ id o, H[id]? = some o → ORel ρ A w (Live H) base (ρ id) o
  inj : ∀ i j, Live H i → Live H j → ρ i = ρ j → i = j
theorem HRel.cells {ρ : Nat → Nat} {A : Nat → Prop} {w : World} {base : Nat} {H : List Ob} (h : HRel ρ A w base H) {id : Nat} {cs : List AV} {t : TypeId} (ho : H[id]? = some (.cells cs t)) :
    base ≤ ρ id ∧ ¬ A (ρ id) ∧ ∃ vs : List Value, w.heap[ρ id]? = some (.cells vs.toArray t (0, 0)) ∧ Rvs ρ A w (Live H) cs vs := by
  obtain ⟨h1, h2, x, h3, vs, rfl, h4⟩ := h.obj id _ ho rfl
  exact ⟨h1, h2, vs, h3, h4⟩

/-- From one state of memory to a later one: what was named stays named, what was immutable stays. -/
structure Ext (n : Nat → Prop) (ρ : Nat → Nat) (A : Nat → Prop) (w : World) (n' : Nat → Prop) (ρ' : Nat → Nat) (A' : Nat → Prop) (w' : World) : Prop where
  ids : ∀ id, n id → n' id
  nam : ∀ id, n id → ρ' id = ρ id
  imm : ∀ b, A b → A' b
  keep : ∀ b, A b → w'.heap[b]? = w.heap[b]?
  late : ∀ b, A' b → A b ∨ w.heap.size ≤ b
  size : w.heap.size ≤ w'.heap.size
theorem Ext.refl (n : Nat → Prop) (ρ : Nat → Nat) (A : Nat → Prop) (w : World) : Ext n ρ A w n ρ A w := ⟨fun _ h => h, fun _ _ => rfl, fun _ h => h, fun _ _ => rfl, fun _ h => .inl h, Nat.le_refl _⟩
theorem Ext.trans {n n' n'' : Nat → Prop} {ρ ρ' ρ'' : Nat → Nat} {A A' A'' : Nat → Prop} {w w' w'' : World} (h : Ext n ρ A w n' ρ' A' w') (k : Ext n' ρ' A' w' n'' ρ'' A'' w'') : Ext n ρ A w n'' ρ'' A'' w'' :=
  ⟨fun id hi => k.ids id (h.ids id hi), fun id hi => (k.nam id (h.ids id hi)).trans (h.nam id hi), fun b hb => k.imm b (h.imm b hb), fun b hb => (k.keep b (h.imm b hb)).trans (h.keep b hb),
   fun b hb => (k.late b hb).elim (h.late b) (fun hl => .inr (Nat.le_trans h.size hl)), Nat.le_trans h.size k.size⟩
theorem Ext.rv {n n' : Nat → Prop} {ρ ρ' : Nat → Nat} {A A' : Nat → Prop} {w w' : World} (h : Ext n ρ A w n' ρ' A' w') {a : AV} {v : Value} (r : Rv ρ A w n a v) : Rv ρ' A' w' n' a v :=
  r.mono h.ids h.nam h.imm h.keep
theorem Ext.rvs {n n' : Nat → Prop} {ρ ρ' : Nat → Nat} {A A' : Nat → Prop} {w w' : World} (h : Ext n ρ A w n' ρ' A' w') {a : List AV} {v : List Value} (r : Rvs ρ A w n a v) : Rvs ρ' A' w' n' a v :=
  r.mono h.ids h.nam h.imm h.keep

end Go.Evl

/- The plans of single operations, and that each plan is what the operation does. Conditions: the program's type table gives the types named. -/
namespace Go.Evl
open Go.RowKit

inductive Res where
  | ret (v : AV)
  | pan
  deriving Inhabited

inductive Plan where
  | val (v : AV)
  | load (id off m : Nat) (ag : Bool)
  | new (cs : List AV) (t : TypeId)
  | store (id off : Nat) (cs : List AV)
  | spc (f : FuncId) (args : List AV) (r : Res)
  | call (f : FuncId) (args : List AV)
  | pan
  | round (id : Nat) (args : List AV)
  | newMap
  | mput (id : Nat) (k v : AV)
  | mget (id : Nat) (k z : AV) (ok : Bool)
  | upd (f : FuncId) (args : List AV) (id : Nat) (s : List AV → Tr Res)
  deriving Inhabited

def Grow (A : Nat → Prop) (w w' : World) : Nat → Prop := fun b => A b ∨ (w.heap.size ≤ b ∧ b < w'.heap.size)

/-- cells written over from off on -/
def seg {α : Type} (vs : List α) (off : Nat) : List α → List α
  | [] => vs
  | u :: us => seg (vs.set off u) (off + 1) us
theorem seg_length {α : Type} (us : List α) : ∀ (vs : List α) (off : Nat), (seg vs off us).length = vs.length := by
  induction us with
  | nil => intros; rfl
  | cons u us ih => intro vs off; simp [seg, ih]

/-- w' is w but for block b, which holds cells vs -/
structure PutB (w w' : World) (b : Nat) (vs : List Value) (t : TypeId) : Prop where
  os : w'.os = w.os
  tape : w'.tape = w.tape
  output : w'.output = w.output
  size : w'.heap.size = w.heap.size
  here : w'.heap[b]? = some (.cells vs.toArray t (0, 0))
  other : ∀ k, k ≠ b → w'.heap[k]? = w.heap[k]?

/-- a key of a kind that is told apart at once -/
def keyB (d : TypeDesc) (k : AV) : Bool :=
  match d, k with
  | .int k, .int k' _ => decide (k' = k)
  | .string, .str _ => true
  | _, _ => false
def mapPut (ents : List MapEntry) (clock : Nat) (k v : Value) : Option (Nat × Value) → Obj
  | some (i, _) => .map (ents.toArray.modify i fun e => { e with key := k, val := v }) clock
  | none => .map (ents.toArray.push { key := k, val := v, born := clock }) (clock + 1)
def mapGet (ok : Bool) (z : Value) : Option (Nat × Value) → Value
  | some (_, v) => if ok then .tuple #[v, .bool true] else v
  | none => if ok then .tuple #[z, .bool false] else z

/-- What a plan says of an operation's run. -/
def Acts (P : Program) (ρ : Nat → Nat) (A : Nat → Prop) (w : World) (n : Nat → Prop) (s : Sem Next) : Plan → Prop
  | .val v => ∃ u w', s.run P w = .ok (.value u) w' ∧ Below w.heap.size w w' ∧ Rv ρ (Grow A w w') w' n v u
  | .load id off m ag => n id ∧ (ag = false → m = 1) ∧ ∀ us : List Value, us.length = m → (∀ j (h : j < us.length), w.cell? ⟨ρ id, off + j, none⟩ = some us[j]) →
      s.run P w = .ok (.value (if ag then .agg us.toArray else us.headD undef)) w
  | .new cs t => ∃ vs, Rvs ρ A w n cs vs ∧ s.run P w = .ok (.value (.pointer (some ⟨w.heap.size, 0, none⟩))) (w.alloc (.cells vs.toArray t))
  | .store id off cs => n id ∧ ∃ vs, Rvs ρ A w n cs vs ∧ ∀ bs t, w.heap[ρ id]? = some (.cells (List.toArray bs) t (0, 0)) → off + vs.length ≤ bs.length →
      ∃ w', s.run P w = .ok .skip w' ∧ PutB w w' (ρ id) (seg bs off vs) t
  | .spc f args _ => ∃ vs, Rvs ρ A w None_ args vs ∧ s.run P w = .ok (.enter f vs.toArray) w
  | .call f args => ∃ vs, Rvs ρ A w n args vs ∧ s.run P w = .ok (.enter f vs.toArray) w
  | .upd f args id _ => n id ∧ ∃ vs, Rvs ρ A w None_ args vs ∧ s.run P w = .ok (.enter f (vs ++ [Value.pointer (some ⟨ρ id, 0, none⟩)]).toArray) w
  | .pan => ∃ t v, s.run P w = .halt (.panic (.iface t v)) w
  | .round id args => n id ∧ ∃ vs, Rvs ρ A w n args vs ∧ s.run P w = (Instr.yield (ρ id) vs.toArray).run P w
  | .newMap => s.run P w = .ok (.value (.map (some w.heap.size))) (w.alloc (.map #[] 0))
  | .mput id k v => n id ∧ ∃ d kv vv, keyB d k = true ∧ Rv ρ A w n k kv ∧ Rv ρ A w n v vv ∧ ∀ ents clock r, w.heap[ρ id]? = some (.map (List.toArray ents) clock) → Instr.findNow d kv ents 0 = some r →
      s.run P w = .ok .skip (w.putObj (ρ id) (mapPut ents clock kv vv r))
  | .mget id k z ok => n id ∧ ∃ d kv zv, keyB d k = true ∧ Rv ρ A w n k kv ∧ Rv ρ A w n z zv ∧ ∀ ents clock r, w.heap[ρ id]? = some (.map (List.toArray ents) clock) → Instr.findNow d kv ents 0 = some r →
      s.run P w = .ok (.value (mapGet ok zv r)) w

/-! Operands -/
def ofConst : Value → AV
  | .bool b => .bool b
  | .int k n => .int k n
  | .string s => .str s
  | .slice none 0 0 => .isl 0 0 (fun _ => [])
  | v => .raw v
def getT (tm : List AV) (t : Nat) : AV := (tm[t]?).getD (.raw undef)
def opd (tm : List AV) : Operand → AV
  | .tmp t => getT tm t
  | .const v => ofConst v
  | .global g => .raw (.pointer (some ⟨g, 0, none⟩))
  | .func f => .fn (.func f) []
section
variable {P : Program} {ρ : Nat → Nat} {A : Nat → Prop} {w : World} {n : Nat → Prop}

theorem ofConst_rv (v : Value) : Rv ρ A w n (ofConst v) v := by
  unfold ofConst
  split <;> first | exact .bool | exact .int | exact .str | exact .isl0 | exact .raw
theorem opd_rv {tm : List AV} {a : Act} (h : Rvs ρ A w n tm a.tmps.toList) (y : Operand) : Rv ρ A w n (opd tm y) (a.eval y) := by
  cases y with
  | tmp t =>
    simp only [opd, getT, Act.eval]
    cases ht : tm[t]? with
    | none =>
      have : a.tmps.toList.length ≤ t := by rw [← h.1]; simpa using ht
      have hs : a.tmps.size ≤ t := by simpa using this
      have : a.tmps.getD t undef = undef := by simp [Array.getD, Nat.not_lt.2 hs]
      rw [this]; exact .raw
    | some c =>
      obtain ⟨v, hv, hr⟩ := h.get ht
      have : a.tmps.getD t undef = v := by
        rw [Array.getD_eq_getD_getElem?, ← Array.getElem?_toList, hv]; rfl
      rw [this]; exact hr
  | const v => exact ofConst_rv v
  | global g => exact .raw
  | func f => exact .fn (vs := []) rfl (fun i hc _ => absurd hc (Nat.not_lt_zero _))

theorem Rv.grow {v : AV} {u : Value} {w' : World} (h : Rv ρ A w n v u) (hA : ∀ b, A b → b < w.heap.size) (hb : Below w.heap.size w w') : Rv ρ (Grow A w w') w' n v u :=
  h.mono (fun _ h => h) (fun _ _ => rfl) (fun _ h => .inl h) (fun b hb' => hb.block b (hA b hb'))
theorem Acts.val_same {s : Sem Next} {v : AV} {u : Value} (hs : s.run P w = .ok (.value u) w) (h : Rv ρ A w n v u) : Acts P ρ A w n s (.val v) :=
  ⟨u, w, hs, Below.refl _ _, h.mono (fun _ h => h) (fun _ _ => rfl) (fun _ h => .inl h) (fun _ _ => rfl)⟩
end

/-! Cells -/
section
variable {P : Program} {w : World}

theorem addr_add (b o k : Nat) : (Addr.mk b o none).add k = ⟨b, o + k, none⟩ := by
  unfold Addr.add
  split
  · subst_vars; rfl
  · rfl
theorem run_loadCellsFrom (b off : Nat) (us : List Value) : ∀ (i : Nat) (acc : Array Value), (∀ j (h : j < us.length), w.cell? ⟨b, off + (i + j), none⟩ = some us[j]) →
    (loadCellsFrom ⟨b, off, none⟩ i us.length acc).run P w = .ok (acc ++ us.toArray) w := by
  induction us with
  | nil => intro i acc _; simp [loadCellsFrom]
  | cons u us ih =>
    intro i acc h
    have h0 : w.cell? ⟨b, off + i, none⟩ = some u := h 0 (by simp)
    have := ih (i + 1) (acc.push u) (fun j hj => by
      have h1 := h (j + 1) (by simpa using hj)
      rw [show off + (i + 1 + j) = off + (i + (j + 1)) by omega]; exact h1)
    simp only [List.length_cons, loadCellsFrom, addr_add, Sem.run_bind, run_load, h0, Result.andThen_ok, this]
    simp
theorem run_loadCells (b off : Nat) (us : List Value) (h : ∀ j (h : j < us.length), w.cell? ⟨b, off + j, none⟩ = some us[j]) :
    (loadCells ⟨b, off, none⟩ us.length).run P w = .ok us.toArray w := by
  have := run_loadCellsFrom (P := P) b off us 0 #[] (fun j hj => by simpa using h j hj)
  simpa [loadCells] using this

def isAgg? (P : Program) (t : TypeId) : Option Bool := (P.underlying t).map fun | .struct _ | .array _ _ => true | _ => false
def size? (P : Program) (t : TypeId) : Option Nat := (P.info? t).map (·.size)

theorem run_underlying' {t : TypeId} {d : TypeDesc} (h : P.underlying t = some d) (w : World) : (underlying t).run P w = .ok d w := by
  simp [underlying, h]
theorem run_isAgg {t : TypeId} {g : Bool} (h : isAgg? P t = some g) (w : World) : (isAgg t).run P w = .ok g w := by
  unfold isAgg? at h
  cases hu : P.underlying t with
  | none => simp [hu] at h
  | some d =>
    simp only [hu, Option.map_some, Option.some.injEq] at h
    simp only [isAgg, Sem.run_bind, run_underlying' hu, Result.andThen_ok]
    subst h
    cases d <;> rfl
theorem run_sizeOf {t : TypeId} {k : Nat} (h : size? P t = some k) (w : World) : (sizeOf t).run P w = .ok k w := by
  unfold size? at h
  cases hi : P.info? t with
  | none => simp [hi] at h
  | some i => simp [hi] at h; simp [sizeOf, typeInfo, hi, h]
theorem run_loadVar {t : TypeId} {g : Bool} {b off : Nat} {us : List Value} (hg : isAgg? P t = some g) (hs : size? P t = some us.length) (h1 : g = false → us.length = 1)
    (h : ∀ j (h : j < us.length), w.cell? ⟨b, off + j, none⟩ = some us[j]) :
    (loadVar t ⟨b, off, none⟩).run P w = .ok (if g then .agg us.toArray else us.headD undef) w := by
  cases g with
  | true => simp [loadVar, run_isAgg hg, run_sizeOf hs, run_loadCells b off us h]
  | false =>
    have := h1 rfl
    match us, this with
    | [u], _ =>
      have h0 : w.cell? ⟨b, off, none⟩ = some u := h 0 (by simp)
      simp [loadVar, run_isAgg hg, run_load, h0]

theorem cells_get {b : Nat} {bs : List Value} {t : TypeId} (hb : w.heap[b]? = some (.cells bs.toArray t (0, 0))) (o : Nat) : w.cell? ⟨b, o, none⟩ = bs[o]? := by
  simp [World.cell?, hb]
theorem run_storeCells {b : Nat} {t : TypeId} (us : List Value) : ∀ (w : World) (off i : Nat) (bs : List Value), w.heap[b]? = some (.cells bs.toArray t (0, 0)) → off + i + us.length ≤ bs.length →
    (∀ u ∈ us, u.oneCell' = true) → ∃ w', (storeCells ⟨b, off, none⟩ us i).run P w = .ok () w' ∧ PutB w w' b (seg bs (off + i) us) t := by
  induction us with
  | nil => intro w off i bs hb _ _; exact ⟨w, by simp [storeCells], rfl, rfl, rfl, rfl, hb, fun _ _ => rfl⟩
  | cons u us ih =>
    intro w off i bs hb hl h1
    simp only [List.length_cons] at hl
    have hc : w.cell? ⟨b, off + i, none⟩ = some bs[off + i] := by rw [cells_get hb]; exact List.getElem?_eq_getElem (by omega)
    have hf : w.frozen? ⟨b, off + i, none⟩ = false := by simp [World.frozen?, hb]
    have hb' : (w.setCell ⟨b, off + i, none⟩ u).heap[b]? = some (.cells (bs.set (off + i) u).toArray t (0, 0)) := by
      simp [World.setCell, Array.getElem?_modify, hb]
    obtain ⟨w', hr, hp⟩ := ih (w.setCell ⟨b, off + i, none⟩ u) off (i + 1) (bs.set (off + i) u) hb' (by simp; omega) (fun v hv => h1 v (by simp [hv]))
    refine ⟨w', ?_, ?_⟩
    · simp only [storeCells, addr_add, Sem.run_bind, run_store _ _ _ _ _ (h1 u (by simp)), hc, hf, Bool.false_eq_true, if_false, Result.andThen_ok, hr]
    · refine ⟨hp.os, hp.tape, hp.output, by rw [hp.size]; simp, hp.here, fun k hk => ?_⟩
      rw [hp.other k hk]
      simp only [World.setCell, Array.getElem?_modify]
      rw [if_neg (fun e => hk e.symm)]
end

/-! Abstract cells -/
/-- values that name nothing -/
def scal1 : AV → Bool
  | .int _ _ => true
  | .bool _ => true
  | .str _ => true
  | _ => false
def scalB : AV → Bool
  | .agg cs => cs.all scal1
  | v => scal1 v
theorem scal1_rv {ρ ρ' : Nat → Nat} {A A' : Nat → Prop} {w w' : World} {n n' : Nat → Prop} {v : AV} {u : Value} (hs : scal1 v = true) (h : Rv ρ A w n v u) : Rv ρ' A' w' n' v u := by
  cases v <;> simp [scal1] at hs
  case int => rw [h.of_int]; exact .int
  case bool => rw [h.of_bool]; exact .bool
  case str => rw [h.of_str]; exact .str
theorem scals_rv {ρ ρ' : Nat → Nat} {A A' : Nat → Prop} {w w' : World} {n n' : Nat → Prop} {cs : List AV} {us : List Value} (hs : cs.all scal1 = true) (h : Rvs ρ A w n cs us) : Rvs ρ' A' w' n' cs us :=
  ⟨h.1, fun i hc hv => scal1_rv (List.all_eq_true.1 hs _ (List.getElem_mem hc)) (h.2 i hc hv)⟩
theorem scal_rv {ρ ρ' : Nat → Nat} {A A' : Nat → Prop} {w w' : World} {n n' : Nat → Prop} {v : AV} {u : Value} (hs : scalB v = true) (h : Rv ρ A w n v u) : Rv ρ' A' w' n' v u := by
  cases v with
  | agg cs =>
    obtain ⟨vs, rfl, hvs⟩ := h.of_agg
    have := scals_rv (ρ' := ρ') (A' := A') (w' := w') (n' := n') hs hvs
    exact .agg this.1 this.2
  | _ => exact scal1_rv hs h
def cellsOf : AV → List AV
  | .agg cs => cs
  | v => [v]
def oneA : AV → Bool
  | .junk => false
  | .agg _ => false
  | .tup _ => false
  | .raw v => v.oneCell'
  | _ => true
/-- a value whose cells are told -/
def plainA : AV → Bool
  | .junk => false
  | .raw v => v.oneCell'
  | .tup _ => false
  | .agg cs => cs.all oneA
  | _ => true
section
variable {P : Program} {ρ : Nat → Nat} {A : Nat → Prop} {w : World} {n : Nat → Prop}
theorem oneA_rv {c : AV} {v : Value} (h : Rv ρ A w n c v) (ho : oneA c = true) : v.oneCell' = true := by
  cases h <;> first | rfl | (simp [oneA] at ho; done) | (simpa [oneA] using ho; done) | (rename_i h; cases h <;> rfl)
theorem Rvs.one {cs : List AV} {vs : List Value} (h : Rvs ρ A w n cs vs) (ho : cs.all oneA = true) : ∀ v ∈ vs, v.oneCell' = true := by
  intro v hv
  obtain ⟨i, hi, rfl⟩ := List.mem_iff_getElem.1 hv
  have hc : i < cs.length := by rw [h.1]; exact hi
  exact oneA_rv (h.2 i hc hi) (List.all_eq_true.1 ho _ (List.getElem_mem hc))
theorem cells_of_one {v : Value} (h : v.oneCell' = true) : v.cells = #[v] := by
  cases v <;> first | rfl | (simp [Value.oneCell'] at h)
theorem cellsOf_rv {c : AV} {v : Value} (h : Rv ρ A w n c v) (hp : plainA c = true) : Rvs ρ A w n (cellsOf c) v.cells.toList ∧ ∀ u ∈ v.cells.toList, u.oneCell' = true := by
  cases hc : c with
  | agg cs =>
    subst hc
    obtain ⟨vs, rfl, hvs⟩ := h.of_agg
    simp only [plainA] at hp
    exact ⟨by simpa [cellsOf, Value.cells] using hvs, by simpa [Value.cells] using hvs.one hp⟩
  | _ =>
    subst hc
    have ho : v.oneCell' = true := oneA_rv h (by first | rfl | (simp [plainA] at hp; done) | (simpa [plainA, oneA] using hp))
    rw [cells_of_one ho]
    exact ⟨.cons h .nil, by simpa using ho⟩
end
end Go.Evl

/- Maps with keys of a kind that is told apart at once. No condition. -/
namespace Go.Evl
open Go.RowKit

def keyEq : AV → AV → Option Bool
  | .int k x, .int k' y => if k = k' then some (x == y) else none
  | .str x, .str y => some (x.toList == y.toList)
  | _, _ => none
/-- the value at a key -/
def findT (k : AV) : List (AV × AV) → Tr (Option AV)
  | [] => .leaf none
  | (k', v) :: es => match keyEq k k' with
    | some b => .node b (.leaf (some v)) (findT k es)
    | none => .non
def putT (k v : AV) : List (AV × AV) → Tr (List (AV × AV))
  | [] => .leaf [(k, v)]
  | (k', v') :: es => match keyEq k k' with
    | some b => .node b (.leaf ((k, v) :: es)) ((putT k v es).fold fun es' => .leaf ((k', v') :: es'))
    | none => .non

section
variable {ρ : Nat → Nat} {A : Nat → Prop} {w : World} {n : Nat → Prop}
theorem keyEq_same {d : TypeDesc} {k k' : AV} {kv kv' : Value} {b : Bool} (hd : keyB d k = true) (h : keyEq k k' = some b) (hk : Rv ρ A w n k kv) (hk' : Rv ρ A w n k' kv') : Instr.sameNow d kv kv' = some b := by
  unfold keyEq at h
  split at h
  · rename_i a x a' y
    cases hk.of_int; cases hk'.of_int
    cases d <;> simp [keyB] at hd
    split at h
    · rename_i e
      subst e
      simpa [Instr.sameNow] using h
    · simp at h
  · rename_i x y
    cases hk.of_str; cases hk'.of_str
    cases d <;> simp [keyB] at hd
    simp only [Instr.sameNow]
    rw [← h, beq_toListBytes]
  · simp at h
theorem Rvs.split2 {es : List (AV × AV)} {k v : AV} {ents : List MapEntry} (h1 : Rvs ρ A w n (((k, v) :: es).map (·.1)) (ents.map (·.key))) (h2 : Rvs ρ A w n (((k, v) :: es).map (·.2)) (ents.map (·.val))) :
    ∃ e rest, ents = e :: rest ∧ Rv ρ A w n k e.key ∧ Rv ρ A w n v e.val ∧ Rvs ρ A w n (es.map (·.1)) (rest.map (·.key)) ∧ Rvs ρ A w n (es.map (·.2)) (rest.map (·.val)) := by
  cases ents with
  | nil => have := h1.1; simp at this
  | cons e rest =>
    obtain ⟨a, l, ha, hr, hrs⟩ := h1.cons_inv
    obtain ⟨a', l', ha', hr', hrs'⟩ := h2.cons_inv
    simp only [List.map_cons, List.cons.injEq] at ha ha'
    obtain ⟨rfl, rfl⟩ := ha
    obtain ⟨rfl, rfl⟩ := ha'
    exact ⟨e, rest, rfl, hr, hr', hrs, hrs'⟩
theorem findT_run {d : TypeDesc} {k : AV} {kv : Value} (hd : keyB d k = true) (hk : Rv ρ A w n k kv) : ∀ (es : List (AV × AV)) (ents : List MapEntry) (i : Nat) (r : Option AV), (findT k es).run = some r →
    Rvs ρ A w n (es.map (·.1)) (ents.map (·.key)) → Rvs ρ A w n (es.map (·.2)) (ents.map (·.val)) →
    match r with
    | none => Instr.findNow d kv ents i = some none
    | some v => ∃ j u, Instr.findNow d kv ents i = some (some (j, u)) ∧ Rv ρ A w n v u := by
  intro es
  induction es with
  | nil =>
    intro ents i r h h1 h2
    simp only [findT, Tr.run, Option.some.injEq] at h
    subst h
    have : ents = [] := by have := h1.1; simpa using this.symm
    subst this
    rfl
  | cons e es ih =>
    intro ents i r h h1 h2
    obtain ⟨k', v'⟩ := e
    obtain ⟨e, rest, rfl, r1, r2, r3, r4⟩ := Rvs.split2 h1 h2
    simp only [findT] at h
    split at h
    · rename_i b hb
      have hs := keyEq_same hd hb hk r1
      simp only [Instr.findNow, hs]
      cases b with
      | true =>
        simp only [Tr.run, cond_true, Option.some.injEq] at h
        subst h
        exact ⟨i, e.val, rfl, r2⟩
      | false =>
        simp only [Tr.run, cond_false] at h
        exact ih rest (i + 1) r h r3 r4
    · simp [Tr.run] at h
theorem putT_run {d : TypeDesc} {k v : AV} {kv vv : Value} (hd : keyB d k = true) (hk : Rv ρ A w n k kv) (_hv : Rv ρ A w n v vv) : ∀ (es : List (AV × AV)) (ents : List MapEntry) (i : Nat) (es' : List (AV × AV)), (putT k v es).run = some es' →
    Rvs ρ A w n (es.map (·.1)) (ents.map (·.key)) → Rvs ρ A w n (es.map (·.2)) (ents.map (·.val)) →
    ∃ r, Instr.findNow d kv ents i = some r ∧ match r with
    | none => es' = es ++ [(k, v)]
    | some (j, _) => ∃ m, j = i + m ∧ m < es.length ∧ es' = es.set m (k, v) := by
  intro es
  induction es with
  | nil =>
    intro ents i es' h h1 h2
    simp only [putT, Tr.run, Option.some.injEq] at h
    subst h
    have : ents = [] := by have := h1.1; simpa using this.symm
    subst this
    exact ⟨none, rfl, rfl⟩
  | cons e es ih =>
    intro ents i es' h h1 h2
    obtain ⟨k', v'⟩ := e
    obtain ⟨e, rest, rfl, r1, r2, r3, r4⟩ := Rvs.split2 h1 h2
    simp only [putT] at h
    split at h
    · rename_i b hb
      have hs := keyEq_same hd hb hk r1
      simp only [Instr.findNow, hs]
      cases b with
      | true =>
        simp only [Tr.run, cond_true, Option.some.injEq] at h
        subst h
        exact ⟨some (i, e.val), rfl, 0, rfl, by simp, rfl⟩
      | false =>
        simp only [Tr.run, cond_false, Tr.fold_eq] at h
        obtain ⟨es2, h3, h4⟩ := Option.bind_eq_some_iff.1 h
        simp only [Option.some.injEq] at h4
        subst h4
        obtain ⟨r, hr, hm⟩ := ih rest (i + 1) es2 h3 r3 r4
        refine ⟨r, hr, ?_⟩
        cases r with
        | none => simp only at hm ⊢; rw [hm]; rfl
        | some p =>
          obtain ⟨j, u⟩ := p
          obtain ⟨m, rfl, hlt, he⟩ := hm
          exact ⟨m + 1, by omega, by simp; omega, by rw [he]; rfl⟩
    · simp [Tr.run] at h
/-- the object behind an insertion -/
theorem putT_obj {d : TypeDesc} {k v : AV} {kv vv : Value} (hd : keyB d k = true) (hk : Rv ρ A w n k kv) (hv : Rv ρ A w n v vv) {es es' : List (AV × AV)} {ents : List MapEntry} {clock : Nat} (h : (putT k v es).run = some es')
    (h1 : Rvs ρ A w n (es.map (·.1)) (ents.map (·.key))) (h2 : Rvs ρ A w n (es.map (·.2)) (ents.map (·.val))) :
    ∃ r, Instr.findNow d kv ents 0 = some r ∧ ObjR ρ A w n (.map es') (mapPut ents clock kv vv r) := by
  obtain ⟨r, hr, hm⟩ := putT_run hd hk hv es ents 0 es' h h1 h2
  refine ⟨r, hr, ?_⟩
  cases r with
  | none =>
    simp only at hm
    subst hm
    refine ⟨ents ++ [{ key := kv, val := vv, born := clock }], clock + 1, by simp [mapPut], ?_, ?_⟩
    · simp only [List.map_append, List.map_cons, List.map_nil]
      exact h1.append (.cons hk .nil)
    · simp only [List.map_append, List.map_cons, List.map_nil]
      exact h2.append (.cons hv .nil)
  | some p =>
    obtain ⟨m, hj, hlt, he⟩ := hm
    have hlen : m < ents.length := by have := h1.1; simp at this; omega
    have hj' : p.1 = m := by omega
    refine ⟨ents.set m { ents[m] with key := kv, val := vv }, clock, ?_, ?_, ?_⟩
    · show Obj.map (ents.toArray.modify p.1 _) clock = _
      rw [hj']
      congr 1
      apply Array.ext'
      simp only [Array.toList_modify]
      apply List.ext_getElem?
      intro q
      rw [List.getElem?_modify, List.getElem?_set]
      by_cases e : m = q
      · subst e; simp [hlen]
      · simp [e]
    · subst he
      rw [List.map_set, List.map_set]
      exact h1.set m hk
    · subst he
      rw [List.map_set, List.map_set]
      exact h2.set m hv
end
end Go.Evl

/- Plans of the operations on numbers, structs, addresses and calls; each acts as it says. Conditions: the context's contracts hold. -/
namespace Go.Evl
open Go.RowKit

/-- The context: the program; contracts of functions; functions entered in place; functions without a body; contracts of functions that write through their last argument. -/
structure Cx where
  P : Program
  spec : FuncId → Option (List AV → Option Res)
  inl : FuncId → Bool
  ext : FuncId → Option (List AV → Option (Bool × AV))
  upd : FuncId → Option (List AV → Tr Res)

/-! equality -/
def partA (P : Program) (t : TypeId) (cs : List AV) (off : Nat) : Option AV :=
  match isAgg? P t, size? P t with
  | some true, some k => some (.agg ((cs.drop off).take k))
  | some false, _ => cs[off]?
  | _, _ => none
def eqFs (P : Program) (f : TypeId → AV → AV → Option Bool) (xs ys : List AV) : List Field → Option Bool
  | [] => some true
  | g :: fs =>
    if g.name ≠ "_" then
      match partA P g.type xs g.offset, partA P g.type ys g.offset with
      | some a, some b => match f g.type a b, eqFs P f xs ys fs with
        | some r, some s => some (r && s)
        | _, _ => none
      | _, _ => none
    else eqFs P f xs ys fs
def eqA (P : Program) : Nat → TypeId → AV → AV → Option Bool
  | 0, _, _, _ => none
  | d + 1, t, a, b =>
    match P.underlying t, a, b with
    | some .bool, .bool x, .bool y => some (x == y)
    | some (.int _), .int k x, .int k' y => if k = k' then some (x == y) else none
    | some .string, .str x, .str y => some (x.toList == y.toList)
    | some (.struct fs), .agg xs, .agg ys => if P.stoodInHeld t then none else eqFs P (eqA P d) xs ys fs.toList
    | _, _, _ => none

section
variable {P : Program} {ρ : Nat → Nat} {A : Nat → Prop} {w : World} {n : Nat → Prop}

theorem partA_run {t : TypeId} {cs : List AV} {vs : List Value} {off : Nat} {a : AV} (h : partA P t cs off = some a) (hr : Rvs ρ A w n cs vs) (w' : World) :
    ∃ u, (part t vs.toArray off).run P w' = .ok u w' ∧ Rv ρ A w n a u := by
  unfold partA at h
  split at h
  · rename_i k hg hk
    simp only [Option.some.injEq] at h
    subst h
    refine ⟨.agg ((vs.drop off).take k).toArray, ?_, ?_⟩
    · simp [part, run_isAgg hg, run_sizeOf hk, List.extract_eq_take_drop]
    · have := (hr.drop off).take k
      exact .agg this.1 this.2
  · rename_i hg
    obtain ⟨u, hu, hr⟩ := hr.get h
    exact ⟨u, by simp [part, run_isAgg hg, hu], hr⟩
  · simp at h

theorem eqA_run (d : Nat) : (∀ (t : TypeId) (a b : AV) (x y : Value) (r : Bool), eqA P d t a b = some r → Rv ρ A w n a x → Rv ρ A w n b y → ∀ w', (Op.equalIn d t x y).run P w' = .ok r w') := by
  induction d with
  | zero => intro t a b x y r h; simp [eqA] at h
  | succ d ih =>
    intro t a b x y r h hx hy w'
    simp only [eqA] at h
    split at h
    · rename_i hu
      cases hx.of_bool; cases hy.of_bool; simp only [Option.some.injEq] at h; subst h
      simp [Op.equalIn, run_underlying' hu]
    · rename_i hu
      cases hx.of_int; cases hy.of_int
      split at h
      · rename_i hk; subst hk; simp only [Option.some.injEq] at h; subst h
        simp [Op.equalIn, run_underlying' hu]
      · simp at h
    · rename_i hu
      cases hx.of_str; cases hy.of_str; simp only [Option.some.injEq] at h; subst h
      simp [Op.equalIn, run_underlying' hu, beq_toListBytes]
    · rename_i fs xs ys hu
      obtain ⟨vs, rfl, hvs⟩ := hx.of_agg
      obtain ⟨us, rfl, hus⟩ := hy.of_agg
      split at h
      · simp at h
      · rename_i hs
        have hf : P.fieldsOf t = fs := by simp [Program.fieldsOf, hu]
        rw [run_equalIn_struct w' d t _ _ (by rw [hf]; exact hu) (by simpa using hs), hf]
        clear hf hu hs
        generalize fs.toList = l at h
        induction l generalizing r w' with
        | nil => simp [eqFs] at h; subst h; simp [Op.eqFields]
        | cons f l ih2 =>
          simp only [eqFs] at h
          simp only [Op.eqFields]
          split at h
          · rename_i hn
            rw [if_pos hn]
            split at h
            · rename_i a b ha hb
              split at h
              · rename_i r1 r2 h1 h2
                simp only [Option.some.injEq] at h
                subst h
                obtain ⟨u1, hu1, hr1⟩ := partA_run ha hvs w'
                obtain ⟨u2, hu2, hr2⟩ := partA_run hb hus w'
                simp only [Sem.run_bind, hu1, hu2, Result.andThen_ok, ih _ _ _ _ _ _ h1 hr1 hr2 w']
                cases r1 with
                | true => simpa using ih2 _ w' h2
                | false => simp
              · simp at h
            · simp at h
          · rename_i hn
            rw [if_neg hn]
            exact ih2 _ w' h
    · simp at h
end

/-! binary operators -/
def arithA (op : BinOp) (k : IntKind) (x y : Int) : Option (Bool × AV) :=
  match op with
  | .add => some (true, .int k (k.wrap (x + y)))
  | .sub => some (true, .int k (k.wrap (x - y)))
  | .mul => some (true, .int k (k.wrap (x * y)))
  | .quo => some (!(decide (y = 0)), .int k (k.wrap (x.tdiv y)))
  | .rem => some (!(decide (y = 0)), .int k (x.tmod y))
  | .and => some (true, .int k (k.wrap (BitVec.ofInt k.bits x &&& BitVec.ofInt k.bits y).toNat))
  | .or => some (true, .int k (k.wrap (BitVec.ofInt k.bits x ||| BitVec.ofInt k.bits y).toNat))
  | .xor => some (true, .int k (k.wrap (BitVec.ofInt k.bits x ^^^ BitVec.ofInt k.bits y).toNat))
  | .andNot => some (true, .int k (k.wrap (BitVec.ofInt k.bits x &&& ~~~BitVec.ofInt k.bits y).toNat))
  | .eql => some (true, .bool (x == y))
  | .neq => some (true, .bool (x != y))
  | .lss => some (true, .bool (decide (x < y)))
  | .leq => some (true, .bool (decide (x ≤ y)))
  | .gtr => some (true, .bool (decide (x > y)))
  | .geq => some (true, .bool (decide (x ≥ y)))
  | _ => none
def shiftA (op : BinOp) (k : IntKind) (x y : Int) : Option (Bool × AV) :=
  match op with
  | .shl => some (!(decide (y < 0)), .int k (k.wrap (x * 2 ^ (min y.toNat k.bits))))
  | .shr => some (!(decide (y < 0)), .int k (x.fdiv (2 ^ (min y.toNat k.bits))))
  | _ => none
/-- two strings are not too long together -/
def szOk (x y : ByteArray) : Bool := Nat.ble (x.size + y.size) 9223372036854775807
def strA (op : BinOp) (x y : ByteArray) : Option (Bool × AV) :=
  match op with
  | .add => some (szOk x y, .str (x ++ y))
  | .eql => some (true, .bool (x.toList == y.toList))
  | .neq => some (true, .bool (!(x.toList == y.toList)))
  | .lss => some (true, .bool (Op.bytesLess x.toList y.toList))
  | .leq => some (true, .bool (Op.bytesLess x.toList y.toList || x.toList == y.toList))
  | .gtr => some (true, .bool (!(Op.bytesLess x.toList y.toList || x.toList == y.toList)))
  | .geq => some (true, .bool (!(Op.bytesLess x.toList y.toList)))
  | _ => none
def isShift : BinOp → Bool
  | .shl | .shr => true
  | _ => false
def binA (P : Program) (op : BinOp) (t : TypeId) (a b : AV) : Option (Bool × AV) :=
  match a, b with
  | .int k x, .int k' y => if isShift op then shiftA op k x y else if k = k' then arithA op k x y else none
  | .str x, .str y => strA op x y
  | .bool _, .bool _ => match op with
    | .eql => (eqA P 10000 t a b).map fun r => (true, .bool r)
    | .neq => (eqA P 10000 t a b).map fun r => (true, .bool (!r))
    | _ => none
  | .agg _, .agg _ => if P.eqGuardType P.depth t then none else match op with
    | .eql => (eqA P 10000 t a b).map fun r => (true, .bool r)
    | .neq => (eqA P 10000 t a b).map fun r => (true, .bool (!r))
    | _ => none
  | _, _ => none

/-- a comparison of an interface with nil: b: whether it is nil -/
def nilB (op : BinOp) (b : Bool) : Option AV :=
  match op with
  | .eql => some (.bool b)
  | .neq => some (.bool (!b))
  | _ => none
def nilA (P : Program) (op : BinOp) (t : TypeId) (a : AV) : Option (Bool × AV) :=
  match P.underlying t, a with
  | some (.interface _), .raw .nilIface => (nilB op true).map fun v => (true, v)
  | some (.interface _), .iface _ _ => (nilB op false).map fun v => (true, v)
  | _, _ => none
def binN (P : Program) (op : BinOp) (t : TypeId) (z : Operand) (a b : AV) : Option (Bool × AV) :=
  match z with
  | .const .nilIface => nilA P op t a
  | _ => binA P op t a b

section
variable {P : Program} {ρ : Nat → Nat} {A : Nat → Prop} {w : World} {n : Nat → Prop}

theorem arithA_run {op : BinOp} {k : IntKind} {x y : Int} {c : Bool} {v : AV} (hs : isShift op = false) (h : arithA op k x y = some (c, v)) (hc : c = true) (t : TypeId) (w' : World) :
    ∃ u, (binOp op t (.int k x) (.int k y)).run P w' = .ok u w' ∧ Rv ρ A w n v u := by
  subst hc
  cases op <;> simp only [arithA, Option.some.injEq, Prod.mk.injEq, true_and, reduceCtorEq] at h <;>
    first
    | (subst h; exact ⟨_, by simp only [binOp, Op.intArith, Op.intBits, Op.intCmp, ne_eq, not_true_eq_false, if_false]; rfl, by constructor⟩)
    | (obtain ⟨h0, rfl⟩ := h
       simp only [Bool.not_eq_true', decide_eq_false_iff_not] at h0
       exact ⟨_, by simp only [binOp, Op.intDiv, ne_eq, not_true_eq_false, if_false, h0]; rfl, by constructor⟩)
    | (exact absurd hs (by decide))
theorem shiftA_run {op : BinOp} {k k' : IntKind} {x y : Int} {c : Bool} {v : AV} (h : shiftA op k x y = some (c, v)) (hc : c = true) (t : TypeId) (w' : World) :
    ∃ u, (binOp op t (.int k x) (.int k' y)).run P w' = .ok u w' ∧ Rv ρ A w n v u := by
  subst hc
  cases op <;> simp only [shiftA, Option.some.injEq, Prod.mk.injEq, reduceCtorEq] at h <;>
    (obtain ⟨h0, rfl⟩ := h
     simp only [Bool.not_eq_true', decide_eq_false_iff_not] at h0
     exact ⟨_, by simp [binOp, Op.shift, h0]; rfl, by constructor⟩)
theorem strA_run {op : BinOp} {x y : ByteArray} {c : Bool} {v : AV} (h : strA op x y = some (c, v)) (hc : c = true) (t : TypeId) (w' : World) :
    ∃ u, (binOp op t (.string x) (.string y)).run P w' = .ok u w' ∧ Rv ρ A w n v u := by
  subst hc
  cases op <;> simp only [strA, Option.some.injEq, Prod.mk.injEq, true_and, reduceCtorEq] at h <;>
    first
    | (subst h; exact ⟨_, by simp only [binOp, Op.stringOp]; rfl, by constructor⟩)
    | (obtain ⟨h0, rfl⟩ := h
       have h1 : ((x.size + y.size : Nat) : Int) ≤ IntKind.i64.max := by
         have := Nat.le_of_ble_eq_true h0
         show _ ≤ (9223372036854775807 : Int)
         omega
       exact ⟨_, by simp only [binOp, Op.stringOp]; rw [if_neg (by omega)]; rfl, by constructor⟩)

theorem binA_run {op : BinOp} {t : TypeId} {a b : AV} {x y : Value} {c : Bool} {v : AV} (h : binA P op t a b = some (c, v)) (hc : c = true)
    (hx : Rv ρ A w n a x) (hy : Rv ρ A w n b y) (ox oy : Operand) (w' : World) :
    ∃ u, ((do eqGuard op t ox oy x y; binOp op t x y) : Sem Value).run P w' = .ok u w' ∧ Rv ρ A w n v u := by
  unfold binA at h
  split at h
  · rename_i k p k' q
    cases hx.of_int; cases hy.of_int
    have hg : (eqGuard op t ox oy (.int k p) (.int k' q)).run P w' = .ok () w' := by cases op <;> simp [eqGuard]
    simp only [Sem.run_bind, hg, Result.andThen_ok]
    split at h
    · exact shiftA_run h hc t w'
    · rename_i hs
      split at h
      · rename_i hk; subst hk; exact arithA_run (by simpa using hs) h hc t w'
      · simp at h
  · rename_i p q
    cases hx.of_str; cases hy.of_str
    have hg : (eqGuard op t ox oy (.string p) (.string q)).run P w' = .ok () w' := by cases op <;> simp [eqGuard]
    simp only [Sem.run_bind, hg, Result.andThen_ok]
    exact strA_run h hc t w'
  · rename_i p q
    have hxb := hx.of_bool; have hyb := hy.of_bool
    have hg : (eqGuard op t ox oy x y).run P w' = .ok () w' := by subst hxb hyb; cases op <;> simp [eqGuard]
    simp only [Sem.run_bind, hg, Result.andThen_ok]
    split at h
    · obtain ⟨r, hr, h2⟩ := Option.map_eq_some_iff.1 h
      simp only [Prod.mk.injEq] at h2
      obtain ⟨_, rfl⟩ := h2
      have := eqA_run _ _ _ _ _ _ _ hr hx hy w'
      subst hxb hyb
      exact ⟨.bool r, by simp [binOp, Op.equal, Op.maxDepth, this], .bool⟩
    · obtain ⟨r, hr, h2⟩ := Option.map_eq_some_iff.1 h
      simp only [Prod.mk.injEq] at h2
      obtain ⟨_, rfl⟩ := h2
      have := eqA_run _ _ _ _ _ _ _ hr hx hy w'
      subst hxb hyb
      exact ⟨.bool (!r), by simp [binOp, Op.equal, Op.maxDepth, this], .bool⟩
    · simp at h
  · rename_i p q
    split at h
    · simp at h
    · rename_i hm
      obtain ⟨vs, rfl, hvs⟩ := hx.of_agg
      obtain ⟨us, rfl, hus⟩ := hy.of_agg
      have hg : (eqGuard op t ox oy (.agg vs.toArray) (.agg us.toArray)).run P w' = .ok () w' := run_eqGuard_agg w' op t ox oy _ _ (by simpa using hm)
      simp only [Sem.run_bind, hg, Result.andThen_ok]
      split at h
      · obtain ⟨r, hr, h2⟩ := Option.map_eq_some_iff.1 h
        simp only [Prod.mk.injEq] at h2
        obtain ⟨_, rfl⟩ := h2
        have := eqA_run _ _ _ _ _ _ _ hr hx hy w'
        exact ⟨.bool r, by rw [run_eql_struct, this]; rfl, .bool⟩
      · obtain ⟨r, hr, h2⟩ := Option.map_eq_some_iff.1 h
        simp only [Prod.mk.injEq] at h2
        obtain ⟨_, rfl⟩ := h2
        have := eqA_run _ _ _ _ _ _ _ hr hx hy w'
        exact ⟨.bool (!r), by rw [run_neq_struct, this]; rfl, .bool⟩
      · simp at h
  · simp at h
theorem ifc_nn {d : Nat} {t : TypeId} {ms : Array (String × TypeId)} (hu : P.underlying t = some (.interface ms)) (w' : World) : (Op.equalIn (d + 1) t .nilIface .nilIface).run P w' = .ok true w' := by
  simp [Op.equalIn, run_underlying' hu]
theorem ifc_in {d : Nat} {t t' : TypeId} {u : Value} {ms : Array (String × TypeId)} (hu : P.underlying t = some (.interface ms)) (w' : World) : (Op.equalIn (d + 1) t (.iface t' u) .nilIface).run P w' = .ok false w' := by
  simp [Op.equalIn, run_underlying' hu]
theorem nilA_run {op : BinOp} {t : TypeId} {a : AV} {x : Value} {c : Bool} {v : AV} (h : nilA P op t a = some (c, v)) (hx : Rv ρ A w n a x) (ox : Operand) (w' : World) :
    ∃ u, ((do eqGuard op t ox (.const .nilIface) x .nilIface; binOp op t x .nilIface) : Sem Value).run P w' = .ok u w' ∧ Rv ρ A w n v u := by
  unfold nilA at h
  split at h
  · rename_i ms hu
    have hx2 : x = .nilIface := by cases hx; rfl
    subst hx2
    have hg : (eqGuard op t ox (.const .nilIface) .nilIface .nilIface).run P w' = .ok () w' := by cases op <;> simp [eqGuard]
    have he : (Op.equalIn 10000 t .nilIface .nilIface).run P w' = .ok true w' := ifc_nn (d := 9999) hu w'
    simp only [Sem.run_bind, hg, Result.andThen_ok]
    obtain ⟨q, hq, h2⟩ := Option.map_eq_some_iff.1 h
    simp only [Prod.mk.injEq] at h2
    obtain ⟨_, rfl⟩ := h2
    cases op <;> simp only [nilB, Option.some.injEq, reduceCtorEq] at hq <;> subst hq
    · exact ⟨.bool true, by simp [binOp, Op.equal, Op.maxDepth, he], .bool⟩
    · exact ⟨.bool false, by simp [binOp, Op.equal, Op.maxDepth, he], .bool⟩
  · rename_i ms t' v' hu
    obtain ⟨u, hx2⟩ : ∃ u, x = .iface t' u := by cases hx; exact ⟨_, rfl⟩
    subst hx2
    have hg : (eqGuard op t ox (.const .nilIface) (.iface t' u) .nilIface).run P w' = .ok () w' := by cases op <;> simp [eqGuard]
    have he : (Op.equalIn 10000 t (.iface t' u) .nilIface).run P w' = .ok false w' := ifc_in (d := 9999) hu w'
    simp only [Sem.run_bind, hg, Result.andThen_ok]
    obtain ⟨q, hq, h2⟩ := Option.map_eq_some_iff.1 h
    simp only [Prod.mk.injEq] at h2
    obtain ⟨_, rfl⟩ := h2
    cases op <;> simp only [nilB, Option.some.injEq, reduceCtorEq] at hq <;> subst hq
    · exact ⟨.bool false, by simp [binOp, Op.equal, Op.maxDepth, he], .bool⟩
    · exact ⟨.bool true, by simp [binOp, Op.equal, Op.maxDepth, he], .bool⟩
  · simp at h
theorem binN_run {op : BinOp} {t : TypeId} {z : Operand} {a b : AV} {x y : Value} {c : Bool} {v : AV} (h : binN P op t z a b = some (c, v)) (hc : c = true)
    (hx : Rv ρ A w n a x) (hy : Rv ρ A w n b y) (hz : ∀ q, z = .const q → y = q) (ox : Operand) (w' : World) :
    ∃ u, ((do eqGuard op t ox z x y; binOp op t x y) : Sem Value).run P w' = .ok u w' ∧ Rv ρ A w n v u := by
  unfold binN at h
  split at h
  · rw [hz _ rfl]; exact nilA_run h hx ox w'
  · exact binA_run h hc hx hy ox _ w'
end
end Go.Evl

/- The plan of an operation out of its operands, and that the operation acts by it. Conditions: the context's contracts hold. -/
namespace Go.Evl
open Go.RowKit

def zeroA (P : Program) (t : TypeId) : Option (List AV) := (P.info? t).bind fun i => i.zero.map fun z => z.cells.toList.map ofConst
def placesA (P : Program) : List Field → Option (List (Nat × Nat))
  | [] => some []
  | f :: fs => match size? P f.type, placesA P fs with
    | some k, some r => some ((f.offset, k) :: r)
    | _, _ => none
def fillA (place : Nat → Option (Nat × Nat)) (cells : List AV) : List (Nat × AV) → Option (List AV)
  | [] => some cells
  | (i, v) :: rest =>
    match place i with
    | none => none
    | some (off, k) => if (cellsOf v).length = k && Nat.ble (off + k) cells.length && plainA v then fillA place (seg cells off (cellsOf v)) rest else none
def buildA (P : Program) (t : TypeId) (parts : List (Nat × AV)) : Option AV :=
  match zeroA P t, P.underlying t with
  | some zero, some (.struct fs) => match placesA P fs.toList with
    | some ps => (fillA (fun i => ps[i]?) zero parts).map .agg
    | none => none
  | _, _ => none
def initV (len k : Nat) (zero : Array Value) : List Value := ((Array.range (len * k)).map (zero[· % zero.size]!)).toList
def buildSliceA (P : Program) (t : TypeId) (len : Nat) (parts : List (Nat × AV)) : Option AV :=
  match P.underlying t with
  | some (.slice e) => match size? P e, (P.info? e).bind (·.zero) with
    | some k, some z =>
      if Nat.ble (len * k) 16777216 && !(Nat.beq (len * k) 0) then
        match fillA (fun i => some (i * k, k)) ((initV len k z.cells).map ofConst) parts with
        | some cells => if bnds 0 cells then some (.isl len k fun i => (cells.drop (i * k)).take k) else none
        | none => none
      else none
    | _, _ => none
  | _ => none
def pickA (t : Bool) (a b : AV) : AV :=
  match a, b with
  | .bool p, .bool q => .bool (bif t then p else q)
  | .int k p, .int k' q => if k = k' then .int k (bif t then p else q) else bif t then a else b
  | _, _ => bif t then a else b
def fieldAddrA (P : Program) (s : TypeId) (f : Nat) (x : AV) : Option AV :=
  match P.underlying s with
  | some (.struct fs) => match fs[f]? with
    | some g => match size? P g.type, x with
      | some (_ + 1), .ptr id off => some (.ptr id (off + g.offset))
      | some (_ + 1), .ipt cells => some (.ipt (cells.drop g.offset))
      | _, _ => none
    | none => none
  | _ => none
def fieldA (P : Program) (s : TypeId) (f : Nat) (x : AV) : Option AV :=
  match P.underlying s, x with
  | some (.struct fs), .agg cs => match fs[f]? with
    | some g => partA P g.type cs g.offset
    | none => none
  | _, _ => none
def indexAddrA (P : Program) (t : TypeId) (x i : AV) : Option (Bool × AV) :=
  match P.underlying t, x, i with
  | some (.slice e), .isl len k el, .int _ j => match size? P e with
    | some k' => if k = k' then some (decide (0 ≤ j) && decide (j < (len : Int)), .ipt (el j.toNat)) else none
    | none => none
  | some (.slice e), .isz len sh el, .int _ j => match size? P e with
    | some k' => if sh.length = k' then some (decide (0 ≤ j) && decide (j < (len : Int)), .ipt (shA (el j.toNat) sh 0)) else none
    | none => none
  | _, _, _ => none
def indexA (P : Program) (t : TypeId) (x i : AV) : Option (Bool × AV) :=
  match P.underlying t, x, i with
  | some .string, .str s, .int _ j => some (decide (0 ≤ j) && decide (j < (s.size : Int)), .int .u8 ((s[j.toNat]?).getD 0).toNat)
  | _, _, _ => none
def loadI (P : Program) (t : TypeId) (cells : List AV) : Option AV :=
  match isAgg? P t, size? P t with
  | some true, some k => if Nat.ble k cells.length then some (.agg (cells.take k)) else none
  | some false, some 1 => cells.head?
  | _, _ => none
def lenA (P : Program) (t : TypeId) (x : AV) : Option AV :=
  match P.underlying t, x with
  | some .string, .str s => some (.int .i64 s.size)
  | some (.slice _), .isl len _ _ => some (.int .i64 len)
  | some (.slice _), .isz len _ _ => some (.int .i64 len)
  | _, _ => none
def unA (op : UnOp) (x : AV) : Option AV :=
  match op, x with
  | .neg, .int k n => some (.int k (k.wrap (0 - n)))
  | .not, .bool b => some (.bool !b)
  | _, _ => none
/-- bytes in cells -/
def bytesC : List (List AV) → Option (Bool × List UInt8)
  | [] => some (true, [])
  | [.int .u8 n] :: r => match bytesC r with
    | some (c, l) => some (decide (0 ≤ n ∧ n < 256) && c, UInt8.ofNat n.toNat :: l)
    | none => none
  | _ => none
def convA (P : Program) (src dst : TypeId) (x : AV) : Option (Bool × AV) :=
  match P.underlying src, P.underlying dst, x with
  | some _, some (.int k), .int _ n => some (true, .int k (k.wrap n))
  | some _, some .string, .str s => some (true, .str s)
  | some (.slice e), some .string, .isl len 1 el => match P.underlying e, bytesC ((List.range len).map el) with
    | some (.int .u8), some (c, l) => some (c, .str ⟨l.toArray⟩)
    | _, _ => none
  | _, _, _ => none
/-- a piece of a string -/
def sliceA (P : Program) (t : TypeId) (x : AV) (lo hi : Option AV) : Option (Bool × AV) :=
  match P.underlying t, x, lo, hi with
  | some .string, .str s, none, some (.int _ h) => some (decide (0 ≤ h ∧ h ≤ (s.size : Int)), .str (s.extract 0 h.toNat))
  | some .string, .str s, some (.int _ l), none => some (decide (0 ≤ l ∧ l ≤ (s.size : Int)), .str (s.extract l.toNat s.size))
  | some .string, .str s, some (.int _ l), some (.int _ h) => some (decide (0 ≤ l ∧ l ≤ h ∧ h ≤ (s.size : Int)), .str (s.extract l.toNat h.toNat))
  | _, _, _, _ => none
def ifaceA (P : Program) (t : TypeId) (x : AV) : Option AV :=
  match P.underlying t with
  | some (.interface _) => none
  | some _ => some (.iface t x)
  | none => none
def minA : List AV → Option AV
  | [.int k x, .int k' y] => if k = k' then some (.int k (bif decide (y < x) then y else x)) else none
  | _ => none
def maxA : List AV → Option AV
  | [.int k x, .int k' y] => if k = k' then some (.int k (bif decide (y > x) then y else x)) else none
  | _ => none
/-- arguments of which the last is an object's address -/
def lastPtr : List AV → Option (List AV × Nat)
  | [] => none
  | [.ptr id off] => if Nat.beq off 0 then some ([], id) else none
  | x :: r => (lastPtr r).map fun p => (x :: p.1, p.2)
def callA (Γ : Cx) (f : AV) (args : List AV) : Option (Bool × Plan) :=
  match f with
  | .fn (.func g) cs =>
    match Γ.spec g with
    | some s => if bnds 0 (args ++ cs) then (s (args ++ cs)).map fun r => (true, .spc g (args ++ cs) r) else none
    | none => match Γ.ext g with
      | some s => (s (args ++ cs)).map fun q => (q.1, .val q.2)
      | none => match Γ.upd g with
        | some s => match lastPtr (args ++ cs) with
          | some (xs, id) => if bnds 0 xs then some (true, .upd g xs id s) else none
          | none => none
        | none => if Γ.inl g then some (true, .call g (args ++ cs)) else none
  | .yld id => some (true, .round id args)
  | _ => none
/-- a type's zero value -/
def zeroV (P : Program) (t : TypeId) : Option AV := (P.info? t).bind fun i => i.zero.map fun z => match z with
  | .agg cs => .agg (cs.toList.map ofConst)
  | z => ofConst z
def ok1 (v : Option AV) : Option (Bool × Plan) := v.map fun v => (true, .val v)
def ok2 (v : Option (Bool × AV)) : Option (Bool × Plan) := v.map fun v => (v.1, .val v.2)

def plan (Γ : Cx) (x : Operand → AV) (op : Op) : Option (Bool × Plan) :=
  match op with
  | .move y => some (true, .val (x y))
  | .assign y => some (true, .val (x y))
  | .pick c a b => match x c with
    | .bool t => some (true, .val (pickA t (x a) (x b)))
    | _ => none
  | .alloc t => (zeroA Γ.P t).map fun cs => (true, .new cs t)
  | .box t y => if plainA (x y) then some (true, .new (cellsOf (x y)) t) else none
  | .build t ps => ok1 (buildA Γ.P t (ps.toList.map fun p => (p.1, x p.2)))
  | .buildSlice t len ps => ok1 (buildSliceA Γ.P t len (ps.toList.map fun p => (p.1, x p.2)))
  | .load t y => match x y with
    | .ptr id off => match isAgg? Γ.P t, size? Γ.P t with
      | some true, some k => some (true, .load id off k true)
      | some false, some 1 => some (true, .load id off 1 false)
      | _, _ => none
    | .ipt cells => ok1 (loadI Γ.P t cells)
    | _ => none
  | .store t y z => match x y, size? Γ.P t with
    | .ptr id off, some k => if (cellsOf (x z)).length = k && plainA (x z) then some (true, .store id off (cellsOf (x z))) else none
    | _, _ => none
  | .binOp op t y z _ => ok2 (binN Γ.P op t z (x y) (x z))
  | .unOp op _ y => ok1 (unA op (x y))
  | .convert s d y => ok2 (convA Γ.P s d (x y))
  | .slice t y lo hi mx => match mx with
    | none => ok2 (sliceA Γ.P t (x y) (lo.map x) (hi.map x))
    | some _ => none
  | .makeInterface t y => ok1 (ifaceA Γ.P t (x y))
  | .makeFunc f first cap => if first.isEmpty then some (true, .val (.fn f (cap.toList.map x))) else none
  | .fieldAddr s y f => ok1 (fieldAddrA Γ.P s f (x y))
  | .field s y f => ok1 (fieldA Γ.P s f (x y))
  | .indexAddr t y i => ok2 (indexAddrA Γ.P t (x y) (x i))
  | .index t y i => ok2 (indexA Γ.P t (x y) (x i))
  | .nilCheck y => match x y with
    | .ptr id off => some (true, .val (.ptr id off))
    | _ => none
  | .extract y i => match x y with
    | .tup cs => ok1 cs[i]?
    | _ => none
  | .call c => match c.callee with
    | .value f => callA Γ (x f) (c.args.toList.map x)
    | .builtin .len => match c.args.toList, c.argTypes[0]? with
      | [y], some t => ok1 (lenA Γ.P t (x y))
      | _, _ => none
    | .builtin .min => ok1 (minA (c.args.toList.map x))
    | .builtin .max => ok1 (maxA (c.args.toList.map x))
    | _ => none
  | .panic y => match x y with
    | .iface _ _ => some (true, .pan)
    | _ => none
  | .makeMap _ r => match r with
    | none => some (true, .newMap)
    | some _ => none
  | .insert t m k v => match x m, Γ.P.underlying t with
    | .map id, some (.map kt _) => match Γ.P.underlying kt with
      | some d => if keyB d (x k) then some (true, .mput id (x k) (x v)) else none
      | none => none
    | _, _ => none
  | .mapUpdate t m k v => match x m, Γ.P.underlying t with
    | .map id, some (.map kt _) => match Γ.P.underlying kt with
      | some d => if keyB d (x k) then some (true, .mput id (x k) (x v)) else none
      | none => none
    | _, _ => none
  | .lookup t m k ok => match x m, Γ.P.underlying t with
    | .map id, some (.map kt et) => match Γ.P.underlying kt, zeroV Γ.P et with
      | some d, some z => if keyB d (x k) then some (true, .mget id (x k) z ok) else none
      | _, _ => none
    | _, _ => none
  | _ => none

/-- what a contract says of a function that writes through its last argument: its arguments, the object's type, the object's cells -/
def UpdHolds (P : Program) (Inv : World → Prop) (f : FuncId) (s : List AV → Option Res) : Prop :=
  ∀ args t cs v cs', s (args ++ .ptr t 0 :: cs) = some (.ret (.tup (v :: cs'))) → bnds 0 cs = true → cs'.length = cs.length → scalB v = true → cs'.all scal1 = true →
  ∀ ρ A w0 w b vs us, Inv w0 → Below w0.heap.size w0 w → w0.heap.size ≤ b → (∀ k, A k → k < w.heap.size) → ¬ A b → Rvs ρ A w None_ args vs → w.heap[b]? = some (.cells (List.toArray us) t (0, 0)) → Rvs ρ A w None_ cs us →
  Calls P f (vs ++ [Value.pointer (some ⟨b, 0, none⟩)]).toArray w fun e w' => Below w0.heap.size w0 w' ∧ w.heap.size ≤ w'.heap.size ∧ (∀ k, k < w.heap.size → k ≠ b → w'.heap[k]? = w.heap[k]?) ∧
    ∃ u us', e = .returned u ∧ w'.heap[b]? = some (.cells (List.toArray us') t (0, 0)) ∧ Rv ρ A w None_ v u ∧ Rvs ρ A w None_ cs' us'
/-- What a context promises. -/
structure Cx.Ok (Γ : Cx) (Inv : World → Prop) : Prop where
  body : ∀ f, (Γ.spec f).isSome = true ∨ Γ.inl f = true → ∃ fn, Γ.P.funcs[f]? = some fn ∧ (fn.name == "runtime.NumGoroutine") = false ∧ fn.body.isNone = false
  ext : ∀ f s, Γ.ext f = some s → ∀ args v, s args = some (true, v) → ∀ ρ A w n vs, Rvs ρ A w n args vs → ∃ u, (callFunc f vs.toArray).run Γ.P w = .ok (.value u) w ∧ Rv ρ A w n v u
  spec : ∀ f s, Γ.spec f = some s → ∀ args r, s args = some r → ∀ ρ A w vs, (∀ b, A b → b < w.heap.size) → Inv w → Rvs ρ A w None_ args vs →
    Calls Γ.P f vs.toArray w fun e w' => Below w.heap.size w w' ∧ match r with
      | .ret v => ∃ u, e = .returned u ∧ Rv ρ (Grow A w w') w' None_ v u
      | .pan => ∃ t u, e = .panicked [{ v := .iface t u, recovered := false }]
  ubody : ∀ f, (Γ.upd f).isSome = true → ∃ fn, Γ.P.funcs[f]? = some fn ∧ (fn.name == "runtime.NumGoroutine") = false ∧ fn.body.isNone = false
  upd : ∀ f s, Γ.upd f = some s → UpdHolds Γ.P Inv f fun a => (s a).run
end Go.Evl

/- Each operation acts by its plan. Conditions: the context's contracts hold. -/
namespace Go.Evl
open Go.RowKit

section
variable {P : Program} {ρ : Nat → Nat} {A : Nat → Prop} {w : World} {n : Nat → Prop}

theorem Rvs.map_const (vs : List Value) : Rvs ρ A w n (vs.map ofConst) vs :=
  ⟨by simp, fun i hc hv => by simpa using ofConst_rv vs[i]⟩
theorem zeroA_run {t : TypeId} {cs : List AV} (h : zeroA P t = some cs) : ∃ z : Value, (∀ w', (zeroValue t).run P w' = .ok z w') ∧ Rvs ρ A w n cs z.cells.toList := by
  unfold zeroA at h
  cases hi : P.info? t with
  | none => simp [hi] at h
  | some i =>
    cases hz : i.zero with
    | none => simp [hi, hz] at h
    | some z =>
      simp only [hi, hz, Option.bind_some, Option.map_some, Option.some.injEq] at h
      subst h
      exact ⟨z, fun w' => by simp [zeroValue, typeInfo, hi, hz], .map_const _⟩
theorem zeroV_run {t : TypeId} {v : AV} (h : zeroV P t = some v) : ∃ z : Value, (∀ w', (zeroValue t).run P w' = .ok z w') ∧ Rv ρ A w n v z := by
  unfold zeroV at h
  cases hi : P.info? t with
  | none => simp [hi] at h
  | some i =>
    cases hz : i.zero with
    | none => simp [hi, hz] at h
    | some z =>
      simp only [hi, hz, Option.bind_some, Option.map_some, Option.some.injEq] at h
      refine ⟨z, fun w' => by simp [zeroValue, typeInfo, hi, hz], ?_⟩
      split at h
      · rename_i cs
        subst h
        have := Rvs.map_const (ρ := ρ) (A := A) (w := w) (n := n) cs.toList
        have e : Value.agg cs = .agg cs.toList.toArray := by simp
        rw [e]
        exact .agg this.1 this.2
      · subst h
        exact ofConst_rv _
theorem placesA_run (w' : World) : ∀ (fs : List Field) (ps : List (Nat × Nat)), placesA P fs = some ps → (fs.mapM fun f => (do pure (f.offset, ← sizeOf f.type) : Sem (Nat × Nat))).run P w' = .ok ps w' := by
  intro fs
  induction fs with
  | nil => intro ps h; simp only [placesA, Option.some.injEq] at h; subst h; simp
  | cons f fs ih =>
    intro ps h
    simp only [placesA] at h
    split at h
    · rename_i k r hk hr
      simp only [Option.some.injEq] at h
      subst h
      have := ih r hr
      simp only [List.mapM_cons, Sem.run_bind, run_sizeOf hk, Result.andThen_ok, Sem.run_pure, this]
    · simp at h
theorem seg_foldl (off : Nat) : ∀ (us : List Value) (k : Nat) (arr : Array Value),
    (us.zipIdx k).foldl (fun cs (x : Value × Nat) => cs.setIfInBounds (off + x.2) x.1) arr = (seg arr.toList (off + k) us).toArray := by
  intro us
  induction us with
  | nil => intro k arr; simp [seg]
  | cons u us ih =>
    intro k arr
    simp only [List.zipIdx_cons, List.foldl_cons, seg]
    rw [ih]
    simp [Nat.add_assoc]
theorem seg_rvs : ∀ (us : List AV) (vs : List Value) (cs : List AV) (bs : List Value) (off : Nat), Rvs ρ A w n us vs → Rvs ρ A w n cs bs → Rvs ρ A w n (seg cs off us) (seg bs off vs) := by
  intro us
  induction us with
  | nil => intro vs cs bs off h k; cases h.nil_inv; exact k
  | cons u us ih =>
    intro vs cs bs off h k
    obtain ⟨v, vs', rfl, h1, h2⟩ := h.cons_inv
    exact ih _ _ _ _ h2 (k.set off h1)
/-- parts of a literal, read one by one -/
inductive PRel (ρ : Nat → Nat) (A : Nat → Prop) (w : World) (n : Nat → Prop) : List (Nat × AV) → List (Nat × Value) → Prop
  | nil : PRel ρ A w n [] []
  | cons {i : Nat} {v : AV} {u : Value} {ps : List (Nat × AV)} {qs : List (Nat × Value)} (h : Rv ρ A w n v u) (t : PRel ρ A w n ps qs) : PRel ρ A w n ((i, v) :: ps) ((i, u) :: qs)
theorem fillA_run {place : Nat → Option (Nat × Nat)} {parts : List (Nat × AV)} {vals : List (Nat × Value)} (hp : PRel ρ A w n parts vals) : ∀ (cells : List AV) (arr : List Value) (out : List AV),
    fillA place cells parts = some out → Rvs ρ A w n cells arr →
    ∃ o : List Value, Instr.fill place arr.toArray vals = some o.toArray ∧ Rvs ρ A w n out o := by
  induction hp with
  | nil =>
    intro cells arr out h hr
    simp only [fillA, Option.some.injEq] at h
    subst h
    exact ⟨arr, rfl, hr⟩
  | @cons i v u ps qs hv _ ih =>
    intro cells arr out h hr
    simp only [fillA] at h
    simp only [Instr.fill]
    cases hpl : place i with
    | none => simp [hpl] at h
    | some ok =>
      obtain ⟨off, k⟩ := ok
      simp only [hpl] at h
      split at h
      · rename_i hc
        simp only [Bool.and_eq_true, decide_eq_true_eq, Nat.ble_eq] at hc
        obtain ⟨⟨hk, hle⟩, hpa⟩ := hc
        obtain ⟨hcells, _⟩ := cellsOf_rv hv hpa
        have hsz : u.cells.size = k := by rw [← hk, hcells.1]; simp
        have hlen : cells.length = arr.length := hr.1
        simp only []
        rw [if_neg (by simp [hsz]; omega)]
        have hf : (u.cells.zipIdx.foldl (fun cs (x : Value × Nat) => cs.setIfInBounds (off + x.2) x.1) arr.toArray) = (seg arr off u.cells.toList).toArray := by
          rw [← Array.foldl_toList, Array.toList_zipIdx, seg_foldl]
          simp
        rw [hf]
        exact ih _ _ out h (seg_rvs _ _ _ _ off hcells hr)
      · simp at h
theorem parts_rel {tm : List AV} {a : Act} (h : Rvs ρ A w n tm a.tmps.toList) (ps : Array (Nat × Operand)) :
    PRel ρ A w n (ps.toList.map fun p => (p.1, opd tm p.2)) (ps.map fun x => (x.1, a.eval x.2)).toList := by
  rw [Array.toList_map]
  generalize ps.toList = l
  induction l with
  | nil => exact .nil
  | cons p l ih => exact .cons (opd_rv h _) ih

theorem buildA_run {t : TypeId} {parts : List (Nat × AV)} {vals : Array (Nat × Value)} {v : AV} (h : buildA P t parts = some v) (hp : PRel ρ A w n parts vals.toList) (w' : World) :
    ∃ u, (Instr.build t vals).run P w' = .ok u w' ∧ Rv ρ A w n v u := by
  unfold buildA at h
  split at h
  · rename_i zero fs hz hu
    split at h
    · rename_i ps hps
      obtain ⟨out, ho, rfl⟩ := Option.map_eq_some_iff.1 h
      obtain ⟨z, hzr, hzv⟩ := zeroA_run (ρ := ρ) (A := A) (w := w) (n := n) hz
      obtain ⟨o, hfo, hro⟩ := fillA_run hp zero z.cells.toList out ho hzv
      refine ⟨.agg o.toArray, ?_, .agg hro.1 hro.2⟩
      have hpl := placesA_run w' fs.toList ps hps
      simp only [Array.toArray_toList] at hfo
      simp only [Instr.build, Sem.run_bind, hzr, Result.andThen_ok, run_underlying' hu, Array.mapM_eq_mapM_toList, Sem.run_map, hpl]
      simp only [List.getElem?_toArray, hfo, Sem.run_pure]
    · simp at h
  · simp at h
end
end Go.Evl

/- Each operation acts by its plan: the whole. Conditions: the context's contracts hold. -/
namespace Go.Evl
open Go.RowKit

section
variable {P : Program} {ρ : Nat → Nat} {A : Nat → Prop} {w : World} {n : Nat → Prop}

theorem below_alloc1 (w : World) (o : Obj) : Below w.heap.size w (w.alloc o) := (Below.refl _ _).alloc (Nat.le_refl _) _
theorem buildSliceA_run {t : TypeId} {len : Nat} {parts : List (Nat × AV)} {vals : Array (Nat × Value)} {v : AV} (h : buildSliceA P t len parts = some v) (hA : ∀ b, A b → b < w.heap.size)
    (hp : PRel ρ A w n parts vals.toList) :
    ∃ u w', (Instr.buildSlice t len vals).run P w = .ok u w' ∧ Below w.heap.size w w' ∧ Rv ρ (Grow A w w') w' n v u := by
  unfold buildSliceA at h
  split at h
  · rename_i e hu
    split at h
    · rename_i k z hk hz
      split at h
      · rename_i hc
        simp only [Bool.and_eq_true, Nat.ble_eq, Bool.not_eq_true'] at hc
        obtain ⟨hle, hne'⟩ := hc
        have hne : ¬ len * k = 0 := fun e => by rw [e] at hne'; cases hne'
        split at h
        · rename_i cells hf
          split at h
          · rename_i hb
            simp only [Option.some.injEq] at h
            subst h
            obtain ⟨o, hfo, hro⟩ := fillA_run hp _ (initV len k z.cells) cells hf (.map_const _)
            have hz' : ∀ w', (zeroValue e).run P w' = .ok z w' := by
              intro w'
              cases hi : P.info? e with
              | none => simp [hi] at hz
              | some i => simp [hi] at hz; simp [zeroValue, typeInfo, hi, hz]
            have hlen : o.length = len * k := by
              have h1 : cells.length = o.length := hro.1
              have h2 : cells.length = (initV len k z.cells).length := by
                have : ∀ (parts : List (Nat × AV)) (cs out : List AV) (pl : Nat → Option (Nat × Nat)), fillA pl cs parts = some out → out.length = cs.length := by
                  intro parts
                  induction parts with
                  | nil => intro cs out pl h; simp only [fillA, Option.some.injEq] at h; rw [h]
                  | cons p parts ih =>
                    intro cs out pl h
                    simp only [fillA] at h
                    split at h
                    · simp at h
                    · split at h
                      · rw [ih _ _ _ h, seg_length]
                      · simp at h
                rw [this _ _ _ _ hf]; simp
              rw [← h1, h2]; simp [initV]
            refine ⟨.slice (some ⟨w.heap.size, 0, none⟩) len len, w.alloc (.cells o.toArray e), ?_, below_alloc1 _ _, ?_⟩
            · simp only [Instr.buildSlice, Sem.run_bind, run_underlying' hu, Result.andThen_ok, run_sizeOf hk]
              rw [if_neg (by omega)]
              simp only [Sem.run_bind, Sem.run_pure, Result.andThen_ok, if_neg hne, hz']
              have : ((Array.range (len * k)).map (z.cells[· % z.cells.size]!)) = (initV len k z.cells).toArray := by simp only [initV, Array.toArray_toList]
              simp only [this, hfo, newRow, Sem.run_bind, run_newObj, Result.andThen_ok, Sem.run_pure]
              rfl
            · have hcell : ∀ j (hj : j < o.length), (w.alloc (.cells o.toArray e)).cell? ⟨w.heap.size, j, none⟩ = some o[j] := by
                intro j hj
                rw [World.cell?_alloc_new]; simp [hj]
              have hro' := (hro.bnd0 hb).mono (ρ' := ρ) (A' := Grow A w (w.alloc (.cells o.toArray e))) (w' := w.alloc (.cells o.toArray e)) (fun _ h => h) (fun _ _ => rfl) (fun _ h => .inl h)
                (fun b hb' => (below_alloc1 w _).block b (hA b hb'))
              have hidx : ∀ i, i < len → ∀ j, j < k → i * k + j < o.length := by
                intro i hi j hj
                rw [hlen]
                calc i * k + j < i * k + k := by omega
                  _ = (i + 1) * k := by rw [Nat.add_mul, Nat.one_mul]
                  _ ≤ len * k := Nat.mul_le_mul_right k hi
              have hcl : cells.length = o.length := hro.1
              refine .isl (us := fun i j => (o[i * k + j]?).getD undef) (.inr ⟨Nat.le_refl _, by simp⟩) ?_ ?_ ?_ (Nat.le_refl _)
              · intro i hi
                simp only [List.length_take, List.length_drop]
                have : (i + 1) * k ≤ len * k := Nat.mul_le_mul_right k hi
                rw [Nat.add_mul, Nat.one_mul] at this
                omega
              · intro i hi j hj
                have := hidx i hi j hj
                rw [show 0 + i * k + j = i * k + j by omega, hcell _ this]
                simp [this]
              · intro i hi j hj
                simp only [List.length_take, List.length_drop] at hj
                have hj' : i * k + j < o.length := by omega
                have hc' : i * k + j < cells.length := by omega
                have := hro'.2 (i * k + j) hc' hj'
                simp only [List.getElem_take, List.getElem_drop]
                simpa [hj'] using this
          · simp at h
        · simp at h
      · simp at h
    · simp at h
  · simp at h

theorem fieldAddrA_run {s : TypeId} {f : Nat} {x v : AV} {u : Value} (h : fieldAddrA P s f x = some v) (hx : Rv ρ A w n x u) (w' : World) :
    ∃ u', (Instr.fieldAt s u f).run P w' = .ok u' w' ∧ Rv ρ A w n v u' := by
  unfold fieldAddrA at h
  split at h
  · rename_i fs hu
    split at h
    · rename_i g hg
      have hfp : ∀ {k : Nat} (hk : size? P g.type = some (k + 1)) (b off : Nat), (Instr.fieldAt s (.pointer (some ⟨b, off, none⟩)) f).run P w' = .ok (.pointer (some ⟨b, off + g.offset, none⟩)) w' := by
        intro k hk b off
        simp [Instr.fieldAt, run_underlying' hu, hg, Instr.sureAddr, fieldPlace, run_sizeOf hk, addr_add]
      split at h
      · rename_i k id off hk
        obtain ⟨rfl, hid⟩ := hx.of_ptr
        simp only [Option.some.injEq] at h
        subst h
        exact ⟨_, hfp hk _ _, .ptr hid⟩
      · rename_i k cells hk
        simp only [Option.some.injEq] at h
        subst h
        cases hx with
        | ipt us hb hc hr =>
          refine ⟨_, hfp hk _ _, .ipt (fun j => us (g.offset + j)) hb (fun j hj => ?_) (fun j hj => ?_)⟩
          · simp only [List.length_drop] at hj
            rw [← hc (g.offset + j) (by omega)]; congr 2; omega
          · simp only [List.length_drop] at hj
            simp only [List.getElem_drop]
            exact hr (g.offset + j) (by omega)
      · simp at h
    · simp at h
  · simp at h

theorem fieldA_run {s : TypeId} {f : Nat} {x v : AV} {u : Value} (h : fieldA P s f x = some v) (hx : Rv ρ A w n x u) (w' : World) :
    ∃ u', (Instr.field s u f).run P w' = .ok u' w' ∧ Rv ρ A w n v u' := by
  unfold fieldA at h
  split at h
  · rename_i fs cs hu
    split at h
    · rename_i g hg
      obtain ⟨vs, rfl, hvs⟩ := hx.of_agg
      obtain ⟨u', hr, hv⟩ := partA_run h hvs w'
      exact ⟨u', by simp [Instr.field, run_underlying' hu, hg, asAgg, hr], hv⟩
    · simp at h
  · simp at h

theorem indexAddrA_run {t : TypeId} {x i v : AV} {c : Bool} {u ui : Value} (h : indexAddrA P t x i = some (c, v)) (hc : c = true) (hx : Rv ρ A w n x u) (hi : Rv ρ A w n i ui) (w' : World) :
    ∃ u', (Instr.indexAt t u ui).run P w' = .ok u' w' ∧ Rv ρ A w n v u' := by
  subst hc
  unfold indexAddrA at h
  split at h
  · rename_i e len k el kk j hu
    cases hi.of_int
    split at h
    · rename_i k' hk
      split at h
      · rename_i hkk
        subst hkk
        simp only [Option.some.injEq, Prod.mk.injEq, Bool.and_eq_true, decide_eq_true_eq] at h
        obtain ⟨⟨h0, h1⟩, rfl⟩ := h
        cases hx with
        | isl0 => omega
        | isl us hb hkl hcl hr hcap =>
          rename_i b off cap
          have hj : j.toNat < len := by omega
          refine ⟨.pointer (some ⟨b, off + j.toNat * k, none⟩), ?_, .ipt (us j.toNat) hb (fun q hq => ?_) (fun q hq => hr j.toNat hj q hq)⟩
          · simp [Instr.indexAt, asIntOf, run_underlying' hu, h0, h1, run_sizeOf hk, addr_add]
          · rw [hkl _ hj] at hq
            exact hcl _ hj q hq
      · simp at h
    · simp at h
  · rename_i e len sh el kk j hu
    cases hi.of_int
    cases hx with
    | isz hx =>
    split at h
    · rename_i k' hk
      split at h
      · rename_i hkk
        subst hkk
        simp only [Option.some.injEq, Prod.mk.injEq, Bool.and_eq_true, decide_eq_true_eq] at h
        obtain ⟨⟨h0, h1⟩, rfl⟩ := h
        cases hx with
        | isl0 => omega
        | isl us hb hkl hcl hr hcap =>
          rename_i b off cap
          have hj : j.toNat < len := by omega
          refine ⟨.pointer (some ⟨b, off + j.toNat * sh.length, none⟩), ?_, .ipt (us j.toNat) hb (fun q hq => ?_) (fun q hq => hr j.toNat hj q hq)⟩
          · simp [Instr.indexAt, asIntOf, run_underlying' hu, h0, h1, run_sizeOf hk, addr_add]
          · rw [shA_length] at hq
            exact hcl _ hj q hq
      · simp at h
    · simp at h
  · simp at h

theorem indexA_run {t : TypeId} {x i v : AV} {c : Bool} {u ui : Value} (h : indexA P t x i = some (c, v)) (hc : c = true) (hx : Rv ρ A w n x u) (hi : Rv ρ A w n i ui) (w' : World) :
    ∃ u', (Instr.index t u ui).run P w' = .ok u' w' ∧ Rv ρ A w n v u' := by
  subst hc
  unfold indexA at h
  split at h
  · rename_i s kk j hu
    cases hi.of_int
    cases hx.of_str
    simp only [Option.some.injEq, Prod.mk.injEq, Bool.and_eq_true, decide_eq_true_eq] at h
    obtain ⟨⟨h0, h1⟩, rfl⟩ := h
    have hj : j.toNat < s.size := by omega
    refine ⟨.int .u8 ((s[j.toNat]?).getD 0).toNat, ?_, .int⟩
    simp [Instr.index, asIntOf, run_underlying' hu, h0, hj]
  · simp at h

theorem loadI_run {t : TypeId} {cells : List AV} {v : AV} {u : Value} (h : loadI P t cells = some v) (hx : Rv ρ A w n (.ipt cells) u) :
    ∃ u', (Instr.loadAt t u).run P w = .ok u' w ∧ Rv ρ A w n v u' := by
  unfold loadI at h
  cases hx with
  | ipt us hb hc hr =>
    split at h
    · rename_i k hg hk
      split at h
      · rename_i hle
        simp only [Nat.ble_eq] at hle
        simp only [Option.some.injEq] at h
        subst h
        have hl : ((List.range k).map us).length = k := by simp
        refine ⟨.agg ((List.range k).map us).toArray, ?_, .agg (by simp; omega) (fun i h1 h2 => ?_)⟩
        · have := run_loadVar (P := P) (us := (List.range k).map us) hg (by rw [hl]; exact hk) (by simp) (fun j hj => by
            simp only [List.length_map, List.length_range] at hj
            simpa using hc j (by omega))
          simp only [if_true] at this
          simp [Instr.loadAt, Instr.sureAddr, this]
        · simp only [List.length_take] at h1
          simp only [List.getElem_take, List.getElem_map, List.getElem_range]
          exact (hr i (by omega)).any
      · simp at h
    · rename_i hg hk
      cases cells with
      | nil => simp at h
      | cons c cells =>
        simp only [List.head?_cons, Option.some.injEq] at h
        subst h
        have := run_loadVar (P := P) (us := [us 0]) hg (by simpa using hk) (by simp) (fun j hj => by
          simp only [List.length_cons, List.length_nil] at hj
          have : j = 0 := by omega
          subst this
          exact hc 0 (by simp))
        simp only [Bool.false_eq_true, if_false, List.headD_cons] at this
        exact ⟨us 0, by simp [Instr.loadAt, Instr.sureAddr, this], (hr 0 (by simp)).any⟩
    · simp at h

theorem lenA_run {t : TypeId} {x v : AV} {u : Value} (h : lenA P t x = some v) (hx : Rv ρ A w n x u) (at_ : Array TypeId) (ht : at_[0]? = some t) (ty : TypeId) (w' : World) :
    ∃ u', (Builtin.len_ at_ ty #[u]).run P w' = .ok u' w' ∧ Rv ρ A w n v u' := by
  unfold lenA at h
  split at h
  · rename_i s hu
    cases hx.of_str
    simp only [Option.some.injEq] at h; subst h
    exact ⟨.int .i64 s.size, by simp [Builtin.len_, ht, run_underlying' hu, goInt], .int⟩
  · rename_i e len k el hu
    simp only [Option.some.injEq] at h; subst h
    cases hx with
    | isl0 => exact ⟨.int .i64 (0 : Nat), by simp [Builtin.len_, ht, run_underlying' hu, goInt], .int⟩
    | isl us hb hkl hcl hr hcap => exact ⟨.int .i64 len, by simp [Builtin.len_, ht, run_underlying' hu, goInt], .int⟩
  · rename_i e len k el hu
    simp only [Option.some.injEq] at h; subst h
    cases hx with
    | isz hx =>
    cases hx with
    | isl0 => exact ⟨.int .i64 (0 : Nat), by simp [Builtin.len_, ht, run_underlying' hu, goInt], .int⟩
    | isl us hb hkl hcl hr hcap => exact ⟨.int .i64 len, by simp [Builtin.len_, ht, run_underlying' hu, goInt], .int⟩
  · simp at h
theorem unA_run {op : UnOp} {x v : AV} {u : Value} (h : unA op x = some v) (hx : Rv ρ A w n x u) (w' : World) : ∃ u', (Op.unary op u).run P w' = .ok u' w' ∧ Rv ρ A w n v u' := by
  unfold unA at h
  split at h
  · cases hx.of_int; simp only [Option.some.injEq] at h; subst h; exact ⟨_, rfl, .int⟩
  · cases hx.of_bool; simp only [Option.some.injEq] at h; subst h; exact ⟨_, rfl, .bool⟩
  · simp at h
theorem bytesC_run : ∀ (ls : List (List AV)) (l : List UInt8) (us : Nat → Nat → Value), bytesC ls = some (true, l) →
    (∀ i (h : i < ls.length), ∀ j (hj : j < ls[i].length), Rv ρ A w None_ ls[i][j] (us i j)) → l.length = ls.length ∧ ∀ i (h : i < l.length), us i 0 = .int .u8 (l[i].toNat : Int) := by
  intro ls
  induction ls with
  | nil => intro l us h _; simp only [bytesC, Option.some.injEq, Prod.mk.injEq, true_and] at h; subst h; exact ⟨rfl, fun i h => absurd h (Nat.not_lt_zero _)⟩
  | cons c r ih =>
    intro l us h hr
    unfold bytesC at h
    split at h
    · rename_i heq; cases heq
    · rename_i nn r' heq
      simp only [List.cons.injEq] at heq
      obtain ⟨rfl, rfl⟩ := heq
      split at h
      · rename_i c2 l2 h2
        simp only [Option.some.injEq, Prod.mk.injEq, Bool.and_eq_true, decide_eq_true_eq] at h
        obtain ⟨⟨hn, rfl⟩, rfl⟩ := h
        obtain ⟨h3, h4⟩ := ih l2 (fun i j => us (i + 1) j) h2 (fun i hi j hj => hr (i + 1) (by simpa using hi) j (by simpa using hj))
        refine ⟨by simp [h3], fun i hi => ?_⟩
        cases i with
        | zero =>
          have := (hr 0 (by simp) 0 (by simp))
          simp only [List.getElem_cons_zero] at this
          rw [this.of_int]
          simp only [List.getElem_cons_zero, Value.int.injEq, true_and]
          rw [UInt8.toNat_ofNat']
          omega
        | succ i => simpa using h4 i (by simpa using hi)
      · simp at h
    · simp at h
theorem convA_run {s d : TypeId} {x v : AV} {u : Value} (h : convA P s d x = some (true, v)) (hx : Rv ρ A w n x u) : ∃ u', (convert s d u).run P w = .ok u' w ∧ Rv ρ A w n v u' := by
  unfold convA at h
  split at h
  · rename_i hs hd
    cases hx.of_int; simp only [Option.some.injEq, Prod.mk.injEq, true_and] at h; subst h
    exact ⟨_, by simp only [convert, Sem.run_bind, run_underlying' hs, run_underlying' hd, Result.andThen_ok, Conv.intToInt, Sem.run_pure], .int⟩
  · rename_i hs hd
    cases hx.of_str; simp only [Option.some.injEq, Prod.mk.injEq, true_and] at h; subst h
    exact ⟨_, by simp only [convert, Sem.run_bind, run_underlying' hs, run_underlying' hd, Result.andThen_ok, Sem.run_pure], .str⟩
  · rename_i e len el hs hd
    split at h
    · rename_i c l he hb
      simp only [Option.some.injEq, Prod.mk.injEq] at h
      obtain ⟨rfl, rfl⟩ := h
      cases hx with
      | isl0 =>
        simp only [List.range_zero, List.map_nil, bytesC, Option.some.injEq, Prod.mk.injEq, true_and] at hb
        subst hb
        rename_i a cap
        cases a with
        | none => exact ⟨_, by simp [convert, run_underlying' hs, run_underlying' hd, run_underlying' he, Conv.bytesToString]; rfl, .str⟩
        | some a => exact ⟨_, run_convert_bytes_back w s d e a cap [] hs he hd (fun j hj => absurd hj (Nat.not_lt_zero _)), .str⟩
      | isl us hbA hkl hcl hr hcap =>
        rename_i b off cap
        obtain ⟨h1, h2⟩ := bytesC_run _ l us hb (fun i hi j hj => by
          simp only [List.length_map, List.length_range] at hi
          simp only [List.getElem_map, List.getElem_range] at hj ⊢
          exact hr i hi j hj)
        simp only [List.length_map, List.length_range] at h1
        subst h1
        refine ⟨_, run_convert_bytes_back w s d e ⟨b, off, none⟩ cap l hs he hd (fun j hj => ?_), .str⟩
        rw [addr_add, ← h2 j hj]
        have := hcl j hj 0 (by omega)
        simpa using this
    · simp at h
  · simp at h
theorem sliceA_run {t : TypeId} {x v : AV} {u : Value} {lo hi : Option AV} {lv hv : Option Value} (h : sliceA P t x lo hi = some (true, v)) (hx : Rv ρ A w n x u)
    (hl : ∀ a, lo = some a → ∃ b, lv = some b ∧ Rv ρ A w n a b) (hl0 : lo = none → lv = none) (hh : ∀ a, hi = some a → ∃ b, hv = some b ∧ Rv ρ A w n a b) (hh0 : hi = none → hv = none) :
    ∃ u', (Instr.sliceAt t u lv hv none).run P w = .ok u' w ∧ Rv ρ A w n v u' := by
  unfold sliceA at h
  split at h
  · rename_i s kh hh' hu
    cases hx.of_str
    simp only [Option.some.injEq, Prod.mk.injEq, decide_eq_true_eq] at h
    obtain ⟨h1, rfl⟩ := h
    obtain ⟨b, rfl, hb⟩ := hh _ rfl
    rw [hl0 rfl, hb.of_int]
    refine ⟨_, ?_, .str⟩
    simp [Instr.sliceAt, Instr.slice, run_underlying' hu, Instr.sliceBounds, Instr.sliceBound, asIntOf, h1]
  · rename_i s kl ll hu
    cases hx.of_str
    simp only [Option.some.injEq, Prod.mk.injEq, decide_eq_true_eq] at h
    obtain ⟨h1, rfl⟩ := h
    obtain ⟨b, rfl, hb⟩ := hl _ rfl
    rw [hh0 rfl, hb.of_int]
    refine ⟨_, ?_, .str⟩
    simp [Instr.sliceAt, Instr.slice, run_underlying' hu, Instr.sliceBounds, Instr.sliceBound, asIntOf, h1]
  · rename_i s kl ll kh hh' hu
    cases hx.of_str
    simp only [Option.some.injEq, Prod.mk.injEq, decide_eq_true_eq] at h
    obtain ⟨⟨h1, h2, h3⟩, rfl⟩ := h
    obtain ⟨b, rfl, hb⟩ := hl _ rfl
    obtain ⟨b', rfl, hb'⟩ := hh _ rfl
    rw [hb.of_int, hb'.of_int]
    refine ⟨_, ?_, .str⟩
    have e1 : (0 : Int) ≤ hh' := by omega
    have e2 : ((hh'.toNat : Nat) : Int) = hh' := by omega
    simp [Instr.sliceAt, Instr.slice, run_underlying' hu, Instr.sliceBounds, Instr.sliceBound, asIntOf, h1, h2, h3, e1, e2]
  · simp at h
theorem ifaceA_run {t : TypeId} {x v : AV} {u : Value} (h : ifaceA P t x = some v) (hx : Rv ρ A w n x u) (w' : World) : ∃ u', (Instr.makeInterface t u).run P w' = .ok u' w' ∧ Rv ρ A w n v u' := by
  unfold ifaceA at h
  split at h
  · simp at h
  · rename_i d hd hne
    simp only [Option.some.injEq] at h; subst h
    refine ⟨.iface t u, ?_, .iface hx⟩
    simp only [Instr.makeInterface, Sem.run_bind, run_underlying' hne, Result.andThen_ok]
    cases d <;> first | rfl | exact absurd hne (hd _)
  · simp at h
theorem pickA_rv {t : Bool} {a b : AV} {x y : Value} (hx : Rv ρ A w n a x) (hy : Rv ρ A w n b y) : Rv ρ A w n (pickA t a b) (if t then x else y) := by
  unfold pickA
  split
  · cases hx.of_bool; cases hy.of_bool; cases t <;> exact .bool
  · split
    · rename_i h; subst h; cases hx.of_int; cases hy.of_int; cases t <;> exact .int
    · cases t
      · exact hy
      · exact hx
  · cases t
    · exact hy
    · exact hx
end
end Go.Evl

/- Each operation acts by its plan: the theorem. Conditions: the context's contracts hold. -/
namespace Go.Evl
open Go.RowKit

section
variable {ρ : Nat → Nat} {A : Nat → Prop} {w : World} {n : Nat → Prop} {Γ : Cx} {Inv : World → Prop}

theorem args_rel {tm : List AV} {a : Act} (h : Rvs ρ A w n tm a.tmps.toList) (ys : List Operand) : Rvs ρ A w n (ys.map (opd tm)) (ys.map a.eval) := by
  induction ys with
  | nil => exact .nil
  | cons y ys ih => exact .cons (opd_rv h y) ih

theorem callFunc_enter {P : Program} {f : FuncId} {fn : Func} (hf : P.funcs[f]? = some fn) (hn : (fn.name == "runtime.NumGoroutine") = false) (hb : fn.body.isNone = false) (args : Array Value) (w : World) :
    (callFunc f args).run P w = .ok (.enter f args) w := by
  simp only [callFunc, Sem.run_bind, run_program, Result.andThen_ok, hf, hn, hb, Bool.false_eq_true, if_false, Sem.run_pure]

theorem lastPtr_eq : ∀ {l xs : List AV} {id : Nat}, lastPtr l = some (xs, id) → l = xs ++ [.ptr id 0] := by
  intro l
  induction l with
  | nil => intro xs id h; simp [lastPtr] at h
  | cons x r ih =>
    intro xs id h
    unfold lastPtr at h
    split at h
    · cases ‹_ = _›
    · rename_i id' off he
      cases he
      split at h
      · rename_i h0
        simp only [Nat.beq_eq] at h0
        subst h0
        simp only [Option.some.injEq, Prod.mk.injEq] at h
        obtain ⟨rfl, rfl⟩ := h
        rfl
      · simp at h
    · rename_i y r' _ he
      cases he
      obtain ⟨q, hq, h2⟩ := Option.map_eq_some_iff.1 h
      simp only [Prod.mk.injEq] at h2
      obtain ⟨rfl, rfl⟩ := h2
      rw [ih (by rw [hq])]
      rfl
theorem callA_acts (hΓ : Γ.Ok Inv) {f : AV} {args : List AV} {p : Plan} (h : callA Γ f args = some (true, p)) {fv : Value} (hf : Rv ρ A w n f fv) {vs : List Value} (hv : Rvs ρ A w n args vs) :
    Acts Γ.P ρ A w n (do let d ← Deferred.ofValue fv vs.toArray; invoke d.target d.args) p := by
  unfold callA at h
  split at h
  · rename_i g cs
    obtain ⟨us, rfl, hus⟩ := hf.of_fn
    have happ := hv.append hus
    have hrun : ((do let d ← Deferred.ofValue (.func (.func g) #[] us.toArray) vs.toArray; invoke d.target d.args) : Sem Next).run Γ.P w = (callFunc g (vs ++ us).toArray).run Γ.P w := by
      simp [Deferred.ofValue, invoke]
    split at h
    · rename_i s hs
      split at h
      · rename_i hb
        obtain ⟨r, _, h4⟩ := Option.map_eq_some_iff.1 h
        simp only [Prod.mk.injEq, true_and] at h4
        subst h4
        obtain ⟨fn, h1, h2, h3⟩ := hΓ.body g (.inl (by simp [hs]))
        exact ⟨vs ++ us, happ.bnd0 hb, by rw [hrun, callFunc_enter h1 h2 h3]⟩
      · simp at h
    · split at h
      · rename_i s hs
        obtain ⟨v, hv', h4⟩ := Option.map_eq_some_iff.1 h
        simp only [Prod.mk.injEq] at h4
        obtain ⟨h5, rfl⟩ := h4
        obtain ⟨u, hu, hr⟩ := hΓ.ext g s hs _ v.2 (by rw [hv', ← h5]) ρ A w n _ happ
        exact .val_same (by rw [hrun, hu]) hr
      · split at h
        · rename_i s hs
          split at h
          · rename_i xs id hl
            split at h
            · rename_i hb
              simp only [Option.some.injEq, Prod.mk.injEq, true_and] at h
              subst h
              obtain ⟨fn, h1, h2, h3⟩ := hΓ.ubody g (by simp [hs])
              rw [lastPtr_eq hl] at happ
              have hy := happ.take xs.length
              rw [List.take_left] at hy
              obtain ⟨z, hz1, hz2⟩ := happ.get (i := xs.length) (c := .ptr id 0) (by simp)
              obtain ⟨rfl, hid⟩ := hz2.of_ptr
              have hlen := happ.1
              simp only [List.length_append, List.length_cons, List.length_nil] at hlen
              have he : vs ++ us = (vs ++ us).take xs.length ++ [.pointer (some ⟨ρ id, 0, none⟩)] := by
                rw [← List.take_append_drop xs.length (vs ++ us)]
                congr 1
                · simp
                · refine List.ext_getElem? fun k => ?_
                  rw [List.getElem?_drop]
                  match k with
                  | 0 => simpa using hz1
                  | k + 1 => rw [List.getElem?_eq_none (by simp only [List.length_append]; omega)]; simp
              refine ⟨hid, _, hy.bnd0 hb, ?_⟩
              rw [hrun, callFunc_enter h1 h2 h3, ← he]
            · simp at h
          · simp at h
        · split at h
          · rename_i hi
            simp only [Option.some.injEq, Prod.mk.injEq, true_and] at h
            subst h
            obtain ⟨fn, h1, h2, h3⟩ := hΓ.body g (.inr hi)
            exact ⟨vs ++ us, happ, by rw [hrun, callFunc_enter h1 h2 h3]⟩
          · simp at h
  · rename_i id
    simp only [Option.some.injEq, Prod.mk.injEq, true_and] at h
    subst h
    obtain ⟨rfl, hid⟩ := hf.of_yld
    exact ⟨hid, vs, hv, by simp [Deferred.ofValue, invoke]⟩
  · simp at h

/-- keys of the two kinds are keys -/
theorem isKey_of {d : TypeDesc} {k : AV} {kv : Value} (hd : keyB d k = true) (hk : Rv ρ A w n k kv) : MapKept.IsKey d kv := by
  cases k <;> cases d <;> simp [keyB] at hd
  · cases hk.of_int; exact hd
  · cases hk.of_str; trivial
theorem sameNow_eq {d : TypeDesc} {kv k' : Value} (hk : MapKept.IsKey d kv) (h : Instr.sameNow d kv k' = some true) : k' = kv := by
  cases d <;> cases kv <;> simp [MapKept.IsKey] at hk <;> cases k' <;> simp [Instr.sameNow] at h
  · rw [h]
  · obtain ⟨h1, h2⟩ := h; rw [h1, h2]
  · have := (MapKept.bytes_beq _ _).1 h; rw [this]
theorem findNow_at {d : TypeDesc} {kv : Value} (hk : MapKept.IsKey d kv) : ∀ (ents : List MapEntry) (i j : Nat) (u : Value), Instr.findNow d kv ents i = some (some (j, u)) → ∃ m e, j = i + m ∧ ents[m]? = some e ∧ e.key = kv := by
  intro ents
  induction ents with
  | nil => intro i j u h; simp [Instr.findNow] at h
  | cons e ents ih =>
    intro i j u h
    simp only [Instr.findNow] at h
    split at h
    · rename_i hs
      simp only [Option.some.injEq, Prod.mk.injEq] at h
      exact ⟨0, e, h.1.symm, rfl, sameNow_eq hk hs⟩
    · obtain ⟨m, e', h1, h2, h3⟩ := ih _ _ _ h
      exact ⟨m + 1, e', by omega, by simpa using h2, h3⟩
    · simp at h
theorem mput_run {P : Program} {t kt et : TypeId} {d : TypeDesc} {id : Nat} {k : AV} {kv vv : Value} (ht : P.underlying t = some (.map kt et)) (hd : P.underlying kt = some d) (hkb : keyB d k = true) (hk : Rv ρ A w n k kv)
    (ents : List MapEntry) (clock : Nat) (r : Option (Nat × Value)) (hb : w.heap[id]? = some (.map ents.toArray clock)) (hf : Instr.findNow d kv ents 0 = some r) :
    (Instr.mapUpdate t (.map (some id)) kv vv).run P w = .ok () (w.putObj id (mapPut ents clock kv vv r)) := by
  have hkey := isKey_of hkb hk
  have h1 := MapKept.run_checkKey (P := P) (w := w) hd hkey false 9999
  have h2 := MapKept.run_findKey (P := P) (w := w) hd hf
  cases r with
  | none =>
    simp only [Instr.mapUpdate, Sem.run_bind, run_underlying' ht, Result.andThen_ok, MapKept.run_getObj_map hb, h1, h2, MapKept.run_setObj_map _ hb, mapPut, World.putObj]
  | some p =>
    obtain ⟨i, u⟩ := p
    obtain ⟨m, e, h3, h4, h5⟩ := findNow_at hkey _ _ _ _ hf
    have hi : i = m := by omega
    have h6 : ((ents.toArray[i]?).map (·.key)).getD kv = kv := by rw [hi]; simp [h4, h5]
    simp only [Instr.mapUpdate, Sem.run_bind, run_underlying' ht, Result.andThen_ok, MapKept.run_getObj_map hb, h1, h2, h6, MapKept.run_keyThatStays hkey, MapKept.run_setObj_map _ hb, mapPut, World.putObj]
theorem mget_run {P : Program} {t kt et : TypeId} {d : TypeDesc} {id : Nat} {k : AV} {kv zv : Value} {ok : Bool} (ht : P.underlying t = some (.map kt et)) (hd : P.underlying kt = some d) (hkb : keyB d k = true) (hk : Rv ρ A w n k kv)
    (hz : ∀ w', (zeroValue et).run P w' = .ok zv w')
    (ents : List MapEntry) (clock : Nat) (r : Option (Nat × Value)) (hb : w.heap[id]? = some (.map ents.toArray clock)) (hf : Instr.findNow d kv ents 0 = some r) :
    (Instr.lookup t (.map (some id)) kv ok).run P w = .ok (mapGet ok zv r) w := by
  have hkey := isKey_of hkb hk
  have h1 := MapKept.run_checkKey (P := P) (w := w) hd hkey ents.toArray.isEmpty 9999
  have h2 := MapKept.run_findKey (P := P) (w := w) hd hf
  cases r with
  | none =>
    simp only [Instr.lookup, Sem.run_bind, run_underlying' ht, Result.andThen_ok, MapKept.run_getObj_map hb, Sem.run_pure, h1, h2, hz, mapGet]
  | some p =>
    obtain ⟨i, u⟩ := p
    simp only [Instr.lookup, Sem.run_bind, run_underlying' ht, Result.andThen_ok, MapKept.run_getObj_map hb, Sem.run_pure, h1, h2, mapGet]

theorem acts_v {s : Sem Value} {v : AV} {u : Value} (hs : s.run Γ.P w = .ok u w) (h : Rv ρ A w n v u) : Acts Γ.P ρ A w n (do pure (.value (← s))) (.val v) :=
  .val_same (by simp [hs]) h
theorem acts_ok1 {s : Sem Value} {x : Option AV} {c : Bool} {p : Plan} (h : ok1 x = some (c, p)) (hs : ∀ v, x = some v → ∃ u, s.run Γ.P w = .ok u w ∧ Rv ρ A w n v u) : Acts Γ.P ρ A w n (do pure (.value (← s))) p := by
  obtain ⟨v, hv, h2⟩ := Option.map_eq_some_iff.1 h
  simp only [Prod.mk.injEq] at h2
  obtain ⟨_, rfl⟩ := h2
  obtain ⟨u, hu, hr⟩ := hs v hv
  exact acts_v hu hr
theorem acts_ok2 {s : Sem Value} {x : Option (Bool × AV)} {c : Bool} {p : Plan} (h : ok2 x = some (c, p)) (hc : c = true) (hs : ∀ v, x = some (true, v) → ∃ u, s.run Γ.P w = .ok u w ∧ Rv ρ A w n v u) :
    Acts Γ.P ρ A w n (do pure (.value (← s))) p := by
  obtain ⟨v, hv, h2⟩ := Option.map_eq_some_iff.1 h
  simp only [Prod.mk.injEq] at h2
  obtain ⟨h3, rfl⟩ := h2
  obtain ⟨c', v⟩ := v
  simp only at h3
  subst h3 hc
  obtain ⟨u, hu, hr⟩ := hs v hv
  exact acts_v hu hr

theorem plan_acts (hΓ : Γ.Ok Inv) {tm : List AV} {a : Act} (ht : Rvs ρ A w n tm a.tmps.toList) (hA : ∀ b, A b → b < w.heap.size) {o : Oper} {c : Bool} {p : Plan}
    (h : plan Γ (opd tm) o.op = some (c, p)) (hc : c = true) : Acts Γ.P ρ A w n (execOp a.eval o) p := by
  have he := opd_rv ht
  obtain ⟨dst, op, ty, pos, after, guard⟩ := o
  simp only at h
  cases op <;> simp only [plan, reduceCtorEq] at h <;> simp only [execOp]
  case move y => simp only [Option.some.injEq, Prod.mk.injEq] at h; obtain ⟨_, rfl⟩ := h; exact .val_same rfl (he y)
  case assign y => simp only [Option.some.injEq, Prod.mk.injEq] at h; obtain ⟨_, rfl⟩ := h; exact .val_same rfl (he y)
  case pick y p q =>
    split at h
    · rename_i t hy
      simp only [Option.some.injEq, Prod.mk.injEq] at h; obtain ⟨_, rfl⟩ := h
      have hb := he y
      rw [hy] at hb
      have := hb.of_bool
      exact .val_same (by simp [this, asBool]) (pickA_rv (he p) (he q))
    · simp at h
  case alloc t =>
    obtain ⟨cs, hz, h2⟩ := Option.map_eq_some_iff.1 h
    simp only [Prod.mk.injEq] at h2; obtain ⟨_, rfl⟩ := h2
    obtain ⟨z, hzr, hzv⟩ := zeroA_run (ρ := ρ) (A := A) (w := w) (n := n) hz
    refine ⟨z.cells.toList, hzv, ?_⟩
    simp [Instr.alloc, hzr, newVar, newRow]
  case box t y =>
    split at h
    · rename_i hp
      simp only [Option.some.injEq, Prod.mk.injEq] at h; obtain ⟨_, rfl⟩ := h
      obtain ⟨h1, _⟩ := cellsOf_rv (he y) hp
      refine ⟨_, h1, ?_⟩
      simp [Instr.box, newVar, newRow]
    · simp at h
  case build t ps => exact acts_ok1 h fun v hv => buildA_run hv (parts_rel ht ps) w
  case buildSlice t len ps =>
    obtain ⟨v, hv, h2⟩ := Option.map_eq_some_iff.1 h
    simp only [Prod.mk.injEq] at h2; obtain ⟨_, rfl⟩ := h2
    obtain ⟨u, w', hr, hb, hrv⟩ := buildSliceA_run hv hA (parts_rel ht ps)
    exact ⟨u, w', by simp only [Sem.run_bind, hr, Result.andThen_ok, Sem.run_pure], hb, hrv⟩
  case load t y =>
    split at h
    · rename_i id off hy
      have hp := he y
      rw [hy] at hp
      obtain ⟨hp, hid⟩ := hp.of_ptr
      split at h
      · rename_i k hg hk
        simp only [Option.some.injEq, Prod.mk.injEq] at h; obtain ⟨_, rfl⟩ := h
        refine ⟨hid, by simp, fun us hl hcell => ?_⟩
        have := run_loadVar (P := Γ.P) (us := us) hg (by rw [hl]; exact hk) (by simp) hcell
        simp [hp, Instr.loadAt, Instr.sureAddr, this]
      · rename_i hg hk
        simp only [Option.some.injEq, Prod.mk.injEq] at h; obtain ⟨_, rfl⟩ := h
        refine ⟨hid, by simp, fun us hl hcell => ?_⟩
        have := run_loadVar (P := Γ.P) (us := us) hg (by rw [hl]; exact hk) (fun _ => hl) hcell
        simp only [Bool.false_eq_true, if_false] at this
        simp [hp, Instr.loadAt, Instr.sureAddr, this]
      · simp at h
    · rename_i cells hy
      have hp := he y
      rw [hy] at hp
      exact acts_ok1 h fun v hv => loadI_run hv hp
    · simp at h
  case store t y z =>
    split at h
    · rename_i id off k hy hk
      have hp := he y
      rw [hy] at hp
      obtain ⟨hp, hid⟩ := hp.of_ptr
      split at h
      · rename_i hcond
        simp only [Bool.and_eq_true, decide_eq_true_eq] at hcond
        obtain ⟨hlen, hpl⟩ := hcond
        simp only [Option.some.injEq, Prod.mk.injEq] at h; obtain ⟨_, rfl⟩ := h
        obtain ⟨h1, h2⟩ := cellsOf_rv (he z) hpl
        refine ⟨hid, _, h1, fun bs bt hb hle => ?_⟩
        have hs : (a.eval z).cells.size = k := by rw [← hlen, h1.1]; simp
        obtain ⟨w', hr, hput⟩ := run_storeCells (P := Γ.P) (a.eval z).cells.toList w off 0 bs hb (by simpa using hle) h2
        refine ⟨w', ?_, by simpa using hput⟩
        simp only [hp, Instr.storeAt, Instr.sureAddr, Sem.run_bind, Sem.run_pure, Result.andThen_ok, storeVar, run_sizeOf hk]
        rw [if_neg (by simp [hs])]
        simp only [hr, Result.andThen_ok]
      · simp at h
    · simp at h
  case binOp op t y z t2 => exact acts_ok2 h hc fun v hv => binN_run hv rfl (he y) (he z) (fun q hq => by subst hq; rfl) y w
  case unOp op t y => exact acts_ok1 h fun v hv => unA_run hv (he y) w
  case convert s d y => exact acts_ok2 h hc fun v hv => convA_run hv (he y)
  case slice t y lo hi mx =>
    cases mx with
    | some _ => simp at h
    | none =>
      refine acts_ok2 h hc fun v hv => sliceA_run hv (he y) ?_ ?_ ?_ ?_
      · intro x hx
        cases lo with
        | none => simp at hx
        | some z => simp only [Option.map_some, Option.some.injEq] at hx; subst hx; exact ⟨_, rfl, he z⟩
      · intro hx
        cases lo with
        | none => rfl
        | some z => simp at hx
      · intro x hx
        cases hi with
        | none => simp at hx
        | some z => simp only [Option.map_some, Option.some.injEq] at hx; subst hx; exact ⟨_, rfl, he z⟩
      · intro hx
        cases hi with
        | none => rfl
        | some z => simp at hx
  case makeInterface t y => exact acts_ok1 h fun v hv => ifaceA_run hv (he y) w
  case makeFunc f first cap =>
    split at h
    · rename_i hf
      simp only [Option.some.injEq, Prod.mk.injEq] at h; obtain ⟨_, rfl⟩ := h
      have h0 : first = #[] := by simpa using hf
      subst h0
      have := args_rel ht cap.toList
      refine .val_same (u := .func f #[] (cap.map a.eval)) (by simp [Instr.makeFunc]) ?_
      have e : cap.map a.eval = (cap.toList.map a.eval).toArray := by apply Array.ext'; simp
      rw [e]
      exact .fn this.1 this.2
    · simp at h
  case fieldAddr s y f => exact acts_ok1 h fun v hv => fieldAddrA_run hv (he y) w
  case field s y f => exact acts_ok1 h fun v hv => fieldA_run hv (he y) w
  case indexAddr t y i => exact acts_ok2 h hc fun v hv => indexAddrA_run hv rfl (he y) (he i) w
  case index t y i => exact acts_ok2 h hc fun v hv => indexA_run hv rfl (he y) (he i) w
  case nilCheck y =>
    split at h
    · rename_i id off hy
      simp only [Option.some.injEq, Prod.mk.injEq] at h
      obtain ⟨_, rfl⟩ := h
      have hp := he y
      rw [hy] at hp
      obtain ⟨hv, hid⟩ := hp.of_ptr
      refine .val_same ?_ (hv ▸ hp)
      simp [hv]
    · simp at h
  case extract y i =>
    split at h
    · rename_i cs hy
      have hp := he y
      rw [hy] at hp
      obtain ⟨vs, hv, hvs⟩ := hp.of_tup
      refine acts_ok1 h fun v hv' => ?_
      obtain ⟨u, hu, hr⟩ := hvs.get hv'
      exact ⟨u, by simp [hv, Instr.extract, hu], hr⟩
    · simp at h
  case call cl =>
    obtain ⟨callee, args, argTypes⟩ := cl
    simp only at h
    split at h
    · rename_i f
      have := callA_acts hΓ (p := p) (by rw [h, hc]) (he f) (args_rel ht args.toList)
      have e : args.map a.eval = (args.toList.map a.eval).toArray := by apply Array.ext'; simp
      simp only [resolve, e]
      exact this
    · split at h
      · rename_i y t hy ht0
        refine ?_
        have e : args = #[y] := by
          apply Array.ext'
          simpa using hy
        subst e
        obtain ⟨v, hv, h2⟩ := Option.map_eq_some_iff.1 h
        simp only [Prod.mk.injEq] at h2; obtain ⟨_, rfl⟩ := h2
        obtain ⟨u, hu, hr⟩ := lenA_run hv (he y) argTypes ht0 ty w
        exact .val_same (by simp [resolve, invoke, builtin, hu]) hr
      · simp at h
    · obtain ⟨v, hv, h2⟩ := Option.map_eq_some_iff.1 h
      simp only [Prod.mk.injEq] at h2; obtain ⟨_, rfl⟩ := h2
      have hr := args_rel ht args.toList
      generalize args.toList.map (opd tm) = l at hv hr
      unfold minA at hv
      split at hv
      · rename_i k x k' y
        split at hv
        · rename_i hk
          subst hk
          simp only [Option.some.injEq] at hv
          subst hv
          obtain ⟨v1, r1, e1, h1, hr⟩ := hr.cons_inv
          obtain ⟨v2, r2, rfl, h2, hr⟩ := hr.cons_inv
          cases hr.nil_inv
          cases h1.of_int; cases h2.of_int
          have e : (args.map a.eval).toList = [.int k x, .int k y] := by simpa using e1
          refine .val_same (u := .int k (bif decide (y < x) then y else x)) ?_ .int
          simp only [resolve, invoke, builtin, Sem.run_bind, Sem.run_pure, Result.andThen_ok, Builtin.min_, e]
          simp [Builtin.min2, cond_eq_ite]
        · simp at hv
      · simp at hv
    · obtain ⟨v, hv, h2⟩ := Option.map_eq_some_iff.1 h
      simp only [Prod.mk.injEq] at h2; obtain ⟨_, rfl⟩ := h2
      have hr := args_rel ht args.toList
      generalize args.toList.map (opd tm) = l at hv hr
      unfold maxA at hv
      split at hv
      · rename_i k x k' y
        split at hv
        · rename_i hk
          subst hk
          simp only [Option.some.injEq] at hv
          subst hv
          obtain ⟨v1, r1, e1, h1, hr⟩ := hr.cons_inv
          obtain ⟨v2, r2, rfl, h2, hr⟩ := hr.cons_inv
          cases hr.nil_inv
          cases h1.of_int; cases h2.of_int
          have e : (args.map a.eval).toList = [.int k x, .int k y] := by simpa using e1
          refine .val_same (u := .int k (bif decide (y > x) then y else x)) ?_ .int
          simp only [resolve, invoke, builtin, Sem.run_bind, Sem.run_pure, Result.andThen_ok, Builtin.max_, e]
          simp [Builtin.max2, cond_eq_ite]
        · simp at hv
      · simp at hv
    · simp at h
  case makeMap t r =>
    split at h
    · simp only [Option.some.injEq, Prod.mk.injEq] at h; obtain ⟨_, rfl⟩ := h
      show (do let v ← Instr.makeMap t none; pure (Next.value v) : Sem Next).run Γ.P w = _
      simp [Instr.makeMap]
    · simp at h
  case insert t m k v =>
    split at h
    · rename_i id kt et hm ht0
      split at h
      · rename_i d hd
        split at h
        · rename_i hk
          simp only [Option.some.injEq, Prod.mk.injEq] at h; obtain ⟨_, rfl⟩ := h
          have hp := he m
          rw [hm] at hp
          obtain ⟨hp, hid⟩ := hp.of_map
          refine ⟨hid, d, _, _, hk, he k, he v, fun ents clock r hb hf => ?_⟩
          simp only [hp, Sem.run_bind, mput_run ht0 hd hk (he k) ents clock r hb hf, Result.andThen_ok, Sem.run_pure]
        · simp at h
      · simp at h
    · simp at h
  case mapUpdate t m k v =>
    split at h
    · rename_i id kt et hm ht0
      split at h
      · rename_i d hd
        split at h
        · rename_i hk
          simp only [Option.some.injEq, Prod.mk.injEq] at h; obtain ⟨_, rfl⟩ := h
          have hp := he m
          rw [hm] at hp
          obtain ⟨hp, hid⟩ := hp.of_map
          refine ⟨hid, d, _, _, hk, he k, he v, fun ents clock r hb hf => ?_⟩
          simp only [hp, Sem.run_bind, mput_run ht0 hd hk (he k) ents clock r hb hf, Result.andThen_ok, Sem.run_pure]
        · simp at h
      · simp at h
    · simp at h
  case lookup t m k ok =>
    split at h
    · rename_i id kt et hm ht0
      split at h
      · rename_i d z hd hz
        split at h
        · rename_i hk
          simp only [Option.some.injEq, Prod.mk.injEq] at h; obtain ⟨_, rfl⟩ := h
          have hp := he m
          rw [hm] at hp
          obtain ⟨hp, hid⟩ := hp.of_map
          obtain ⟨zv, hzr, hzv⟩ := zeroV_run (ρ := ρ) (A := A) (w := w) (n := n) hz
          refine ⟨hid, d, _, zv, hk, he k, hzv, fun ents clock r hb hf => ?_⟩
          simp only [hp, Sem.run_bind, mget_run ht0 hd hk (he k) hzr ents clock r hb hf, Result.andThen_ok, Sem.run_pure]
        · simp at h
      · simp at h
    · simp at h
  case panic y =>
    split at h
    · rename_i t v hy
      simp only [Option.some.injEq, Prod.mk.injEq] at h; obtain ⟨_, rfl⟩ := h
      have hp := he y
      rw [hy] at hp
      generalize a.eval y = u at hp
      cases hp with
      | @iface _ _ _ u' hv => exact ⟨t, u', by simp only [Instr.panic, Sem.run_bind, run_goPanic, Result.andThen_halt]⟩
    · simp at h
end
end Go.Evl

/- States, regions in the order of the text, code and its run by the evaluator. No condition. -/
namespace Go.Evl
open Go.RowKit

inductive Ex where
  | normal
  | exit (id : Nat)
  | ret
  | pan
  deriving Inhabited

structure St where
  tm : List AV
  hp : List Ob
  deriving Inhabited

def putA (tm : List AV) (dst : Option Tmp) (v : AV) : List AV :=
  match dst with
  | some d => tm.set d v
  | none => tm

/-- does a guarded operation run? -/
def wantA (ops : Array Oper) (tm : List AV) (o : Oper) : Option Bool :=
  match o.guard with
  | none => some true
  | some (j, want) =>
    match (ops[j]?).bind (·.dst) with
    | none => some false
    | some d => match getT tm d with
      | .bool b => some (b == want)
      | .raw (.tuple _) => some false
      | _ => none

def newOb (fresh : Nat) (H : List Ob) (o : Ob) (v : AV) : Option (AV × List Ob) :=
  if Nat.beq fresh H.length then some (v, H ++ [o]) else match H[fresh]? with
    | some .free => some (v, H.set fresh o)
    | _ => none
def mgetV (z : AV) (ok : Bool) : Option AV → AV
  | none => if ok then .tup [z, .bool false] else z
  | some v => if ok then .tup [v, .bool true] else v
/-- what a contract leaves in the object through which its function writes -/
def updEnd (H : List Ob) (id : Nat) (cs : List AV) (t : TypeId) : Res → Option (AV × List Ob)
  | .ret (.tup (v :: cs')) => if Nat.beq cs'.length cs.length && (scalB v && cs'.all scal1) then some (v, H.set id (.cells cs' t)) else none
  | _ => none
theorem updEnd_some {H H' : List Ob} {id : Nat} {cs : List AV} {t : TypeId} {r : Res} {v : AV} (h : updEnd H id cs t r = some (v, H')) :
    ∃ cs', r = .ret (.tup (v :: cs')) ∧ cs'.length = cs.length ∧ scalB v = true ∧ cs'.all scal1 = true ∧ H' = H.set id (.cells cs' t) := by
  unfold updEnd at h
  split at h
  · rename_i v' cs'
    split at h
    · rename_i hb
      simp only [Bool.and_eq_true, Nat.beq_eq] at hb
      simp only [Option.some.injEq, Prod.mk.injEq] at h
      obtain ⟨rfl, rfl⟩ := h
      exact ⟨cs', rfl, hb.1, hb.2.1, hb.2.2, rfl⟩
    · simp at h
  · simp at h
def doPlan (fresh : Nat) (H : List Ob) : Plan → Option (AV × List Ob)
  | .val v => some (v, H)
  | .load id off m ag => match H[id]? with
    | some (.cells cs _) => if Nat.ble (off + m) cs.length then (if ag then some (.agg ((cs.drop off).take m), H) else (cs[off]?).map fun v => (v, H)) else none
    | _ => none
  | .new cs t => newOb fresh H (.cells cs t) (.ptr fresh 0)
  | .store id off cs => match H[id]? with
    | some (.cells bs t) => if Nat.ble (off + cs.length) bs.length then some (.raw undef, H.set id (.cells (seg bs off cs) t)) else none
    | _ => none
  | .spc _ _ (.ret v) => some (v, H)
  | .newMap => newOb fresh H (.map []) (.map fresh)
  | .mput id k v => match H[id]? with
    | some (.map es) => (putT k v es).run.map fun es' => (.raw undef, H.set id (.map es'))
    | _ => none
  | .mget id k z ok => match H[id]? with
    | some (.map es) => (findT k es).run.map fun r => (mgetV z ok r, H)
    | _ => none
  | .upd _ args id s => match H[id]? with
    | some (.cells cs t) => if bnds 0 cs then (s (args ++ .ptr t 0 :: cs)).run.bind (updEnd H id cs t) else none
    | _ => none
  | _ => none
/-- the same, as a tree: of a map's keys -/
def doPlanT (fresh : Nat) (H : List Ob) (p : Plan) : Tr (AV × List Ob) :=
  match p with
  | .mput id k v => match H[id]? with
    | some (.map es) => (putT k v es).fold fun es' => .leaf (.raw undef, H.set id (.map es'))
    | _ => .non
  | .mget id k z ok => match H[id]? with
    | some (.map es) => (findT k es).fold fun r => .leaf (mgetV z ok r, H)
    | _ => .non
  | .upd _ args id s => match H[id]? with
    | some (.cells cs t) => .chk (bnds 0 cs) ((s (args ++ .ptr t 0 :: cs)).fold fun r => .ofOpt (updEnd H id cs t r))
    | _ => .non
  | p => match doPlan fresh H p with
    | some q => .leaf q
    | none => .non
theorem doPlanT_run (fresh : Nat) (H : List Ob) (p : Plan) : (doPlanT fresh H p).run = doPlan fresh H p := by
  unfold doPlanT
  split
  · simp only [doPlan]
    split
    · simp only [Tr.fold_eq, Tr.run]
      cases (putT _ _ _).run <;> rfl
    · rfl
  · simp only [doPlan]
    split
    · simp only [Tr.fold_eq, Tr.run]
      cases (findT _ _).run <;> rfl
    · rfl
  · simp only [doPlan]
    split
    · rename_i cs t _
      simp only [Tr.run]
      cases bnds 0 cs with
      | false => rfl
      | true =>
        simp only [cond_true, if_true, Tr.fold_eq]
        cases (Tr.run _) with
        | none => rfl
        | some r => simp only [Option.bind_some]; cases updEnd H _ cs t r <;> rfl
    · rfl
  · split
    · rename_i h; rw [h]; rfl
    · rename_i h; rw [h]; rfl

structure CallF where
  fn : FuncId → List AV → List Ob → Option (Res × List Ob)
  rnd : Nat → List AV → List Ob → Option (Res × List Ob)
instance : CoeFun CallF (fun _ => FuncId → List AV → List Ob → Option (Res × List Ob)) := ⟨CallF.fn⟩

/-- one operation: true and the state behind it, or false: its panic -/
def stepA (Γ : Cx) (cf : CallF) (ops : Array Oper) (i : Nat) (st : St) : Option (Bool × St) :=
  match ops[i]? with
  | none => none
  | some o =>
    match wantA ops st.tm o with
    | none => none
    | some g =>
      bif g then
        match plan Γ (opd st.tm) o.op with
        | none => none
        | some (c, p) =>
          bif c then
            match p with
            | .pan => some (false, st)
            | .spc _ _ .pan => some (false, st)
            | .call f args => match cf f args st.hp with
              | none => none
              | some (.ret v, H) => some (true, ⟨putA st.tm o.dst v, H⟩)
              | some (.pan, H) => some (false, ⟨st.tm, H⟩)
            | .round id args => match cf.rnd id args st.hp with
              | some (.ret v, H) => some (true, ⟨putA st.tm o.dst v, H⟩)
              | _ => none
            | p => match doPlan st.hp.length st.hp p with
              | none => none
              | some (v, H) => some (true, ⟨putA st.tm o.dst v, H⟩)
          else none
      else some (true, ⟨putA st.tm o.dst (.raw undef), st.hp⟩)

def runIdx (Γ : Cx) (cf : CallF) (ops : Array Oper) : List Nat → St → Option (Ex × St)
  | [], st => some (.normal, st)
  | i :: rest, st =>
    match stepA Γ cf ops i st with
    | some (true, st') => runIdx Γ cf ops rest st'
    | some (false, st') => some (.pan, st')
    | none => none

inductive LK where
  | sum (keep : List Nat) (f : List AV → List Ob → Option (Ex × List AV × List Ob))
  | unroll (k : Nat)
  | forget (keep : List Nat)

def iterN (g : St → Option (Ex × St)) : Nat → St → Option (Ex × St)
  | 0, _ => none
  | k + 1, st =>
    match g st with
    | some (.normal, st') => iterN g k st'
    | r => r

def setAll : List AV → List Nat → List AV → List AV
  | tm, i :: is, v :: vs => setAll (tm.set i v) is vs
  | tm, _, _ => tm
def mkF (nt : Nat) (keep : List Nat) (vs : List AV) : List AV := setAll (List.replicate nt .junk) keep vs

/-- before a region: all slots but some forgotten -/
def forgetSt (l : LK) (st : St) : St :=
  match l with
  | .forget keep => ⟨mkF st.tm.length keep (keep.map (getT st.tm)), st.hp⟩
  | _ => st

def inBlk (id : Nat) : Option (Ex × St) → Option (Ex × St)
  | some (.exit i, st) => if i = id then some (.normal, st) else some (.exit i, st)
  | r => r

/-- a region's run where its order is drawn: given by a parameter -/
abbrev DrawF := Array Oper → St → Option (Ex × St)

/-- in a round of a range over a function? -/
def inRnd (lp : Nat → LK) : Bool := match lp 500000 with
  | .forget _ => true
  | _ => false
/-- behind the function that is ranged over -/
def rfEnd (m : Nat) (tm : List AV) (H : List Ob) : Option (Ex × St) :=
  match H[m + 1]? with
  | some (.loop t ps asg body blk .ready) => some (.normal, ⟨tm, H.set (m + 1) (.loop t ps asg body blk (.over none))⟩)
  | some (.loop t ps asg body blk (.done .ret)) => some (.ret, ⟨tm, H.set (m + 1) (.loop t ps asg body blk (.over (some .ret)))⟩)
  | some (.loop t ps asg body blk (.done (.exit i))) => some (.exit i, ⟨tm, H.set (m + 1) (.loop t ps asg body blk (.over (some (.exit i))))⟩)
  | _ => none

def runC (Γ : Cx) (cf : CallF) (df : DrawF) (lp : Nat → LK) : Code → St → Option (Ex × St)
  | .skip, st => some (.normal, st)
  | .region id ops draw, st => if draw then df ops (forgetSt (lp (1000000 + id)) st) else runIdx Γ cf ops (List.range ops.size) (forgetSt (lp (1000000 + id)) st)
  | .seq a b, st =>
    match runC Γ cf df lp a st with
    | some (.normal, st') => runC Γ cf df lp b st'
    | r => r
  | .cond c a b, st =>
    match opd st.tm c with
    | .bool t => bif t then runC Γ cf df lp a st else runC Γ cf df lp b st
    | _ => none
  | .block id (.loop body), st =>
    match lp id with
    | .unroll k => inBlk id (iterN (runC Γ cf df lp body) k st)
    | .forget _ => none
    | .sum keep f =>
      match f (keep.map (getT st.tm)) st.hp with
      | some (e, vs, H) => inBlk id (some (e, ⟨mkF st.tm.length keep vs, H⟩))
      | none => none
  | .block id c, st => inBlk id (runC Γ cf df lp c st)
  | .exit id, st => some (.exit id, st)
  | .ret, st => some (.ret, st)
  | .rangeFunc g ps asg body, st =>
    bif inRnd lp then none else
    match opd st.tm g with
    | .fn (.func gf) cs => bif Γ.inl gf then
        match cf gf (.yld (st.hp.length + 1) :: cs) (st.hp ++ [.dfr, .loop st.tm ps asg body st.hp.length .ready]) with
        | some (.ret _, H) => rfEnd st.hp.length st.tm H
        | _ => none
      else none
    | _ => none
  | _, _ => none

def resultA (P : Program) (st : St) : ResultVar → Option AV
  | .tmp t => some (getT st.tm t)
  | .cell a t => match getT st.tm a with
    | .ptr id off => match isAgg? P t, size? P t with
      | some true, some k => (doPlan 0 st.hp (.load id off k true)).map (·.1)
      | some false, some 1 => (doPlan 0 st.hp (.load id off 1 false)).map (·.1)
      | _, _ => none
    | _ => none
def resultsA (P : Program) (st : St) : List ResultVar → Option (List AV)
  | [] => some []
  | r :: rs => match resultA P st r, resultsA P st rs with
    | some v, some vs => some (v :: vs)
    | _, _ => none
def packA : List AV → AV
  | [v] => v
  | vs => .tup vs
def frame0 (fn : Func) (args : List AV) : List AV := args ++ List.replicate (fn.ntmps - args.length) (.raw undef)
def isDfr : Ob → Bool
  | .dfr => true
  | _ => false
def noDfr (m : Nat) (H : List Ob) : Bool := (H.drop m).all fun o => !isDfr o
/-- the marks of a function's own loops go as it leaves -/
def freeD (m : Nat) (H : List Ob) : List Ob := bif noDfr m H then H else H.take m ++ (H.drop m).map fun o => bif isDfr o then .dfx else o
/-- what a body's end gives; m: as many objects as it was entered with -/
def leaveA (P : Program) (fn : Func) (m : Nat) : Option (Ex × St) → Option (Res × List Ob)
  | some (.ret, st) => (resultsA P ⟨st.tm, freeD m st.hp⟩ fn.results.toList).map fun vs => (.ret (packA vs), freeD m st.hp)
  | some (.normal, st) => (resultsA P ⟨st.tm, freeD m st.hp⟩ fn.results.toList).map fun vs => (.ret (packA vs), freeD m st.hp)
  | some (.pan, st) => some (.pan, freeD m st.hp)
  | _ => none
def runFn (Γ : Cx) (cf : CallF) (df : DrawF) (lp : Nat → LK) (fn : Func) (args : List AV) (H : List Ob) : Option (Res × List Ob) :=
  match fn.body with
  | some c => leaveA Γ.P fn H.length (runC Γ cf df lp c ⟨frame0 fn args, H⟩)
  | none => none
end Go.Evl

/- Memory: what a value, a new object, a store and a contract leave. No condition. -/
namespace Go.Evl
open Go.RowKit

/-- the memory of a run that began in w0 -/
structure Mem (w0 : World) (ρ : Nat → Nat) (A : Nat → Prop) (w : World) (H : List Ob) : Prop where
  hp : HRel ρ A w w0.heap.size H
  bel : Below w0.heap.size w0 w
  lt : ∀ b, A b → b < w.heap.size

section
variable {w0 : World} {ρ : Nat → Nat} {A : Nat → Prop} {w : World} {H : List Ob}

theorem lt_of_heap {w : World} {b : Nat} {o : Obj} (h : w.heap[b]? = some o) : b < w.heap.size := by
  rcases Nat.lt_or_ge b w.heap.size with h' | h'
  · exact h'
  · simp [Array.getElem?_eq_none h'] at h

/-- objects read on where nothing of theirs has turned -/
theorem HRel.later {base : Nat} (h : HRel ρ A w base H) {A' : Nat → Prop} {w' : World} (hi : ∀ b, A b → A' b) (hn : ∀ b, b < w.heap.size → A' b → A b) (hw : ∀ b, b < w.heap.size → w'.heap[b]? = w.heap[b]?)
    (hlt : ∀ b, A b → b < w.heap.size) : HRel ρ A' w' base H := by
  refine ⟨fun id o ho hl => ?_, h.inj⟩
  obtain ⟨h1, h2, x, h3, h4⟩ := h.obj id o ho hl
  have hb := lt_of_heap h3
  exact ⟨h1, fun hA => h2 (hn _ hb hA), x, by rw [hw _ hb, h3], h4.mono (fun _ h => h) (fun _ _ => rfl) hi (fun b hA => hw b (hlt b hA))⟩

theorem Mem.grow (h : Mem w0 ρ A w H) {w' : World} (hb : Below w.heap.size w w') : Mem w0 ρ (Grow A w w') w' H ∧ Ext (Live H) ρ A w (Live H) ρ (Grow A w w') w' := by
  refine ⟨⟨h.hp.later (fun _ h => .inl h) (fun b hlt hA => ?_) hb.block h.lt, h.bel.trans (hb.mono h.bel.size), fun b hA => ?_⟩, fun _ h => h, fun _ _ => rfl, fun _ h => .inl h, fun b hA => hb.block b (h.lt b hA), fun b hA => hA.imp id (·.1), hb.size⟩
  · rcases hA with hA | hA
    · exact hA
    · omega
  · rcases hA with hA | hA
    · exact Nat.lt_of_lt_of_le (h.lt b hA) hb.size
    · exact hA.2
theorem Mem.drew (h : Mem w0 ρ A w H) : Mem w0 ρ A w.drew H :=
  ⟨h.hp.later (fun _ h => h) (fun _ _ h => h) (fun _ _ => rfl) h.lt, h.bel.drew, h.lt⟩

/-- a new object at an id that is free -/
theorem Mem.new (h : Mem w0 ρ A w H) {o : Ob} {x : Obj} (_ho : o.live = true) (hv : ObjR ρ A w (Live H) o x) {fresh : Nat} {H' : List Ob}
    (hf : ¬ Live H fresh) (hnew : H'[fresh]? = some o) (hold : ∀ i, i ≠ fresh → H'[i]? = H[i]?) :
    Mem w0 (fun i => if i = fresh then w.heap.size else ρ i) A (w.alloc x) H' ∧
    Ext (Live H) ρ A w (Live H') (fun i => if i = fresh then w.heap.size else ρ i) A (w.alloc x) := by
  have hne : ∀ id, Live H id → id ≠ fresh := fun id hl e => hf (e ▸ hl)
  have hlive : ∀ id, Live H id → Live H' id := fun id ⟨o, ho, hl⟩ => ⟨o, by rw [hold id (hne id ⟨o, ho, hl⟩)]; exact ho, hl⟩
  have hback : ∀ id, id ≠ fresh → Live H' id → Live H id := fun id hn ⟨o, ho, hl⟩ => ⟨o, by rw [← hold id hn]; exact ho, hl⟩
  have hkeep : ∀ b, A b → (w.alloc x).heap[b]? = w.heap[b]? := fun b hA => Below.heap_alloc _ _ _ (h.lt b hA)
  have hext : Ext (Live H) ρ A w (Live H') (fun i => if i = fresh then w.heap.size else ρ i) A (w.alloc x) :=
    ⟨hlive, fun id hl => by simp [hne id hl], fun _ h => h, hkeep, fun _ h => .inl h, by simp⟩
  have hblk : ∀ id, Live H id → ρ id < w.heap.size := by
    intro id ⟨o, ho, hl⟩
    obtain ⟨_, _, x, h3, _⟩ := h.hp.obj id o ho hl
    exact lt_of_heap h3
  refine ⟨⟨⟨fun id o' ho' hl' => ?_, fun i j hi hj e => ?_⟩, h.bel.alloc h.bel.size _, fun b hA => by have := h.lt b hA; simp; omega⟩, hext⟩
  · by_cases hid : id = fresh
    · subst hid
      rw [hnew] at ho'
      cases ho'
      simp only [if_true]
      refine ⟨h.bel.size, fun hA => Nat.lt_irrefl _ (h.lt _ hA), x, ?_, hv.mono hext.ids hext.nam hext.imm hext.keep⟩
      show (w.heap.push _)[w.heap.size]? = _
      simp
    · simp only [hid, if_false]
      rw [hold id hid] at ho'
      obtain ⟨h1, h2, y, h3, h4⟩ := h.hp.obj id o' ho' hl'
      exact ⟨h1, h2, y, by rw [Below.heap_alloc _ _ _ (lt_of_heap h3), h3], h4.mono hext.ids hext.nam hext.imm hext.keep⟩
  · by_cases hi' : i = fresh
    · by_cases hj' : j = fresh
      · rw [hi', hj']
      · simp only [hi', hj', if_true, if_false] at e
        have := hblk j (hback j hj' hj)
        omega
    · by_cases hj' : j = fresh
      · simp only [hi', hj', if_true, if_false] at e
        have := hblk i (hback i hi' hi)
        omega
      · simp only [hi', hj', if_false] at e
        exact h.hp.inj i j (hback i hi' hi) (hback j hj' hj) e

/-- w' is w but for block b -/
structure PutO (w w' : World) (b : Nat) (x : Obj) : Prop where
  os : w'.os = w.os
  tape : w'.tape = w.tape
  output : w'.output = w.output
  size : w'.heap.size = w.heap.size
  here : w'.heap[b]? = some x
  other : ∀ k, k ≠ b → w'.heap[k]? = w.heap[k]?
theorem PutB.putO {w' : World} {b : Nat} {vs : List Value} {t : TypeId} (h : PutB w w' b vs t) : PutO w w' b (.cells vs.toArray t (0, 0)) := ⟨h.os, h.tape, h.output, h.size, h.here, h.other⟩
theorem putO_of {b : Nat} {y x : Obj} (h : w.heap[b]? = some y) : PutO w (w.putObj b x) b x :=
  ⟨rfl, rfl, rfl, by simp, World.putObj_heap_same (lt_of_heap h), fun _ hk => World.putObj_heap_other hk⟩

theorem get_set_eq {id : Nat} {o o' : Ob} (ho : H[id]? = some o) (i : Nat) : (H.set id o')[i]? = if i = id then some o' else H[i]? := by
  have hlen : id < H.length := (List.getElem?_eq_some_iff.1 ho).1
  rw [List.getElem?_set]
  by_cases e : i = id
  · subst e; simp [hlen]
  · have e' : ¬ id = i := fun x => e x.symm
    simp [e, e']
theorem live_set {id : Nat} {o o' : Ob} (ho : H[id]? = some o) (hl : o.live = true) (hl' : o'.live = true) (i : Nat) : Live (H.set id o') i ↔ Live H i := by
  unfold Live
  rw [get_set_eq ho]
  by_cases e : i = id
  · subst e; simp [ho, hl, hl']
  · simp [e]
/-- an object turned -/
theorem Mem.upd (h : Mem w0 ρ A w H) {id : Nat} {o o' : Ob} {x' : Obj} {w' : World} (ho : H[id]? = some o) (hl : o.live = true) (hl' : o'.live = true) (hp : PutO w w' (ρ id) x') (hv : ObjR ρ A w (Live H) o' x') :
    Mem w0 ρ A w' (H.set id o') ∧ Ext (Live H) ρ A w (Live (H.set id o')) ρ A w' := by
  obtain ⟨h1, h2, x, h3, h4⟩ := h.hp.obj id _ ho hl
  have hlive := live_set ho hl hl'
  have hext : Ext (Live H) ρ A w (Live (H.set id o')) ρ A w' :=
    ⟨fun i hi => (hlive i).2 hi, fun _ _ => rfl, fun _ h => h, fun b hA => hp.other b (fun e => h2 (e ▸ hA)), fun _ h => .inl h, by rw [hp.size]; exact Nat.le_refl _⟩
  refine ⟨⟨⟨fun i o2 hi hl2 => ?_, fun i j hi hj => h.hp.inj i j ((hlive i).1 hi) ((hlive j).1 hj)⟩, ?_, fun b hA => by rw [hp.size]; exact h.lt b hA⟩, hext⟩
  · rw [get_set_eq ho] at hi
    by_cases e : i = id
    · subst e
      simp only [if_true, Option.some.injEq] at hi
      subst hi
      exact ⟨h1, h2, x', hp.here, hv.mono hext.ids hext.nam hext.imm hext.keep⟩
    · rw [if_neg e] at hi
      obtain ⟨k1, k2, y, k3, k4⟩ := h.hp.obj i o2 hi hl2
      have hne : ρ i ≠ ρ id := fun z => e (h.hp.inj i id ⟨_, hi, hl2⟩ ⟨_, ho, hl⟩ z)
      exact ⟨k1, k2, y, by rw [hp.other _ hne]; exact k3, k4.mono hext.ids hext.nam hext.imm hext.keep⟩
  · refine h.bel.trans ⟨hp.os, hp.tape, hp.output, by rw [hp.size]; exact Nat.le_refl _, fun k hk => hp.other k (fun e => by omega)⟩
/-- an object turned by a call, which may leave new objects -/
theorem Mem.updG (h : Mem w0 ρ A w H) {id : Nat} {cs cs' : List AV} {t : TypeId} {us' : List Value} {w' : World} (ho : H[id]? = some (.cells cs t)) (hbel : Below w0.heap.size w0 w') (hsz : w.heap.size ≤ w'.heap.size)
    (hoth : ∀ k, k < w.heap.size → k ≠ ρ id → w'.heap[k]? = w.heap[k]?) (hh : w'.heap[ρ id]? = some (.cells us'.toArray t (0, 0))) (hv : ∀ ρ A w n, Rvs ρ A w n cs' us') :
    Mem w0 ρ A w' (H.set id (.cells cs' t)) ∧ Ext (Live H) ρ A w (Live (H.set id (.cells cs' t))) ρ A w' := by
  obtain ⟨h1, h2, x, h3, h4⟩ := h.hp.obj id _ ho rfl
  have hlive := live_set (o' := .cells cs' t) ho rfl rfl
  have hext : Ext (Live H) ρ A w (Live (H.set id (.cells cs' t))) ρ A w' :=
    ⟨fun i hi => (hlive i).2 hi, fun _ _ => rfl, fun _ h => h, fun b hA => hoth b (h.lt b hA) (fun e => h2 (e ▸ hA)), fun _ h => .inl h, hsz⟩
  refine ⟨⟨⟨fun i o2 hi hl2 => ?_, fun i j hi hj => h.hp.inj i j ((hlive i).1 hi) ((hlive j).1 hj)⟩, hbel, fun b hA => Nat.lt_of_lt_of_le (h.lt b hA) hsz⟩, hext⟩
  rw [get_set_eq ho] at hi
  by_cases e : i = id
  · subst e
    simp only [if_true, Option.some.injEq] at hi
    subst hi
    exact ⟨h1, h2, _, hh, us', rfl, hv _ _ _ _⟩
  · rw [if_neg e] at hi
    obtain ⟨k1, k2, y, k3, k4⟩ := h.hp.obj i o2 hi hl2
    have hne : ρ i ≠ ρ id := fun z => e (h.hp.inj i id ⟨_, hi, hl2⟩ ⟨_, ho, rfl⟩ z)
    exact ⟨k1, k2, y, by rw [hoth _ (lt_of_heap k3) hne]; exact k3, k4.mono hext.ids hext.nam hext.imm hext.keep⟩
theorem bndOb_of_live {ρ' : Nat → Nat} {o : Ob} {x : Obj} {n : Nat → Prop} (h : ObjR ρ' A w n o x) {n' : Nat → Prop} (hn : ∀ id, n id → n' id) : ObjR ρ' A w n' o x := h.mono hn (fun _ _ => rfl) (fun _ h => h) (fun _ _ => rfl)

/-- a store into an object -/
theorem Mem.put (h : Mem w0 ρ A w H) {id off : Nat} {bs cs : List AV} {t : TypeId} {vs : List Value} (ho : H[id]? = some (.cells bs t)) (hv : Rvs ρ A w (Live H) cs vs) (hl : off + cs.length ≤ bs.length) :
    ∃ us, w.heap[ρ id]? = some (.cells (List.toArray us) t (0, 0)) ∧ off + vs.length ≤ us.length ∧ ∀ w', PutB w w' (ρ id) (seg us off vs) t →
      Mem w0 ρ A w' (H.set id (.cells (seg bs off cs) t)) ∧ Ext (Live H) ρ A w (Live (H.set id (.cells (seg bs off cs) t))) ρ A w' := by
  obtain ⟨h1, h2, us, h3, h4⟩ := h.hp.cells ho
  refine ⟨us, h3, by rw [← hv.1, ← h4.1]; exact hl, fun w' hp => ?_⟩
  exact h.upd ho rfl rfl hp.putO ⟨_, rfl, seg_rvs _ _ _ _ off hv h4⟩

/-- a reading of an object -/
theorem Mem.get (h : Mem w0 ρ A w H) {id off m : Nat} {bs : List AV} {t : TypeId} (ho : H[id]? = some (.cells bs t)) (hl : off + m ≤ bs.length) :
    ∃ us : List Value, us.length = m ∧ (∀ j (hj : j < us.length), w.cell? ⟨ρ id, off + j, none⟩ = some us[j]) ∧ Rvs ρ A w (Live H) ((bs.drop off).take m) us := by
  obtain ⟨h1, h2, us, h3, h4⟩ := h.hp.cells ho
  have hlen := h4.1
  refine ⟨(us.drop off).take m, by simp; omega, fun j hj => ?_, (h4.drop off).take m⟩
  rw [cells_get h3]
  simp only [List.length_take, List.length_drop] at hj
  simp only [List.getElem_take, List.getElem_drop]
  exact List.getElem?_eq_getElem (by omega)
end
end Go.Evl

/- The evaluator is right about one operation, a region in the order of the text, code and calls. Conditions: the context's contracts hold; loops' summaries are right; drawn regions are right. -/
namespace Go.Evl
open Go.RowKit

/-- the fences used: all functions, any depth; a round or none -/
abbrev Fr (r : Option Nat) : Fence := { Fence.wide with round := r }
theorem callsIn_fr {r : Option Nat} {n : Nat} {P : Program} {f : FuncId} {args : Array Value} {w : World} {R : Ending → World → Prop} : CallsIn (Fr r) n P f args w R ↔ Calls P f args w R :=
  callsIn_wide (n := n)

/-- what the end of a call says -/
def EndRel (w0 : World) (ρ : Nat → Nat) (A : Nat → Prop) (w : World) (H : List Ob) (r : Res) (H' : List Ob) (e : Ending) (w' : World) : Prop :=
  ∃ ρ' A', Mem w0 ρ' A' w' H' ∧ Ext (Live H) ρ A w (Live H') ρ' A' w' ∧ match r with
    | .ret v => ∃ u, e = .returned u ∧ Rv ρ' A' w' (Live H') v u
    | .pan => ∃ t u, e = .panicked [{ v := .iface t u, recovered := false }]

/-- marks of loops stay -/
def KeepD (H H' : List Ob) : Prop := ∀ id : Nat, H[id]? = some .dfr → H'[id]? = some .dfr
theorem KeepD.refl (H : List Ob) : KeepD H H := fun _ h => h
theorem KeepD.trans {H H' H'' : List Ob} (h : KeepD H H') (k : KeepD H' H'') : KeepD H H'' := fun id hi => k id (h id hi)
theorem KeepD.set {H : List Ob} {i : Nat} {o o' : Ob} (h : H[i]? = some o) (hn : o ≠ .dfr) : KeepD H (H.set i o') := by
  intro id hid
  rw [get_set_eq h]
  by_cases e : id = i
  · subst e; rw [h] at hid; cases hid; exact absurd rfl hn
  · rw [if_neg e]; exact hid
theorem KeepD.append (H L : List Ob) : KeepD H (H ++ L) := fun id h => by
  rw [List.getElem?_append_left (List.getElem?_eq_some_iff.1 h).1]; exact h

structure CallSound (P : Program) (Inv : World → Prop) (cf : CallF) : Prop where
  keep : ∀ f args H r H', cf f args H = some (r, H') → KeepD H H'
  len : ∀ f args H r H', cf f args H = some (r, H') → H.length ≤ H'.length
  rlen : ∀ id args H r H', cf.rnd id args H = some (r, H') → H.length ≤ H'.length
  fn : ∀ f args H r H', cf f args H = some (r, H') → ∀ w0 ρ A w vs, Inv w0 → Mem w0 ρ A w H → Rvs ρ A w (Live H) args vs → Calls P f vs.toArray w (EndRel w0 ρ A w H r H')
  rkeep : ∀ id args H r H', cf.rnd id args H = some (r, H') → KeepD H H'
  rnd : ∀ id args H r H', cf.rnd id args H = some (r, H') → ∀ w0 ρ A w vs, Inv w0 → Mem w0 ρ A w H → Rvs ρ A w (Live H) args vs → Live H id →
    ∃ fn tmps asg body, (Instr.yield (ρ id) vs.toArray).run P w = .ok (.round (ρ id) fn tmps asg body) w ∧ ∀ rd n, RoundIn (Fr rd) n P (ρ id) fn tmps asg body w (EndRel w0 ρ A w H r H')

/-- the invariant of the package-level variables stands over what a call leaves -/
def Stable (Inv : World → Prop) : Prop := ∀ w w', Inv w → Below w.heap.size w w' → Inv w'

/-- what a frame entered with: its deferred calls; as many objects as there were -/
structure Dx where
  ds : List Deferred
  m0 : Nat
/-- a frame's deferred calls: marks of its own loops, then those it entered with -/
def Marks (D : Dx) (ρ : Nat → Nat) (H : List Ob) (ds : List Deferred) : Prop :=
  ∃ ids : List Nat, ds = ids.map (fun id => ({ target := .collected (ρ id), args := #[] } : Deferred)) ++ D.ds ∧ ids.Nodup ∧ ∀ id ∈ ids, H[id]? = some .dfr ∧ D.m0 ≤ id
theorem Marks.keep {D : Dx} {ρ ρ' : Nat → Nat} {H H' : List Ob} {ds : List Deferred} (h : Marks D ρ H ds) (hk : KeepD H H') (hρ : ∀ id, Live H id → ρ' id = ρ id) : Marks D ρ' H' ds := by
  obtain ⟨ids, rfl, hn, hi⟩ := h
  refine ⟨ids, ?_, hn, fun id hid => ⟨hk id (hi id hid).1, (hi id hid).2⟩⟩
  congr 1
  exact List.map_congr_left fun id hid => by rw [hρ id ⟨_, (hi id hid).1, rfl⟩]

/-- the relation between states -/
structure Rel (D : Dx) (w0 : World) (ρ : Nat → Nat) (A : Nat → Prop) (st : St) (a : Act) (w : World) : Prop where
  tm : Rvs ρ A w (Live st.hp) st.tm a.tmps.toList
  df : Marks D ρ st.hp a.defers
  mem : Mem w0 ρ A w st.hp

theorem put_defers (a : Act) (dst : Option Tmp) (u : Value) : (a.put dst u).defers = a.defers := by cases dst <;> rfl

section
variable {D : Dx} {Γ : Cx} {Inv : World → Prop} {cf : CallF} {w0 : World} {ρ : Nat → Nat} {A : Nat → Prop} {w : World} {r : Option Nat} {n : Nat}

theorem put_rel {tm : List AV} {a : Act} {N : Nat → Prop} (h : Rvs ρ A w N tm a.tmps.toList) (dst : Option Tmp) {v : AV} {u : Value} (hv : Rv ρ A w N v u) : Rvs ρ A w N (putA tm dst v) (a.put dst u).tmps.toList := by
  cases dst with
  | none => exact h
  | some d =>
    simp only [putA, Act.put, Array.toList_setIfInBounds]
    exact h.set d hv

/-- where a plan ends -/
def Aft (w0 : World) (ρ : Nat → Nat) (A : Nat → Prop) (w : World) (H : List Ob) (v : AV) (H' : List Ob) (u : Value) (w' : World) : Prop :=
  ∃ ρ' A', Mem w0 ρ' A' w' H' ∧ Ext (Live H) ρ A w (Live H') ρ' A' w' ∧ Rv ρ' A' w' (Live H') v u

theorem about_fr (o : Oper) (a : Act) : ∀ f, o.about Γ.P w a.eval = some f → (Fr r).fn f := fun _ _ => trivial
theorem plan_noDefer {x : Operand → AV} {op : Op} {cp : Bool × Plan} (h : plan Γ x op = some cp) : ∀ c, op ≠ .defer c := by
  rintro c rfl
  simp [plan] at h

theorem newOb_spec {fresh : Nat} {H H' : List Ob} {o : Ob} {v v' : AV} (h : newOb fresh H o v = some (v', H')) : v' = v ∧ ¬ Live H fresh ∧ H'[fresh]? = some o ∧ ∀ i, i ≠ fresh → H'[i]? = H[i]? := by
  unfold newOb at h
  split at h
  · rename_i hf
    simp only [Nat.beq_eq] at hf
    subst hf
    simp only [Option.some.injEq, Prod.mk.injEq] at h
    obtain ⟨rfl, rfl⟩ := h
    refine ⟨rfl, ?_, by simp, fun i hi => ?_⟩
    · rintro ⟨o, ho, _⟩; simp at ho
    · rcases Nat.lt_or_ge i H.length with h' | h'
      · exact List.getElem?_append_left h'
      · rw [List.getElem?_eq_none h', List.getElem?_eq_none (by simp; omega)]
  · split at h
    · rename_i hfr
      simp only [Option.some.injEq, Prod.mk.injEq] at h
      obtain ⟨rfl, rfl⟩ := h
      have hlen : fresh < H.length := (List.getElem?_eq_some_iff.1 hfr).1
      refine ⟨rfl, ?_, by simp [hlen], fun i hi => by rw [List.getElem?_set_ne (fun e => hi e.symm)]⟩
      rintro ⟨o, ho, hl⟩; rw [hfr] at ho; cases ho; cases hl
    · simp at h
theorem newOb_keep {fresh : Nat} {H H' : List Ob} {o : Ob} {v v' : AV} (h : newOb fresh H o v = some (v', H')) : KeepD H H' := by
  obtain ⟨_, h1, _, h2⟩ := newOb_spec h
  intro id hid
  have : id ≠ fresh := fun e => h1 (e ▸ ⟨_, hid, rfl⟩)
  rw [h2 id this]; exact hid
theorem doPlan_keep {fresh : Nat} {H H' : List Ob} {p : Plan} {v : AV} (h : doPlan fresh H p = some (v, H')) : KeepD H H' := by
  cases p with
  | val x => simp only [doPlan, Option.some.injEq, Prod.mk.injEq] at h; obtain ⟨_, rfl⟩ := h; exact .refl _
  | load id off m ag =>
    simp only [doPlan] at h
    split at h
    · split at h
      · split at h
        · simp only [Option.some.injEq, Prod.mk.injEq] at h; obtain ⟨_, rfl⟩ := h; exact .refl _
        · obtain ⟨c, _, h2⟩ := Option.map_eq_some_iff.1 h
          simp only [Prod.mk.injEq] at h2
          obtain ⟨_, rfl⟩ := h2; exact .refl _
      · simp at h
    · simp at h
  | new cs t => exact newOb_keep h
  | newMap => exact newOb_keep h
  | store id off cs =>
    simp only [doPlan] at h
    split at h
    · rename_i bs t ho
      split at h
      · simp only [Option.some.injEq, Prod.mk.injEq] at h; obtain ⟨_, rfl⟩ := h; exact .set ho (fun e => by cases e)
      · simp at h
    · simp at h
  | mput id k v =>
    simp only [doPlan] at h
    split at h
    · rename_i es ho
      obtain ⟨c, _, h2⟩ := Option.map_eq_some_iff.1 h
      simp only [Prod.mk.injEq] at h2
      obtain ⟨_, rfl⟩ := h2; exact .set ho (fun e => by cases e)
    · simp at h
  | mget id k z ok =>
    simp only [doPlan] at h
    split at h
    · obtain ⟨c, _, h2⟩ := Option.map_eq_some_iff.1 h
      simp only [Prod.mk.injEq] at h2
      obtain ⟨_, rfl⟩ := h2; exact .refl _
    · simp at h
  | upd f args id s =>
    simp only [doPlan] at h
    split at h
    · rename_i cs t ho
      split at h
      · obtain ⟨r, _, h2⟩ := Option.bind_eq_some_iff.1 h
        obtain ⟨cs', _, _, _, _, rfl⟩ := updEnd_some h2
        exact .set ho (fun e => by cases e)
      · simp at h
    · simp at h
  | spc f args q => cases q with
    | ret x => simp only [doPlan, Option.some.injEq, Prod.mk.injEq] at h; obtain ⟨_, rfl⟩ := h; exact .refl _
    | pan => simp [doPlan] at h
  | call f args => simp [doPlan] at h
  | round id args => simp [doPlan] at h
  | pan => simp [doPlan] at h

theorem newOb_len {fresh : Nat} {H H' : List Ob} {o : Ob} {v v' : AV} (h : newOb fresh H o v = some (v', H')) : H.length ≤ H'.length := by
  unfold newOb at h
  split at h
  · simp only [Option.some.injEq, Prod.mk.injEq] at h; obtain ⟨_, rfl⟩ := h; simp
  · split at h
    · simp only [Option.some.injEq, Prod.mk.injEq] at h; obtain ⟨_, rfl⟩ := h; simp
    · simp at h
theorem doPlan_len {fresh : Nat} {H H' : List Ob} {p : Plan} {v : AV} (h : doPlan fresh H p = some (v, H')) : H.length ≤ H'.length := by
  cases p with
  | val x => simp only [doPlan, Option.some.injEq, Prod.mk.injEq] at h; obtain ⟨_, rfl⟩ := h; exact Nat.le_refl _
  | load id off m ag =>
    simp only [doPlan] at h
    split at h
    · split at h
      · split at h
        · simp only [Option.some.injEq, Prod.mk.injEq] at h; obtain ⟨_, rfl⟩ := h; exact Nat.le_refl _
        · obtain ⟨c, _, h2⟩ := Option.map_eq_some_iff.1 h
          simp only [Prod.mk.injEq] at h2
          obtain ⟨_, rfl⟩ := h2; exact Nat.le_refl _
      · simp at h
    · simp at h
  | new cs t => exact newOb_len h
  | newMap => exact newOb_len h
  | store id off cs =>
    simp only [doPlan] at h
    split at h
    · split at h
      · simp only [Option.some.injEq, Prod.mk.injEq] at h; obtain ⟨_, rfl⟩ := h; simp
      · simp at h
    · simp at h
  | mput id k v =>
    simp only [doPlan] at h
    split at h
    · obtain ⟨c, _, h2⟩ := Option.map_eq_some_iff.1 h
      simp only [Prod.mk.injEq] at h2
      obtain ⟨_, rfl⟩ := h2; simp
    · simp at h
  | mget id k z ok =>
    simp only [doPlan] at h
    split at h
    · obtain ⟨c, _, h2⟩ := Option.map_eq_some_iff.1 h
      simp only [Prod.mk.injEq] at h2
      obtain ⟨_, rfl⟩ := h2; exact Nat.le_refl _
    · simp at h
  | upd f args id s =>
    simp only [doPlan] at h
    split at h
    · split at h
      · obtain ⟨r, _, h2⟩ := Option.bind_eq_some_iff.1 h
        obtain ⟨cs', _, _, _, _, rfl⟩ := updEnd_some h2
        simp
      · simp at h
    · simp at h
  | spc f args q => cases q with
    | ret x => simp only [doPlan, Option.some.injEq, Prod.mk.injEq] at h; obtain ⟨_, rfl⟩ := h; exact Nat.le_refl _
    | pan => simp [doPlan] at h
  | call f args => simp [doPlan] at h
  | round id args => simp [doPlan] at h
  | pan => simp [doPlan] at h

/-- one operation by a plan that is no call in place and no panic -/
theorem doPlan_sound (hΓ : Γ.Ok Inv) (hI : Stable Inv) (h0 : Inv w0) {H : List Ob} (hm : Mem w0 ρ A w H) {a : Act} {o : Oper} (hnd : ∀ c, o.op ≠ .defer c) {p : Plan} (hp : Acts Γ.P ρ A w (Live H) (execOp a.eval o) p) {fresh : Nat} {v : AV} {H' : List Ob}
    (hd : doPlan fresh H p = some (v, H')) (hspec : ∀ f args q, p = .spc f args q → ∃ s, Γ.spec f = some s ∧ s args = some q) (hupd : ∀ f args id s, p = .upd f args id s → Γ.upd f = some s) {next : Act → World → Prop} {Q : Exit → Act → World → Prop}
    (K : ∀ u w', Aft w0 ρ A w H v H' u w' → next (a.put o.dst u) w') : o.wpIn (Fr r) n Γ.P a w next Q := by
  refine ⟨about_fr o a, ?_⟩
  rw [Oper.semAt_eq _ _ _ hnd]
  cases p with
  | val v' =>
    simp only [doPlan, Option.some.injEq, Prod.mk.injEq] at hd
    obtain ⟨rfl, rfl⟩ := hd
    obtain ⟨u, w', hr, hb, hv⟩ := hp
    rw [hr]
    obtain ⟨m1, m2⟩ := hm.grow hb
    exact K u w' ⟨_, _, m1, m2, hv⟩
  | load id off m ag =>
    simp only [doPlan] at hd
    split at hd
    · rename_i cs t ho
      split at hd
      · rename_i hle
        simp only [Nat.ble_eq] at hle
        obtain ⟨hid, hone, hrun⟩ := hp
        obtain ⟨us, hl, hcell, hrv⟩ := hm.get ho hle
        have hr := hrun us hl hcell
        rw [hr]
        cases ag with
        | true =>
          simp only [if_true, Option.some.injEq, Prod.mk.injEq] at hd
          obtain ⟨rfl, rfl⟩ := hd
          exact K _ _ ⟨_, _, hm, Ext.refl _ _ _ _, .agg hrv.1 hrv.2⟩
        | false =>
          have h1 := hone rfl
          subst h1
          simp only [Bool.false_eq_true, if_false] at hd ⊢
          obtain ⟨c, hc, h2⟩ := Option.map_eq_some_iff.1 hd
          simp only [Prod.mk.injEq] at h2
          obtain ⟨rfl, rfl⟩ := h2
          match us, hl with
          | [u], _ =>
            have : ((cs.drop off).take 1)[0]? = some c := by rw [← hc]; simp [List.getElem?_drop]
            obtain ⟨u', hu', hrv'⟩ := hrv.get this
            simp only [List.getElem?_cons_zero, Option.some.injEq] at hu'
            subst hu'
            exact K _ _ ⟨_, _, hm, Ext.refl _ _ _ _, hrv'⟩
      · simp at hd
    · simp at hd
  | new cs t =>
    obtain ⟨vs, hv, hr⟩ := hp
    rw [hr]
    simp only [doPlan] at hd
    obtain ⟨rfl, hf, hnew, hold⟩ := newOb_spec hd
    obtain ⟨m1, m2⟩ := hm.new (o := .cells cs t) rfl (x := .cells vs.toArray t (0, 0)) ⟨vs, rfl, hv⟩ hf hnew hold
    refine K _ _ ⟨_, _, m1, m2, ?_⟩
    have := Rv.ptr (ρ := fun i => if i = fresh then w.heap.size else ρ i) (A := A) (w := w.alloc (.cells vs.toArray t)) (n := Live H') (id := fresh) (off := 0) ⟨_, hnew, rfl⟩
    simpa using this
  | newMap =>
    rw [show (execOp a.eval o).run Γ.P w = _ from hp]
    simp only [doPlan] at hd
    obtain ⟨rfl, hf, hnew, hold⟩ := newOb_spec hd
    obtain ⟨m1, m2⟩ := hm.new (o := .map []) rfl (x := .map #[] 0) ⟨[], 0, rfl, .nil, .nil⟩ hf hnew hold
    refine K _ _ ⟨_, _, m1, m2, ?_⟩
    have := Rv.map (ρ := fun i => if i = fresh then w.heap.size else ρ i) (A := A) (w := w.alloc (.map #[] 0)) (n := Live H') (id := fresh) ⟨_, hnew, rfl⟩
    simpa using this
  | mput id k v' =>
    obtain ⟨hid, d, kv, vv, hd0, hk, hv, hrun⟩ := hp
    simp only [doPlan] at hd
    split at hd
    · rename_i es ho
      obtain ⟨es', hes, h2⟩ := Option.map_eq_some_iff.1 hd
      simp only [Prod.mk.injEq] at h2
      obtain ⟨rfl, rfl⟩ := h2
      obtain ⟨h1, h2, x, h3, ents, clock, rfl, h4, h5⟩ := hm.hp.obj id _ ho rfl
      obtain ⟨q, hq, hob⟩ := putT_obj (clock := clock) hd0 hk hv hes h4 h5
      rw [hrun ents clock q h3 hq]
      obtain ⟨m1, m2⟩ := hm.upd ho rfl (o' := .map es') rfl (putO_of h3) hob
      exact K _ _ ⟨_, _, m1, m2, .raw⟩
    · simp at hd
  | mget id k z ok =>
    obtain ⟨hid, d, kv, zv, hd0, hk, hz, hrun⟩ := hp
    simp only [doPlan] at hd
    split at hd
    · rename_i es ho
      obtain ⟨q, hq, h2⟩ := Option.map_eq_some_iff.1 hd
      simp only [Prod.mk.injEq] at h2
      obtain ⟨rfl, rfl⟩ := h2
      obtain ⟨h1, h2, x, h3, ents, clock, rfl, h4, h5⟩ := hm.hp.obj id _ ho rfl
      have hfind := findT_run hd0 hk es ents 0 q hq h4 h5
      have tup : ∀ {p : AV} {u : Value} {b : Bool}, Rv ρ A w (Live H) p u → Rv ρ A w (Live H) (.tup [p, .bool b]) (.tuple #[u, .bool b]) := fun {p u b} h =>
        .tup (vs := [u, .bool b]) rfl fun i h1 h2 => by
          match i, h1 with
          | 0, _ => exact h
          | 1, _ => exact .bool
      cases q with
      | none =>
        rw [hrun ents clock none h3 hfind]
        refine K _ _ ⟨_, _, hm, Ext.refl _ _ _ _, ?_⟩
        cases ok
        · exact hz
        · exact tup hz
      | some v' =>
        obtain ⟨j, u, hf2, hu⟩ := hfind
        rw [hrun ents clock _ h3 hf2]
        refine K _ _ ⟨_, _, hm, Ext.refl _ _ _ _, ?_⟩
        cases ok
        · exact hu
        · exact tup hu
    · simp at hd
  | round id args => simp [doPlan] at hd
  | store id off cs =>
    simp only [doPlan] at hd
    split at hd
    · rename_i bs t ho
      split at hd
      · rename_i hle
        simp only [Nat.ble_eq] at hle
        simp only [Option.some.injEq, Prod.mk.injEq] at hd
        obtain ⟨rfl, rfl⟩ := hd
        obtain ⟨hid, vs, hv, hrun⟩ := hp
        obtain ⟨us, h1, h2, h3⟩ := hm.put ho hv hle
        obtain ⟨w', hr, hput⟩ := hrun us t h1 h2
        rw [hr]
        obtain ⟨m1, m2⟩ := h3 w' hput
        exact K _ _ ⟨_, _, m1, m2, .raw⟩
      · simp at hd
    · simp at hd
  | spc f args q =>
    cases q with
    | pan => simp [doPlan] at hd
    | ret v' =>
      simp only [doPlan, Option.some.injEq, Prod.mk.injEq] at hd
      obtain ⟨rfl, rfl⟩ := hd
      obtain ⟨s, hs, hq⟩ := hspec f args _ rfl
      obtain ⟨vs, hv, hr⟩ := hp
      rw [hr]
      refine ⟨fun h => by simp [Fence.wide] at h, ?_⟩
      rw [callsIn_fr]
      refine (hΓ.spec f s hs args _ hq ρ A w vs hm.lt (hI _ _ h0 hm.bel) hv).mono ?_
      rintro e w' ⟨hb, u, rfl, hu⟩
      obtain ⟨m1, m2⟩ := hm.grow hb
      exact K u w' ⟨_, _, m1, m2, hu.any⟩
  | upd f args id s =>
    simp only [doPlan] at hd
    split at hd
    · rename_i cs t ho
      split at hd
      · rename_i hb
        obtain ⟨q, hq, h2⟩ := Option.bind_eq_some_iff.1 hd
        obtain ⟨cs', rfl, hl, hsv, hsc, rfl⟩ := updEnd_some h2
        obtain ⟨hid, vs, hv, hr⟩ := hp
        obtain ⟨k1, k2, us, k3, k4⟩ := hm.hp.cells ho
        rw [hr]
        refine ⟨fun h => by simp [Fence.wide] at h, ?_⟩
        rw [callsIn_fr]
        refine (hΓ.upd f s (hupd f args id s rfl) args t cs v cs' hq hb hl hsv hsc ρ A w0 w (ρ id) vs us h0 hm.bel k1 hm.lt k2 hv k3 (k4.bnd0 hb)).mono ?_
        rintro e w' ⟨j1, j2, j3, u, us', rfl, j4, j5, j6⟩
        obtain ⟨m1, m2⟩ := hm.updG ho j1 j2 j3 j4 fun _ _ _ _ => scals_rv hsc j6
        exact K u w' ⟨_, _, m1, m2, scal_rv hsv j5⟩
      · simp at hd
    · simp at hd
  | call f args => simp [doPlan] at hd
  | pan => simp [doPlan] at hd
theorem callA_upd {f : AV} {fs : List AV} {g : FuncId} {args : List AV} {id : Nat} {s : List AV → Tr Res} {c : Bool} (h : callA Γ f fs = some (c, .upd g args id s)) : Γ.upd g = some s := by
  unfold callA at h
  split at h
  · rename_i g' cs
    split at h
    · split at h
      · obtain ⟨q', hq, h2⟩ := Option.map_eq_some_iff.1 h
        simp at h2
      · simp at h
    · split at h
      · obtain ⟨q', hq, h2⟩ := Option.map_eq_some_iff.1 h
        simp at h2
      · split at h
        · rename_i s' hs
          split at h
          · split at h
            · simp only [Option.some.injEq, Prod.mk.injEq, Plan.upd.injEq] at h
              obtain ⟨_, rfl, _, _, rfl⟩ := h
              exact hs
            · simp at h
          · simp at h
        · split at h <;> simp at h
  · simp at h
  · simp at h
theorem callA_spc {f : AV} {fs : List AV} {g : FuncId} {args : List AV} {q : Res} {c : Bool} (h : callA Γ f fs = some (c, .spc g args q)) : ∃ s, Γ.spec g = some s ∧ s args = some q := by
  unfold callA at h
  split at h
  · rename_i g' cs
    split at h
    · rename_i s hs
      split at h
      · obtain ⟨q', hq, h2⟩ := Option.map_eq_some_iff.1 h
        simp only [Prod.mk.injEq, Plan.spc.injEq] at h2
        obtain ⟨_, rfl, rfl, rfl⟩ := h2
        exact ⟨s, hs, hq⟩
      · simp at h
    · split at h
      · obtain ⟨q', hq, h2⟩ := Option.map_eq_some_iff.1 h
        simp at h2
      · split at h
        · split at h
          · split at h <;> simp at h
          · simp at h
        · split at h <;> simp at h
  · simp at h
  · simp at h
theorem ok1_val {x : Option AV} {c : Bool} {p : Plan} (h : ok1 x = some (c, p)) : ∃ v, p = .val v := by
  obtain ⟨v, _, h2⟩ := Option.map_eq_some_iff.1 h
  simp only [Prod.mk.injEq] at h2
  exact ⟨v, h2.2.symm⟩
theorem ok2_val {x : Option (Bool × AV)} {c : Bool} {p : Plan} (h : ok2 x = some (c, p)) : ∃ v, p = .val v := by
  obtain ⟨v, _, h2⟩ := Option.map_eq_some_iff.1 h
  simp only [Prod.mk.injEq] at h2
  exact ⟨v.2, h2.2.symm⟩
theorem plan_spc {x : Operand → AV} {op : Op} {c : Bool} {g : FuncId} {args : List AV} {q : Res} (h : plan Γ x op = some (c, .spc g args q)) : ∃ s, Γ.spec g = some s ∧ s args = some q := by
  cases op <;> simp only [plan, reduceCtorEq] at h
  case call cl =>
    split at h
    · exact callA_spc h
    · split at h
      · obtain ⟨v, hv⟩ := ok1_val h; simp at hv
      · simp at h
    · obtain ⟨v, hv⟩ := ok1_val h; simp at hv
    · obtain ⟨v, hv⟩ := ok1_val h; simp at hv
    · simp at h
  case slice t y lo hi mx =>
    cases mx with
    | none => obtain ⟨v, hv⟩ := ok2_val h; simp at hv
    | some _ => simp at h
  all_goals
    first
    | (obtain ⟨v, hv⟩ := ok1_val h; simp at hv; done)
    | (obtain ⟨v, hv⟩ := ok2_val h; simp at hv; done)
    | (simp at h; done)
    | (split at h <;> first | (simp at h; done) | (split at h <;> first | (simp at h; done) | (obtain ⟨v, hv⟩ := ok1_val h; simp at hv; done)) | (obtain ⟨v, hv⟩ := ok1_val h; simp at hv; done))
theorem plan_upd {x : Operand → AV} {op : Op} {c : Bool} {g : FuncId} {args : List AV} {id : Nat} {s : List AV → Tr Res} (h : plan Γ x op = some (c, .upd g args id s)) : Γ.upd g = some s := by
  cases op <;> simp only [plan, reduceCtorEq] at h
  case call cl =>
    split at h
    · exact callA_upd h
    · split at h
      · obtain ⟨v, hv⟩ := ok1_val h; simp at hv
      · simp at h
    · obtain ⟨v, hv⟩ := ok1_val h; simp at hv
    · obtain ⟨v, hv⟩ := ok1_val h; simp at hv
    · simp at h
  case slice t y lo hi mx =>
    cases mx with
    | none => obtain ⟨v, hv⟩ := ok2_val h; simp at hv
    | some _ => simp at h
  all_goals
    first
    | (obtain ⟨v, hv⟩ := ok1_val h; simp at hv; done)
    | (obtain ⟨v, hv⟩ := ok2_val h; simp at hv; done)
    | (simp at h; done)
    | (split at h <;> first | (simp at h; done) | (split at h <;> first | (simp at h; done) | (obtain ⟨v, hv⟩ := ok1_val h; simp at hv; done)) | (obtain ⟨v, hv⟩ := ok1_val h; simp at hv; done))
end

/-! What a piece of code leaves -/
def Out (D : Dx) (w0 : World) (ρ : Nat → Nat) (A : Nat → Prop) (w : World) (H : List Ob) (e : Ex) (st' : St) (x : Exit) (a' : Act) (w' : World) : Prop :=
  ∃ ρ' A', Ext (Live H) ρ A w (Live st'.hp) ρ' A' w' ∧ match e with
    | .normal => x = .normal ∧ Rel D w0 ρ' A' st' a' w'
    | .exit id => x = .exit id ∧ Rel D w0 ρ' A' st' a' w'
    | .ret => x = .ret ∧ Rel D w0 ρ' A' st' a' w'
    | .pan => ∃ t v, x = .panic [{ v := .iface t v, recovered := false }] ∧ Rel D w0 ρ' A' st' a' w'

theorem Out.from {D : Dx} {w0 : World} {ρ ρ1 : Nat → Nat} {A A1 : Nat → Prop} {w w1 : World} {H H1 : List Ob} {e : Ex} {st' : St} {x : Exit} {a' : Act} {w' : World}
    (h : Ext (Live H) ρ A w (Live H1) ρ1 A1 w1) (k : Out D w0 ρ1 A1 w1 H1 e st' x a' w') : Out D w0 ρ A w H e st' x a' w' := by
  obtain ⟨ρ', A', h1, h2⟩ := k
  exact ⟨ρ', A', h.trans h1, h2⟩

section
variable {D : Dx} {Γ : Cx} {Inv : World → Prop} {cf : CallF} {w0 : World} {ρ : Nat → Nat} {A : Nat → Prop} {w : World} {r : Option Nat} {n : Nat}

theorem wantA_ok {ops : Array Oper} {tm : List AV} {a : Act} {N : Nat → Prop} (ht : Rvs ρ A w N tm a.tmps.toList) {o : Oper} {g : Bool} (h : wantA ops tm o = some g) : Region.wanted o (yielded ops a.tmps) = g := by
  unfold wantA at h
  unfold Region.wanted
  cases hg : o.guard with
  | none => simp only [hg, Option.some.injEq] at h; simp [h]
  | some jw =>
    obtain ⟨j, want⟩ := jw
    simp only [hg] at h ⊢
    unfold yielded
    cases hd : (ops[j]?).bind (·.dst) with
    | none =>
      simp only [hd, Option.some.injEq] at h
      subst h
      simp
    | some d =>
      simp only [hd] at h
      simp only [Option.bind_some]
      have hop := opd_rv ht (.tmp d)
      simp only [opd, Act.eval] at hop
      cases hx : a.tmps[d]? with
      | none =>
        have hs : a.tmps.size ≤ d := by simpa using hx
        have hl : tm.length ≤ d := by rw [ht.1]; simpa using hs
        have : getT tm d = .raw undef := by simp [getT, List.getElem?_eq_none hl]
        rw [this] at h
        simp only [undef, Option.some.injEq] at h
        subst h
        simp
      | some v =>
        have : a.tmps.getD d undef = v := by rw [Array.getD_eq_getD_getElem?, hx]; rfl
        rw [this] at hop
        split at h
        · rename_i b hb
          rw [hb] at hop
          cases hop.of_bool
          simp only [Option.some.injEq] at h
          subst h
          simp
        · rename_i vs hb
          rw [hb] at hop
          cases hop.of_raw
          simp only [Option.some.injEq] at h
          subst h
          simp
        · simp at h

theorem stepA_sound (hΓ : Γ.Ok Inv) (hI : Stable Inv) (h0 : Inv w0) (hcf : CallSound Γ.P Inv cf) {ops : Array Oper} {i : Nat} {st st' : St} {e : Bool} {a : Act} (hr : Rel D w0 ρ A st a w)
    (h : stepA Γ cf ops i st = some (e, st')) {K : Act → World → Prop} {Q : Exit → Act → World → Prop}
    (hK : e = true → ∀ a' w', Out D w0 ρ A w st.hp .normal st' .normal a' w' → K a' w') (hQ : e = false → ∀ x a' w', Out D w0 ρ A w st.hp .pan st' x a' w' → Q x a' w') :
    wpOpIn (Fr r) n Γ.P ops Q i K a w := by
  unfold stepA at h
  unfold wpOpIn
  cases ho : ops[i]? with
  | none => simp [ho] at h
  | some o =>
    simp only [ho] at h ⊢
    cases hw : wantA ops st.tm o with
    | none => simp [hw] at h
    | some g =>
      simp only [hw] at h
      rw [wantA_ok hr.tm hw]
      cases g with
      | false =>
        simp only [cond_false, Option.some.injEq, Prod.mk.injEq] at h
        obtain ⟨rfl, rfl⟩ := h
        simp only [Bool.false_eq_true, if_false]
        refine ⟨about_fr o a, hK rfl _ _ ⟨ρ, A, Ext.refl _ _ _ _, rfl, ?_, ?_, hr.mem⟩⟩
        · exact put_rel hr.tm o.dst .raw
        · rw [put_defers]; exact hr.df
      | true =>
        simp only [cond_true] at h
        simp only [if_true]
        cases hp : plan Γ (opd st.tm) o.op with
        | none => simp [hp] at h
        | some cp =>
          obtain ⟨c, p⟩ := cp
          simp only [hp] at h
          cases c with
          | false => simp at h
          | true =>
            simp only [cond_true] at h
            have hacts := plan_acts hΓ hr.tm hr.mem.lt hp rfl
            have hnd := plan_noDefer hp
            have hspec : ∀ f args q, p = .spc f args q → ∃ s, Γ.spec f = some s ∧ s args = some q := fun f args q e => plan_spc (by rw [hp, e])
            have gen : ∀ {v H}, doPlan st.hp.length st.hp p = some (v, H) → some (true, (⟨putA st.tm o.dst v, H⟩ : St)) = some (e, st') → o.wpIn (Fr r) n Γ.P a w K Q := by
              intro v H hd he
              simp only [Option.some.injEq, Prod.mk.injEq] at he
              obtain ⟨rfl, rfl⟩ := he
              refine doPlan_sound hΓ hI h0 hr.mem hnd hacts hd hspec (fun f args id s e => plan_upd (by rw [hp, e])) fun u w' ⟨ρ', A', m1, m2, hv⟩ => hK rfl _ _ ⟨ρ', A', m2, rfl, ?_, ?_, m1⟩
              · exact put_rel (m2.rvs hr.tm) o.dst hv
              · rw [put_defers]; exact hr.df.keep (doPlan_keep hd) m2.nam
            split at h
            · simp only [Option.some.injEq, Prod.mk.injEq] at h
              obtain ⟨rfl, rfl⟩ := h
              obtain ⟨t, v, hrun⟩ := hacts
              refine ⟨about_fr o a, ?_⟩
              rw [Oper.semAt_eq _ _ _ hnd, hrun]
              exact hQ rfl _ _ _ ⟨ρ, A, Ext.refl _ _ _ _, t, v, rfl, hr⟩
            · rename_i f args
              simp only [Option.some.injEq, Prod.mk.injEq] at h
              obtain ⟨rfl, rfl⟩ := h
              obtain ⟨s, hs, hq⟩ := hspec f args _ rfl
              obtain ⟨vs, hv, hrun⟩ := hacts
              refine ⟨about_fr o a, ?_⟩
              rw [Oper.semAt_eq _ _ _ hnd, hrun]
              refine ⟨fun h => by simp [Fence.wide] at h, ?_⟩
              rw [callsIn_fr]
              refine (hΓ.spec f s hs args _ hq ρ A w vs hr.mem.lt (hI _ _ h0 hr.mem.bel) hv).mono ?_
              rintro e w' ⟨hb, t, u, rfl⟩
              obtain ⟨m1, m2⟩ := hr.mem.grow hb
              exact hQ rfl _ _ _ ⟨_, _, m2, t, u, rfl, m2.rvs hr.tm, hr.df, m1⟩
            · rename_i f args
              obtain ⟨vs, hv, hrun⟩ := hacts
              refine ⟨about_fr o a, ?_⟩
              rw [Oper.semAt_eq _ _ _ hnd, hrun]
              refine ⟨fun h => by simp [Fence.wide] at h, ?_⟩
              rw [callsIn_fr]
              split at h
              · simp at h
              · rename_i v H hc
                simp only [Option.some.injEq, Prod.mk.injEq] at h
                obtain ⟨rfl, rfl⟩ := h
                refine (hcf.fn f args st.hp _ H hc w0 ρ A w vs h0 hr.mem hv).mono ?_
                rintro e w' ⟨ρ', A', m1, m2, u, rfl, hu⟩
                refine hK rfl _ _ ⟨ρ', A', m2, rfl, put_rel (m2.rvs hr.tm) o.dst hu, ?_, m1⟩
                rw [put_defers]; exact hr.df.keep (hcf.keep _ _ _ _ _ hc) m2.nam
              · rename_i H hc
                simp only [Option.some.injEq, Prod.mk.injEq] at h
                obtain ⟨rfl, rfl⟩ := h
                refine (hcf.fn f args st.hp _ H hc w0 ρ A w vs h0 hr.mem hv).mono ?_
                rintro e w' ⟨ρ', A', m1, m2, t, u, rfl⟩
                exact hQ rfl _ _ _ ⟨ρ', A', m2, t, u, rfl, m2.rvs hr.tm, hr.df.keep (hcf.keep _ _ _ _ _ hc) m2.nam, m1⟩
            · rename_i id args
              obtain ⟨hid, vs, hv, hrun⟩ := hacts
              refine ⟨about_fr o a, ?_⟩
              rw [Oper.semAt_eq _ _ _ hnd, hrun]
              split at h
              · rename_i v H hc
                simp only [Option.some.injEq, Prod.mk.injEq] at h
                obtain ⟨rfl, rfl⟩ := h
                obtain ⟨fn, tmps, asg, body, hy, hround⟩ := hcf.rnd id args st.hp _ H hc w0 ρ A w vs h0 hr.mem hv hid
                rw [hy, Oper.uponIn_round]
                refine ⟨fun h => by simp [Fence.wide] at h, (hround r (n - 1)).mono ?_⟩
                rintro e w' ⟨ρ', A', m1, m2, u, rfl, hu⟩
                refine hK rfl _ _ ⟨ρ', A', m2, rfl, put_rel (m2.rvs hr.tm) o.dst hu, ?_, m1⟩
                rw [put_defers]; exact hr.df.keep (hcf.rkeep _ _ _ _ _ hc) m2.nam
              · simp at h
            · split at h
              · simp at h
              · rename_i v H hd
                exact gen hd h

theorem stepA_keep (hcf : CallSound Γ.P Inv cf) {ops : Array Oper} {i : Nat} {st st' : St} {e : Bool} (h : stepA Γ cf ops i st = some (e, st')) : KeepD st.hp st'.hp := by
  unfold stepA at h
  cases ho : ops[i]? with
  | none => simp [ho] at h
  | some o =>
    simp only [ho] at h
    cases hw : wantA ops st.tm o with
    | none => simp [hw] at h
    | some g =>
      simp only [hw] at h
      cases g with
      | false => simp only [cond_false, Option.some.injEq, Prod.mk.injEq] at h; obtain ⟨_, rfl⟩ := h; exact .refl _
      | true =>
        simp only [cond_true] at h
        cases hp : plan Γ (opd st.tm) o.op with
        | none => simp [hp] at h
        | some cp =>
          obtain ⟨c, p⟩ := cp
          simp only [hp] at h
          cases c with
          | false => simp at h
          | true =>
            simp only [cond_true] at h
            split at h
            · simp only [Option.some.injEq, Prod.mk.injEq] at h; obtain ⟨_, rfl⟩ := h; exact .refl _
            · simp only [Option.some.injEq, Prod.mk.injEq] at h; obtain ⟨_, rfl⟩ := h; exact .refl _
            · split at h
              · simp at h
              · rename_i hc; simp only [Option.some.injEq, Prod.mk.injEq] at h; obtain ⟨_, rfl⟩ := h; exact hcf.keep _ _ _ _ _ hc
              · rename_i hc; simp only [Option.some.injEq, Prod.mk.injEq] at h; obtain ⟨_, rfl⟩ := h; exact hcf.keep _ _ _ _ _ hc
            · split at h
              · rename_i hc; simp only [Option.some.injEq, Prod.mk.injEq] at h; obtain ⟨_, rfl⟩ := h; exact hcf.rkeep _ _ _ _ _ hc
              · simp at h
            · split at h
              · simp at h
              · rename_i hd; simp only [Option.some.injEq, Prod.mk.injEq] at h; obtain ⟨_, rfl⟩ := h; exact doPlan_keep hd
theorem runIdx_keep (hcf : CallSound Γ.P Inv cf) {ops : Array Oper} : ∀ (l : List Nat) {st st' : St} {e : Ex}, runIdx Γ cf ops l st = some (e, st') → KeepD st.hp st'.hp := by
  intro l
  induction l with
  | nil => intro st st' e h; simp only [runIdx, Option.some.injEq, Prod.mk.injEq] at h; obtain ⟨_, rfl⟩ := h; exact .refl _
  | cons i l ih =>
    intro st st' e h
    simp only [runIdx] at h
    split at h
    · rename_i st1 hs; exact (stepA_keep hcf hs).trans (ih h)
    · rename_i st1 hs; simp only [Option.some.injEq, Prod.mk.injEq] at h; obtain ⟨_, rfl⟩ := h; exact stepA_keep hcf hs
    · simp at h

theorem stepA_len (hcf : CallSound Γ.P Inv cf) {ops : Array Oper} {i : Nat} {st st' : St} {e : Bool} (h : stepA Γ cf ops i st = some (e, st')) : st.hp.length ≤ st'.hp.length := by
  unfold stepA at h
  cases ho : ops[i]? with
  | none => simp [ho] at h
  | some o =>
    simp only [ho] at h
    cases hw : wantA ops st.tm o with
    | none => simp [hw] at h
    | some g =>
      simp only [hw] at h
      cases g with
      | false => simp only [cond_false, Option.some.injEq, Prod.mk.injEq] at h; obtain ⟨_, rfl⟩ := h; exact Nat.le_refl _
      | true =>
        simp only [cond_true] at h
        cases hp : plan Γ (opd st.tm) o.op with
        | none => simp [hp] at h
        | some cp =>
          obtain ⟨c, p⟩ := cp
          simp only [hp] at h
          cases c with
          | false => simp at h
          | true =>
            simp only [cond_true] at h
            split at h
            · simp only [Option.some.injEq, Prod.mk.injEq] at h; obtain ⟨_, rfl⟩ := h; exact Nat.le_refl _
            · simp only [Option.some.injEq, Prod.mk.injEq] at h; obtain ⟨_, rfl⟩ := h; exact Nat.le_refl _
            · split at h
              · simp at h
              · rename_i hc; simp only [Option.some.injEq, Prod.mk.injEq] at h; obtain ⟨_, rfl⟩ := h; exact hcf.len _ _ _ _ _ hc
              · rename_i hc; simp only [Option.some.injEq, Prod.mk.injEq] at h; obtain ⟨_, rfl⟩ := h; exact hcf.len _ _ _ _ _ hc
            · split at h
              · rename_i hc; simp only [Option.some.injEq, Prod.mk.injEq] at h; obtain ⟨_, rfl⟩ := h; exact hcf.rlen _ _ _ _ _ hc
              · simp at h
            · split at h
              · simp at h
              · rename_i hd; simp only [Option.some.injEq, Prod.mk.injEq] at h; obtain ⟨_, rfl⟩ := h; exact doPlan_len hd
theorem runIdx_len (hcf : CallSound Γ.P Inv cf) {ops : Array Oper} : ∀ (l : List Nat) {st st' : St} {e : Ex}, runIdx Γ cf ops l st = some (e, st') → st.hp.length ≤ st'.hp.length := by
  intro l
  induction l with
  | nil => intro st st' e h; simp only [runIdx, Option.some.injEq, Prod.mk.injEq] at h; obtain ⟨_, rfl⟩ := h; exact Nat.le_refl _
  | cons i l ih =>
    intro st st' e h
    simp only [runIdx] at h
    split at h
    · rename_i st1 hs; exact Nat.le_trans (stepA_len hcf hs) (ih h)
    · rename_i st1 hs; simp only [Option.some.injEq, Prod.mk.injEq] at h; obtain ⟨_, rfl⟩ := h; exact stepA_len hcf hs
    · simp at h

theorem runIdx_sound (hΓ : Γ.Ok Inv) (hI : Stable Inv) (h0 : Inv w0) (hcf : CallSound Γ.P Inv cf) {ops : Array Oper} {e : Ex} {st' : St} : ∀ (l : List Nat) (st : St) (ρ : Nat → Nat) (A : Nat → Prop) (w : World) (a : Act) (Q : Exit → Act → World → Prop),
    Rel D w0 ρ A st a w → runIdx Γ cf ops l st = some (e, st') → (∀ x a' w', Out D w0 ρ A w st.hp e st' x a' w' → Q x a' w') → wpOpsIn (Fr r) n Γ.P ops Q l a w := by
  intro l
  induction l with
  | nil =>
    intro st ρ A w a Q hr h hQ
    simp only [runIdx, Option.some.injEq, Prod.mk.injEq] at h
    obtain ⟨rfl, rfl⟩ := h
    exact hQ _ _ _ ⟨ρ, A, Ext.refl _ _ _ _, rfl, hr⟩
  | cons i l ih =>
    intro st ρ A w a Q hr h hQ
    simp only [runIdx] at h
    rw [wpOpsIn_cons]
    split at h
    · rename_i st1 hs
      refine stepA_sound hΓ hI h0 hcf hr hs (fun _ a' w' ho => ?_) (fun he => by cases he)
      obtain ⟨ρ', A', hext, _, hr'⟩ := ho
      exact ih st1 ρ' A' w' a' Q hr' h fun x a2 w2 ho2 => hQ _ _ _ (Out.from hext ho2)
    · rename_i st1 hs
      simp only [Option.some.injEq, Prod.mk.injEq] at h
      obtain ⟨rfl, rfl⟩ := h
      exact stepA_sound hΓ hI h0 hcf hr hs (fun he => by cases he) (fun _ x a' w' ho => hQ _ _ _ ho)
    · simp at h
end
end Go.Evl

/- The evaluator is right about code and functions. Conditions: the context's contracts hold; loops' summaries are right; drawn regions are right. -/
namespace Go.Evl
open Go.RowKit

/-- a loop by a ghost number, inside a fence -/
theorem wpIn_loop_ghost {F : Fence} {n : Nat} {P : Program} {Q : Exit → Act → World → Prop} {a : Act} {w : World} {c : Code} (I : Nat → Act → World → Prop) (n₀ : Nat) (h₀ : I n₀ a w)
    (round : ∀ k a w, I k a w → c.wpIn F n P (Exit.then (fun a' w' => ∃ k', k' < k ∧ I k' a' w') Q) a w) : (Code.loop c).wpIn F n P Q a w := by
  refine wpIn_loop (fun a w => ∃ k, I k a w) (fun a w => leastOf (fun k => I k a w)) ⟨n₀, h₀⟩ ?_
  intro a w hI
  refine wpIn_mono (round _ a w (leastOf_spec hI).1) ?_
  intro e a' w' hq
  cases e with
  | normal =>
    obtain ⟨k', hlt, hI'⟩ := hq
    exact show (∃ k, I k a' w') ∧ leastOf (fun k => I k a' w') < leastOf (fun k => I k a w) from ⟨⟨k', hI'⟩, Nat.lt_of_le_of_lt ((leastOf_spec ⟨k', hI'⟩).2 k' hI') hlt⟩
  | exit id => exact hq
  | goto l => exact hq
  | ret => exact hq
  | panic ch => exact hq
  | outgrown => exact hq

/-- a state cut back to m objects and the slots kept -/
def cutBack (keep : List Nat) (m : Nat) (st : St) : Option (List AV × List Ob) :=
  if Nat.beq st.hp.length m then some (keep.map (getT st.tm), st.hp)
  else if Nat.ble m st.hp.length && bnds m (keep.map (getT st.tm)) && (st.hp.take m).all (bndOb m) && noDfr m st.hp then some (keep.map (getT st.tm), st.hp.take m)
  else none

/-- the loops of a piece of code -/
def loops : Code → List (Nat × Code)
  | .seq a b => loops a ++ loops b
  | .cond _ a b => loops a ++ loops b
  | .block id (.loop body) => (id, body) :: loops body
  | .block _ c => loops c
  | _ => []

/-- a summary is right: one round from its states leads to its result, or to a state of its own with the same result, by a smaller number -/
def SumOk (Γ : Cx) (cf : CallF) (df : DrawF) (lp : Nat → LK) (nt : Nat) (body : Code) (keep : List Nat) (f : List AV → List Ob → Option (Ex × List AV × List Ob)) : Prop :=
  ∃ μ : List AV → List Ob → Nat, ∀ vs H R, vs.length = keep.length → f vs H = some R →
    ∃ e st1 vs1 H1, runC Γ cf df lp body ⟨mkF nt keep vs, H⟩ = some (e, st1) ∧ cutBack keep H.length st1 = some (vs1, H1) ∧
      match e with
      | .normal => f vs1 H1 = some R ∧ μ vs1 H1 < μ vs H
      | e => R = (e, vs1, H1)

def LoopsOk (Γ : Cx) (cf : CallF) (df : DrawF) (lp : Nat → LK) (nt : Nat) (c : Code) : Prop :=
  ∀ p ∈ loops c, ∀ keep f, lp p.1 = .sum keep f → keep.Nodup ∧ (∀ k ∈ keep, k < nt) ∧ SumOk Γ cf df lp nt p.2 keep f

def DrawSound (P : Program) (Inv : World → Prop) (df : DrawF) : Prop :=
  ∀ ops st e st', df ops st = some (e, st') → ∀ D w0 ρ A w a r n id, Inv w0 → Rel D w0 ρ A st a w → (Code.region id ops true).wpIn (Fr r) n P (Out D w0 ρ A w st.hp e st') a w

section
variable {D : Dx} {Γ : Cx} {Inv : World → Prop} {cf : CallF} {df : DrawF} {lp : Nat → LK} {w0 : World} {ρ : Nat → Nat} {A : Nat → Prop} {w : World} {r : Option Nat} {n : Nat}

theorem setAll_length (is : List Nat) : ∀ (tm vs : List AV), (setAll tm is vs).length = tm.length := by
  induction is with
  | nil => intro tm vs; simp [setAll]
  | cons i is ih => intro tm vs; cases vs with
    | nil => simp [setAll]
    | cons v vs => simp [setAll, ih]
theorem mkF_length (nt : Nat) (keep : List Nat) (vs : List AV) : (mkF nt keep vs).length = nt := by simp [mkF, setAll_length]

/-- a frame of kept slots reads wherever the slots read -/
theorem setAll_rel {N : Nat → Prop} {vals : List Value} : ∀ (is : List Nat) (tm vs : List AV), Rvs ρ A w N tm vals → vs.length = is.length →
    (∀ i (h1 : i < is.length) (h2 : i < vs.length), ∀ v, vals[is[i]]? = some v → Rv ρ A w N vs[i] v) → Rvs ρ A w N (setAll tm is vs) vals := by
  intro is
  induction is with
  | nil => intro tm vs h _ _; simpa [setAll] using h
  | cons i is ih =>
    intro tm vs h hl hv
    cases vs with
    | nil => simp at hl
    | cons v vs =>
      simp only [setAll]
      refine ih _ _ ?_ (by simpa using hl) (fun j h1 h2 u hu => hv (j + 1) (by simpa using h1) (by simpa using h2) u hu)
      refine ⟨by simp [h.1], fun j h1 h2 => ?_⟩
      simp only [List.length_set] at h1
      simp only [List.getElem_set]
      by_cases e : i = j
      · subst e
        simp only [if_true]
        exact hv 0 (by simp) (by simp) _ (List.getElem?_eq_getElem h2)
      · simp only [e, if_false]
        exact h.2 j h1 h2
theorem junk_rel {N : Nat → Prop} (vals : List Value) : Rvs ρ A w N (List.replicate vals.length .junk) vals :=
  ⟨by simp, fun i h1 h2 => by simp only [List.getElem_replicate]; exact .junk⟩
theorem mkF_rel {N : Nat → Prop} {vals : List Value} {tm : List AV} {keep : List Nat} {vs : List AV} (hv : Rvs ρ A w N tm vals) (hk : vs = keep.map (getT tm)) : Rvs ρ A w N (mkF tm.length keep vs) vals := by
  unfold mkF
  rw [hv.1]
  refine setAll_rel keep _ vs (junk_rel vals) (by simp [hk]) ?_
  intro i h1 h2 v hx
  subst hk
  simp only [List.getElem_map, getT]
  have hlt : keep[i] < vals.length := (List.getElem?_eq_some_iff.1 hx).1
  have hlt' : keep[i] < tm.length := by rw [hv.1]; exact hlt
  rw [List.getElem?_eq_getElem hlt']
  have := hv.2 keep[i] hlt' hlt
  rw [List.getElem?_eq_getElem hlt, Option.some.injEq] at hx
  subst hx
  exact this

theorem live_take {H : List Ob} {m : Nat} {id : Nat} : Live (H.take m) id ↔ Live H id ∧ id < m := by
  unfold Live
  simp only [List.getElem?_take]
  constructor
  · rintro ⟨o, h, hl⟩
    split at h
    · rename_i hlt; exact ⟨⟨o, h, hl⟩, hlt⟩
    · simp at h
  · rintro ⟨⟨o, h, hl⟩, hlt⟩
    exact ⟨o, by rw [if_pos hlt]; exact h, hl⟩

theorem noDfr_keep {m : Nat} {H : List Ob} (h : noDfr m H = true) : KeepD H (H.take m) := by
  intro id hid
  have hlt : id < m := by
    rcases Nat.lt_or_ge id m with h' | h'
    · exact h'
    · exfalso
      have hd : (H.drop m)[id - m]? = some .dfr := by rw [List.getElem?_drop]; rw [show m + (id - m) = id by omega]; exact hid
      have := List.all_eq_true.1 h _ (List.mem_of_getElem? hd)
      simp [isDfr] at this
  rw [List.getElem?_take, if_pos hlt]; exact hid
theorem cutBack_keep {keep : List Nat} {m : Nat} {st : St} {vs : List AV} {H : List Ob} (hc : cutBack keep m st = some (vs, H)) : KeepD st.hp H := by
  unfold cutBack at hc
  split at hc
  · simp only [Option.some.injEq, Prod.mk.injEq] at hc; obtain ⟨_, rfl⟩ := hc; exact .refl _
  · split at hc
    · rename_i hcond
      simp only [Bool.and_eq_true] at hcond
      simp only [Option.some.injEq, Prod.mk.injEq] at hc
      obtain ⟨_, rfl⟩ := hc
      exact noDfr_keep hcond.2
    · simp at hc
theorem Mem.take {H : List Ob} (h : Mem w0 ρ A w H) {m : Nat} (hb : (H.take m).all (bndOb m) = true) : Mem w0 ρ A w (H.take m) := by
  have hlv : ∀ id, Upto (Live H) m id → Live (H.take m) id := fun id hi => live_take.2 hi
  refine ⟨⟨fun id o ho hl => ?_, fun i j hi hj => h.hp.inj i j (live_take.1 hi).1 (live_take.1 hj).1⟩, h.bel, h.lt⟩
  have ho' : H[id]? = some o ∧ id < m := by
    rw [List.getElem?_take] at ho
    split at ho
    · exact ⟨ho, ‹_›⟩
    · simp at ho
  obtain ⟨k1, k2, x, k3, k4⟩ := h.hp.obj id o ho'.1 hl
  have hbo := List.all_eq_true.1 hb o (List.mem_of_getElem? ho)
  exact ⟨k1, k2, x, k3, (k4.bnd hbo).mono hlv (fun _ _ => rfl) (fun _ h => h) (fun _ _ => rfl)⟩

/-- the state cut back reads where the state reads -/
theorem cutBack_rel {keep : List Nat} {m : Nat} {st : St} {a : Act} {vs : List AV} {H : List Ob} (h : Rel D w0 ρ A st a w) (hc : cutBack keep m st = some (vs, H)) :
    Rel D w0 ρ A ⟨mkF st.tm.length keep vs, H⟩ a w ∧ (∀ id, Live st.hp id → id < m → Live H id) ∧ H.length = m ∧ vs.length = keep.length := by
  have hkd := cutBack_keep hc
  unfold cutBack at hc
  split at hc
  · rename_i he
    simp only [Nat.beq_eq] at he
    simp only [Option.some.injEq, Prod.mk.injEq] at hc
    obtain ⟨rfl, rfl⟩ := hc
    exact ⟨⟨mkF_rel h.tm rfl, h.df, h.mem⟩, fun _ h _ => h, he, by simp⟩
  · split at hc
    · rename_i hcond
      simp only [Bool.and_eq_true, Nat.ble_eq] at hcond
      obtain ⟨⟨⟨hle, hb1⟩, hb2⟩, hnd⟩ := hcond
      simp only [Option.some.injEq, Prod.mk.injEq] at hc
      obtain ⟨rfl, rfl⟩ := hc
      have hlv : ∀ id, Upto (Live st.hp) m id → Live (st.hp.take m) id := fun id hi => live_take.2 hi
      refine ⟨⟨?_, h.df.keep hkd (fun _ _ => rfl), h.mem.take hb2⟩, fun id h1 h2 => live_take.2 ⟨h1, h2⟩, by simp; omega, by simp⟩
      have hk := h.tm
      unfold mkF
      rw [hk.1]
      refine setAll_rel keep _ _ (junk_rel _) (by simp) ?_
      intro i h1 h2 v hx
      have hlt : keep[i] < a.tmps.toList.length := (List.getElem?_eq_some_iff.1 hx).1
      have hlt' : keep[i] < st.tm.length := by rw [hk.1]; exact hlt
      have hr := hk.2 keep[i] hlt' hlt
      have hbi := bnds_get hb1 i h2
      simp only [List.getElem_map, getT, List.getElem?_eq_getElem hlt', Option.getD_some] at hbi ⊢
      rw [List.getElem?_eq_getElem hlt, Option.some.injEq] at hx
      subst hx
      exact (hr.bnd hbi).mono hlv (fun _ _ => rfl) (fun _ h => h) (fun _ _ => rfl)
    · simp at hc

theorem inBlk_out {id : Nat} {H : List Ob} {e : Ex} {st' : St} {x : Option (Ex × St)} {e0 : Ex} {st0 : St} (hx : x = some (e0, st0)) (h : inBlk id x = some (e, st')) {y : Exit} {a' : Act} {w' : World}
    (ho : Out D w0 ρ A w H e0 st0 y a' w') : Exit.inBlock id (Out D w0 ρ A w H e st') y a' w' := by
  subst hx
  obtain ⟨ρ', A', h1, h2⟩ := ho
  cases e0 with
  | normal =>
    simp only [inBlk, Option.some.injEq, Prod.mk.injEq] at h
    obtain ⟨rfl, rfl⟩ := h
    obtain ⟨rfl, h3⟩ := h2
    exact ⟨ρ', A', h1, rfl, h3⟩
  | exit i =>
    obtain ⟨rfl, h3⟩ := h2
    simp only [inBlk] at h
    by_cases hi : i = id
    · simp only [hi, if_true, Option.some.injEq, Prod.mk.injEq] at h
      obtain ⟨rfl, rfl⟩ := h
      simp only [Exit.inBlock, hi, if_true]
      exact ⟨ρ', A', h1, rfl, h3⟩
    · simp only [hi, if_false, Option.some.injEq, Prod.mk.injEq] at h
      obtain ⟨rfl, rfl⟩ := h
      simp only [Exit.inBlock, hi, if_false]
      exact ⟨ρ', A', h1, rfl, h3⟩
  | ret =>
    simp only [inBlk, Option.some.injEq, Prod.mk.injEq] at h
    obtain ⟨rfl, rfl⟩ := h
    obtain ⟨rfl, h3⟩ := h2
    exact ⟨ρ', A', h1, rfl, h3⟩
  | pan =>
    simp only [inBlk, Option.some.injEq, Prod.mk.injEq] at h
    obtain ⟨rfl, rfl⟩ := h
    obtain ⟨t, v, rfl, h3⟩ := h2
    exact ⟨ρ', A', h1, t, v, rfl, h3⟩

theorem putA_length (tm : List AV) (dst : Option Tmp) (v : AV) : (putA tm dst v).length = tm.length := by cases dst <;> simp [putA]
theorem stepA_length {ops : Array Oper} {i : Nat} {st st' : St} {e : Bool} (h : stepA Γ cf ops i st = some (e, st')) : st'.tm.length = st.tm.length := by
  unfold stepA at h
  cases ho : ops[i]? with
  | none => simp [ho] at h
  | some o =>
    simp only [ho] at h
    cases hw : wantA ops st.tm o with
    | none => simp [hw] at h
    | some g =>
      simp only [hw] at h
      cases g with
      | false => simp only [cond_false, Option.some.injEq, Prod.mk.injEq] at h; obtain ⟨_, rfl⟩ := h; simp [putA_length]
      | true =>
        simp only [cond_true] at h
        cases hp : plan Γ (opd st.tm) o.op with
        | none => simp [hp] at h
        | some cp =>
          obtain ⟨c, p⟩ := cp
          simp only [hp] at h
          cases c with
          | false => simp at h
          | true =>
            simp only [cond_true] at h
            split at h
            · simp only [Option.some.injEq, Prod.mk.injEq] at h; obtain ⟨_, rfl⟩ := h; rfl
            · simp only [Option.some.injEq, Prod.mk.injEq] at h; obtain ⟨_, rfl⟩ := h; rfl
            · split at h
              · simp at h
              · simp only [Option.some.injEq, Prod.mk.injEq] at h; obtain ⟨_, rfl⟩ := h; simp [putA_length]
              · simp only [Option.some.injEq, Prod.mk.injEq] at h; obtain ⟨_, rfl⟩ := h; rfl
            · split at h
              · simp only [Option.some.injEq, Prod.mk.injEq] at h; obtain ⟨_, rfl⟩ := h; simp [putA_length]
              · simp at h
            · split at h
              · simp at h
              · simp only [Option.some.injEq, Prod.mk.injEq] at h; obtain ⟨_, rfl⟩ := h; simp [putA_length]
theorem runIdx_length {ops : Array Oper} : ∀ (l : List Nat) {st st' : St} {e : Ex}, runIdx Γ cf ops l st = some (e, st') → st'.tm.length = st.tm.length := by
  intro l
  induction l with
  | nil => intro st st' e h; simp only [runIdx, Option.some.injEq, Prod.mk.injEq] at h; obtain ⟨_, rfl⟩ := h; rfl
  | cons i l ih =>
    intro st st' e h
    simp only [runIdx] at h
    split at h
    · rename_i st1 hs; rw [ih h, stepA_length hs]
    · rename_i st1 hs; simp only [Option.some.injEq, Prod.mk.injEq] at h; obtain ⟨_, rfl⟩ := h; exact stepA_length hs
    · simp at h
def DrawLen (df : DrawF) : Prop := ∀ ops st e st', df ops st = some (e, st') → st'.tm.length = st.tm.length
theorem inBlk_length {id : Nat} {x : Option (Ex × St)} {e : Ex} {st' : St} (h : inBlk id x = some (e, st')) : ∃ e0, x = some (e0, st') := by
  unfold inBlk at h
  split at h
  · rename_i i st
    split at h <;> (simp only [Option.some.injEq, Prod.mk.injEq] at h; obtain ⟨_, rfl⟩ := h; exact ⟨_, rfl⟩)
  · exact ⟨_, h⟩
theorem iterN_length {g : St → Option (Ex × St)} (hg : ∀ st e st', g st = some (e, st') → st'.tm.length = st.tm.length) : ∀ (k : Nat) {st st' : St} {e : Ex}, iterN g k st = some (e, st') → st'.tm.length = st.tm.length := by
  intro k
  induction k with
  | zero => intro st st' e h; simp [iterN] at h
  | succ k ih =>
    intro st st' e h
    simp only [iterN] at h
    split at h
    · rename_i st1 h1; rw [ih h, hg _ _ _ h1]
    · exact hg _ _ _ h
theorem forgetSt_length (l : LK) (st : St) : (forgetSt l st).tm.length = st.tm.length := by cases l <;> simp [forgetSt, mkF_length]
theorem rfEnd_length {m : Nat} {tm : List AV} {H : List Ob} {e : Ex} {st' : St} (h : rfEnd m tm H = some (e, st')) : st'.tm.length = tm.length ∧ st'.tm = tm := by
  unfold rfEnd at h
  split at h <;> first | (simp only [Option.some.injEq, Prod.mk.injEq] at h; obtain ⟨_, rfl⟩ := h; exact ⟨rfl, rfl⟩) | simp at h
theorem runC_length (hdf : DrawLen df) : ∀ (c : Code) {st st' : St} {e : Ex}, runC Γ cf df lp c st = some (e, st') → st'.tm.length = st.tm.length
  | .skip, st, st', e, h => by simp only [runC, Option.some.injEq, Prod.mk.injEq] at h; obtain ⟨_, rfl⟩ := h; rfl
  | .region _ ops draw, st, st', e, h => by
    simp only [runC] at h
    split at h
    · rw [hdf _ _ _ _ h, forgetSt_length]
    · rw [runIdx_length _ h, forgetSt_length]
  | .seq a b, st, st', e, h => by
    simp only [runC] at h
    split at h
    · rename_i st1 h1; rw [runC_length hdf b h, runC_length hdf a h1]
    · exact runC_length hdf a h
  | .cond c a b, st, st', e, h => by
    simp only [runC] at h
    split at h
    · rename_i t ht
      cases t with
      | true => exact runC_length hdf a h
      | false => exact runC_length hdf b h
    · simp at h
  | .block id (.loop body), st, st', e, h => by
    simp only [runC] at h
    split at h
    · obtain ⟨e0, h0⟩ := inBlk_length h
      exact iterN_length (fun st e st' => runC_length hdf body) _ h0
    · simp at h
    · split at h
      · obtain ⟨e0, h0⟩ := inBlk_length h
        simp only [Option.some.injEq, Prod.mk.injEq] at h0
        obtain ⟨_, rfl⟩ := h0
        simp [mkF_length]
      · simp at h
  | .block id .skip, st, st', e, h => by simp only [runC] at h; obtain ⟨e0, h0⟩ := inBlk_length h; simp only [Option.some.injEq, Prod.mk.injEq] at h0; obtain ⟨_, rfl⟩ := h0; rfl
  | .block id (.region i ops d), st, st', e, h => by rw [runC] at h; obtain ⟨e0, h0⟩ := inBlk_length h; exact runC_length hdf (.region i ops d) h0; all_goals simp
  | .block id (.seq a b), st, st', e, h => by rw [runC] at h; obtain ⟨e0, h0⟩ := inBlk_length h; exact runC_length hdf (.seq a b) h0; all_goals simp
  | .block id (.cond c a b), st, st', e, h => by rw [runC] at h; obtain ⟨e0, h0⟩ := inBlk_length h; exact runC_length hdf (.cond c a b) h0; all_goals simp
  | .block id (.block i c), st, st', e, h => by rw [runC] at h; obtain ⟨e0, h0⟩ := inBlk_length h; exact runC_length hdf (.block i c) h0; all_goals simp
  | .block id (.exit i), st, st', e, h => by rw [runC] at h; obtain ⟨e0, h0⟩ := inBlk_length h; exact runC_length hdf (.exit i) h0; all_goals simp
  | .block id .ret, st, st', e, h => by rw [runC] at h; obtain ⟨e0, h0⟩ := inBlk_length h; exact runC_length hdf .ret h0; all_goals simp
  | .block id (.rangeFunc f p a b), st, st', e, h => by rw [runC] at h; obtain ⟨e0, h0⟩ := inBlk_length h; exact runC_length hdf (.rangeFunc f p a b) h0; all_goals simp
  | .block id (.scope c), st, st', e, h => by rw [runC] at h; obtain ⟨e0, h0⟩ := inBlk_length h; exact runC_length hdf (.scope c) h0; all_goals simp
  | .block id (.label l), st, st', e, h => by rw [runC] at h; obtain ⟨e0, h0⟩ := inBlk_length h; exact runC_length hdf (.label l) h0; all_goals simp
  | .block id (.goto l), st, st', e, h => by rw [runC] at h; obtain ⟨e0, h0⟩ := inBlk_length h; exact runC_length hdf (.goto l) h0; all_goals simp
  | .block id (.refuse l), st, st', e, h => by rw [runC] at h; obtain ⟨e0, h0⟩ := inBlk_length h; exact runC_length hdf (.refuse l) h0; all_goals simp
  | .exit id, st, st', e, h => by simp only [runC, Option.some.injEq, Prod.mk.injEq] at h; obtain ⟨_, rfl⟩ := h; rfl
  | .ret, st, st', e, h => by simp only [runC, Option.some.injEq, Prod.mk.injEq] at h; obtain ⟨_, rfl⟩ := h; rfl
  | .loop _, st, st', e, h => by simp [runC] at h
  | .rangeFunc g ps asg body, st, st', e, h => by
    simp only [runC] at h
    cases hr : inRnd lp with
    | true => simp [hr] at h
    | false =>
      simp only [hr, cond_false] at h
      split at h
      · rename_i gf cs hg
        cases hi : Γ.inl gf with
        | false => simp [hi] at h
        | true =>
          simp only [hi, cond_true] at h
          split at h
          · exact (rfEnd_length h).1
          · simp at h
      · simp at h
  | .scope _, st, st', e, h => by simp [runC] at h
  | .label _, st, st', e, h => by simp [runC] at h
  | .goto _, st, st', e, h => by simp [runC] at h
  | .refuse _, st, st', e, h => by simp [runC] at h
end
end Go.Evl

/- The evaluator is right about code: the theorem; and about functions. Conditions: the context's contracts hold; loops' summaries are right; drawn regions are right. -/
namespace Go.Evl
open Go.RowKit

section
variable {D : Dx} {Γ : Cx} {Inv : World → Prop} {cf : CallF} {df : DrawF} {lp : Nat → LK} {w0 : World} {r : Option Nat} {n : Nat}

theorem cutBack_mem {ρ : Nat → Nat} {A : Nat → Prop} {w : World} {keep : List Nat} {m : Nat} {st : St} {vs : List AV} {H : List Ob} (h : Mem w0 ρ A w st.hp) (hc : cutBack keep m st = some (vs, H)) :
    Mem w0 ρ A w H ∧ (∀ id, Live st.hp id → id < m → Live H id) := by
  unfold cutBack at hc
  split at hc
  · simp only [Option.some.injEq, Prod.mk.injEq] at hc
    obtain ⟨_, rfl⟩ := hc
    exact ⟨h, fun _ h _ => h⟩
  · split at hc
    · rename_i hcond
      simp only [Bool.and_eq_true] at hcond
      simp only [Option.some.injEq, Prod.mk.injEq] at hc
      obtain ⟨_, rfl⟩ := hc
      exact ⟨h.take hcond.1.2, fun id h1 h2 => live_take.2 ⟨h1, h2⟩⟩
    · simp at hc
theorem cutBack_len {keep : List Nat} {m : Nat} {st : St} {vs : List AV} {H : List Ob} (hc : cutBack keep m st = some (vs, H)) : H.length = m := by
  unfold cutBack at hc
  split at hc
  · rename_i he
    simp only [Nat.beq_eq] at he
    simp only [Option.some.injEq, Prod.mk.injEq] at hc
    obtain ⟨_, rfl⟩ := hc
    exact he
  · split at hc
    · rename_i hcond
      simp only [Bool.and_eq_true, Nat.ble_eq] at hcond
      simp only [Option.some.injEq, Prod.mk.injEq] at hc
      obtain ⟨_, rfl⟩ := hc
      simp; omega
    · simp at hc

theorem live_lt {H : List Ob} {id : Nat} (h : Live H id) : id < H.length := by
  obtain ⟨o, ho, _⟩ := h
  exact (List.getElem?_eq_some_iff.1 ho).1

def csz : Code → Nat
  | .seq a b => csz a + csz b + 1
  | .cond _ a b => csz a + csz b + 1
  | .block _ c => csz c + 1
  | .loop c => csz c + 1
  | _ => 1
theorem csz_pos (c : Code) : 0 < csz c := by cases c <;> simp [csz]

theorem runC_block {id : Nat} {c : Code} (h : ∀ b, c ≠ .loop b) (st : St) : runC Γ cf df lp (.block id c) st = inBlk id (runC Γ cf df lp c st) := by
  cases c <;> first | rfl | exact absurd rfl (h _)

def DrawKeep (df : DrawF) : Prop := ∀ ops st e st', df ops st = some (e, st') → KeepD st.hp st'.hp ∧ st.hp.length ≤ st'.hp.length
theorem iterN_keep {g : St → Option (Ex × St)} {nt : Nat} (hg : ∀ st e st', st.tm.length = nt → g st = some (e, st') → KeepD st.hp st'.hp ∧ st.hp.length ≤ st'.hp.length ∧ st'.tm.length = nt) : ∀ (k : Nat) {st st' : St} {e : Ex}, st.tm.length = nt → iterN g k st = some (e, st') →
    KeepD st.hp st'.hp ∧ st.hp.length ≤ st'.hp.length := by
  intro k
  induction k with
  | zero => intro st st' e _ h; simp [iterN] at h
  | succ k ih =>
    intro st st' e hl h
    simp only [iterN] at h
    split at h
    · rename_i st1 h1
      obtain ⟨a1, a2, a3⟩ := hg _ _ _ hl h1
      obtain ⟨b1, b2⟩ := ih a3 h
      exact ⟨a1.trans b1, Nat.le_trans a2 b2⟩
    · obtain ⟨a1, a2, _⟩ := hg _ _ _ hl h
      exact ⟨a1, a2⟩
theorem rfEnd_keep {m : Nat} {tm : List AV} {H : List Ob} {e : Ex} {st' : St} (h : rfEnd m tm H = some (e, st')) : KeepD H st'.hp ∧ H.length ≤ st'.hp.length := by
  unfold rfEnd at h
  split at h <;> first
    | (rename_i ho; simp only [Option.some.injEq, Prod.mk.injEq] at h; obtain ⟨_, rfl⟩ := h; exact ⟨.set ho (fun e => by cases e), by simp⟩)
    | simp at h
/-- marks stay; a heap gets no shorter -/
theorem runC_keep (hcf : CallSound Γ.P Inv cf) (hdk : DrawKeep df) (hdl : DrawLen df) {nt : Nat} : ∀ (m : Nat) (c : Code), csz c ≤ m → LoopsOk Γ cf df lp nt c → ∀ (st : St) (e : Ex) (st' : St), st.tm.length = nt → runC Γ cf df lp c st = some (e, st') →
    KeepD st.hp st'.hp ∧ st.hp.length ≤ st'.hp.length := by
  intro m
  induction m with
  | zero => intro c hc; have := csz_pos c; omega
  | succ m ih =>
    intro c hc hlp st e st' hlen h
    cases c with
    | skip => simp only [runC, Option.some.injEq, Prod.mk.injEq] at h; obtain ⟨_, rfl⟩ := h; exact ⟨.refl _, Nat.le_refl _⟩
    | exit id => simp only [runC, Option.some.injEq, Prod.mk.injEq] at h; obtain ⟨_, rfl⟩ := h; exact ⟨.refl _, Nat.le_refl _⟩
    | ret => simp only [runC, Option.some.injEq, Prod.mk.injEq] at h; obtain ⟨_, rfl⟩ := h; exact ⟨.refl _, Nat.le_refl _⟩
    | region id ops draw =>
      simp only [runC] at h
      have hh : (forgetSt (lp (1000000 + id)) st).hp = st.hp := by cases lp (1000000 + id) <;> rfl
      rw [← hh]
      split at h
      · exact hdk _ _ _ _ h
      · exact ⟨runIdx_keep hcf _ h, runIdx_len hcf _ h⟩
    | seq x y =>
      have hx : LoopsOk Γ cf df lp nt x := fun p hp => hlp p (by simp [loops, hp])
      have hy : LoopsOk Γ cf df lp nt y := fun p hp => hlp p (by simp [loops, hp])
      simp only [csz] at hc
      simp only [runC] at h
      split at h
      · rename_i st1 h1
        obtain ⟨a1, a2⟩ := ih x (by omega) hx st _ _ hlen h1
        obtain ⟨b1, b2⟩ := ih y (by omega) hy st1 _ _ (by rw [runC_length hdl x h1, hlen]) h
        exact ⟨a1.trans b1, Nat.le_trans a2 b2⟩
      · exact ih x (by omega) hx st _ _ hlen h
    | cond o x y =>
      have hx : LoopsOk Γ cf df lp nt x := fun p hp => hlp p (by simp [loops, hp])
      have hy : LoopsOk Γ cf df lp nt y := fun p hp => hlp p (by simp [loops, hp])
      simp only [csz] at hc
      simp only [runC] at h
      split at h
      · rename_i t ht
        cases t with
        | true => exact ih x (by omega) hx st _ _ hlen h
        | false => exact ih y (by omega) hy st _ _ hlen h
      · simp at h
    | block id c =>
      by_cases hl : ∃ b, c = .loop b
      · obtain ⟨body, rfl⟩ := hl
        have hlb : LoopsOk Γ cf df lp nt body := fun p hp => hlp p (by simp [loops, hp])
        simp only [csz] at hc
        simp only [runC] at h
        split at h
        · rename_i k hk
          obtain ⟨e0, he0⟩ := inBlk_length h
          exact iterN_keep (fun st e st' hl h => by
            obtain ⟨a1, a2⟩ := ih body (by omega) hlb st e st' hl h
            exact ⟨a1, a2, by rw [runC_length hdl body h, hl]⟩) k hlen he0
        · simp at h
        · rename_i keep f hk
          split at h
          · rename_i e0 vs0 H0 hf
            obtain ⟨_, _, μ, hsum⟩ := hlp (id, body) (by simp [loops]) keep f hk
            obtain ⟨e1, he1⟩ := inBlk_length h
            simp only [Option.some.injEq, Prod.mk.injEq] at he1
            obtain ⟨_, rfl⟩ := he1
            have key : ∀ (k : Nat) (vs : List AV) (H : List Ob), μ vs H ≤ k → vs.length = keep.length → f vs H = some (e0, vs0, H0) → KeepD H H0 ∧ H.length ≤ H0.length := by
              intro k
              induction k with
              | zero =>
                intro vs H hm hv hf1
                obtain ⟨e1, st1, vs1, H1, hrun, hcut, hres⟩ := hsum vs H _ hv hf1
                obtain ⟨a1, a2⟩ := ih body (by omega) hlb _ _ _ (by simp [mkF_length]) hrun
                have hl1 := cutBack_len hcut
                cases e1 with
                | normal => obtain ⟨_, hlt⟩ := hres; omega
                | exit i => simp only [Prod.mk.injEq] at hres; obtain ⟨rfl, rfl, rfl⟩ := hres; exact ⟨a1.trans (cutBack_keep hcut), by omega⟩
                | ret => simp only [Prod.mk.injEq] at hres; obtain ⟨rfl, rfl, rfl⟩ := hres; exact ⟨a1.trans (cutBack_keep hcut), by omega⟩
                | pan => simp only [Prod.mk.injEq] at hres; obtain ⟨rfl, rfl, rfl⟩ := hres; exact ⟨a1.trans (cutBack_keep hcut), by omega⟩
              | succ k ihk =>
                intro vs H hm hv hf1
                obtain ⟨e1, st1, vs1, H1, hrun, hcut, hres⟩ := hsum vs H _ hv hf1
                obtain ⟨a1, a2⟩ := ih body (by omega) hlb _ _ _ (by simp [mkF_length]) hrun
                have hl1 := cutBack_len hcut
                cases e1 with
                | normal =>
                  obtain ⟨hf2, hlt⟩ := hres
                  have hv1 : vs1.length = keep.length := by
                    unfold cutBack at hcut
                    split at hcut
                    · simp only [Option.some.injEq, Prod.mk.injEq] at hcut; obtain ⟨rfl, _⟩ := hcut; simp
                    · split at hcut
                      · simp only [Option.some.injEq, Prod.mk.injEq] at hcut; obtain ⟨rfl, _⟩ := hcut; simp
                      · simp at hcut
                  obtain ⟨b1, b2⟩ := ihk vs1 H1 (by omega) hv1 hf2
                  exact ⟨(a1.trans (cutBack_keep hcut)).trans b1, by omega⟩
                | exit i => simp only [Prod.mk.injEq] at hres; obtain ⟨rfl, rfl, rfl⟩ := hres; exact ⟨a1.trans (cutBack_keep hcut), by omega⟩
                | ret => simp only [Prod.mk.injEq] at hres; obtain ⟨rfl, rfl, rfl⟩ := hres; exact ⟨a1.trans (cutBack_keep hcut), by omega⟩
                | pan => simp only [Prod.mk.injEq] at hres; obtain ⟨rfl, rfl, rfl⟩ := hres; exact ⟨a1.trans (cutBack_keep hcut), by omega⟩
            exact key _ _ _ (Nat.le_refl _) (by simp) hf
          · simp at h
      · have hne : ∀ b, c ≠ .loop b := fun b e => hl ⟨b, e⟩
        have hlc : LoopsOk Γ cf df lp nt c := fun p hp => hlp p (by
          cases c <;> first | exact absurd rfl (hne _) | (simp only [loops] at hp ⊢; exact hp))
        simp only [csz] at hc
        rw [runC_block hne] at h
        obtain ⟨e0, he0⟩ := inBlk_length h
        exact ih c (by omega) hlc st _ _ hlen he0
    | rangeFunc g ps asg body =>
      simp only [runC] at h
      cases hr : inRnd lp with
      | true => simp [hr] at h
      | false =>
        simp only [hr, cond_false] at h
        split at h
        · rename_i gf cs hg
          cases hi : Γ.inl gf with
          | false => simp [hi] at h
          | true =>
            simp only [hi, cond_true] at h
            split at h
            · rename_i v H hc
              obtain ⟨a1, a2⟩ := rfEnd_keep h
              have hk := hcf.keep _ _ _ _ _ hc
              have hln := hcf.len _ _ _ _ _ hc
              simp only [List.length_append, List.length_cons, List.length_nil] at hln
              exact ⟨((KeepD.append _ _).trans hk).trans a1, by omega⟩
            · simp at h
        · simp at h
    | loop b => simp [runC] at h
    | scope x => simp [runC] at h
    | label l => simp [runC] at h
    | goto l => simp [runC] at h
    | refuse l => simp [runC] at h

theorem runC_sound (hΓ : Γ.Ok Inv) (hI : Stable Inv) (h0 : Inv w0) (hcf : CallSound Γ.P Inv cf) (hdf : DrawSound Γ.P Inv df) (hdl : DrawLen df) (hdk : DrawKeep df) (hrd : inRnd lp = false → r = none) {nt : Nat} : ∀ (m : Nat) (c : Code), csz c ≤ m → LoopsOk Γ cf df lp nt c →
    ∀ (st : St) (ρ : Nat → Nat) (A : Nat → Prop) (w : World) (a : Act) (e : Ex) (st' : St), Rel D w0 ρ A st a w → st.tm.length = nt → D.m0 ≤ st.hp.length → runC Γ cf df lp c st = some (e, st') →
      c.wpIn (Fr r) n Γ.P (Out D w0 ρ A w st.hp e st') a w := by
  intro m
  induction m with
  | zero => intro c hc; have := csz_pos c; omega
  | succ m ih =>
    intro c hc hlp st ρ A w a e st' hr hlen hm0 h
    cases c with
    | skip =>
      simp only [runC, Option.some.injEq, Prod.mk.injEq] at h
      obtain ⟨rfl, rfl⟩ := h
      exact wpIn_skip ⟨ρ, A, Ext.refl _ _ _ _, rfl, hr⟩
    | region id ops draw =>
      simp only [runC] at h
      have hr1 : Rel D w0 ρ A (forgetSt (lp (1000000 + id)) st) a w := by
        cases lp (1000000 + id) <;> first | exact hr | exact ⟨mkF_rel hr.tm rfl, hr.df, hr.mem⟩
      have hh : (forgetSt (lp (1000000 + id)) st).hp = st.hp := by cases lp (1000000 + id) <;> rfl
      rw [← hh]
      cases draw with
      | true => exact hdf ops _ e st' h D w0 ρ A w a r n id h0 hr1
      | false => exact wpIn_region (runIdx_sound hΓ hI h0 hcf _ _ ρ A w a _ hr1 h fun _ _ _ ho => ho)
    | seq x y =>
      have hx : LoopsOk Γ cf df lp nt x := fun p hp => hlp p (by simp [loops, hp])
      have hy : LoopsOk Γ cf df lp nt y := fun p hp => hlp p (by simp [loops, hp])
      simp only [csz] at hc
      simp only [runC] at h
      split at h
      · rename_i st1 h1
        refine wpIn_seq (wpIn_mono (ih x (by omega) hx st ρ A w a _ _ hr hlen hm0 h1) ?_)
        rintro x' a1 w1 ⟨ρ1, A1, hext, rfl, hr1⟩
        refine wpIn_mono (ih y (by omega) hy st1 ρ1 A1 w1 a1 _ _ hr1 (by rw [runC_length hdl x h1, hlen]) (Nat.le_trans hm0 (runC_keep hcf hdk hdl _ x (Nat.le_refl _) hx _ _ _ hlen h1).2) h) ?_
        exact fun _ _ _ ho => Out.from hext ho
      · rename_i hne
        refine wpIn_seq (wpIn_mono (ih x (by omega) hx st ρ A w a _ _ hr hlen hm0 h) ?_)
        intro x' a1 w1 ho
        cases e with
        | normal => exact absurd h (hne _)
        | exit i => obtain ⟨ρ1, A1, hext, rfl, hr1⟩ := ho; exact ⟨ρ1, A1, hext, rfl, hr1⟩
        | ret => obtain ⟨ρ1, A1, hext, rfl, hr1⟩ := ho; exact ⟨ρ1, A1, hext, rfl, hr1⟩
        | pan => obtain ⟨ρ1, A1, hext, t, v, rfl, hr1⟩ := ho; exact ⟨ρ1, A1, hext, t, v, rfl, hr1⟩
    | cond o x y =>
      have hx : LoopsOk Γ cf df lp nt x := fun p hp => hlp p (by simp [loops, hp])
      have hy : LoopsOk Γ cf df lp nt y := fun p hp => hlp p (by simp [loops, hp])
      simp only [csz] at hc
      simp only [runC] at h
      split at h
      · rename_i t ht
        have hb := opd_rv hr.tm o
        rw [ht] at hb
        refine wpIn_cond hb.of_bool ?_
        cases t with
        | true => exact ih x (by omega) hx st ρ A w a _ _ hr hlen hm0 h
        | false => exact ih y (by omega) hy st ρ A w a _ _ hr hlen hm0 h
      · simp at h
    | block id c =>
      by_cases hl : ∃ b, c = .loop b
      · obtain ⟨body, rfl⟩ := hl
        have hlb : LoopsOk Γ cf df lp nt body := fun p hp => hlp p (by simp [loops, hp])
        simp only [csz] at hc
        simp only [runC] at h
        refine wpIn_block ?_
        split at h
        · rename_i k hk
          obtain ⟨e0, he0⟩ := inBlk_length h
          refine wpIn_loop_ghost (fun j a' w' => ∃ st1 ρ1 A1, Rel D w0 ρ1 A1 st1 a' w' ∧ st1.tm.length = nt ∧ D.m0 ≤ st1.hp.length ∧ Ext (Live st.hp) ρ A w (Live st1.hp) ρ1 A1 w' ∧ iterN (runC Γ cf df lp body) j st1 = some (e0, st')) k
            ⟨st, ρ, A, hr, hlen, hm0, Ext.refl _ _ _ _, he0⟩ ?_
          rintro j a' w' ⟨st1, ρ1, A1, hr1, hl1, hm1, hext, hit⟩
          cases j with
          | zero => simp [iterN] at hit
          | succ j =>
            simp only [iterN] at hit
            split at hit
            · rename_i st2 h2
              refine wpIn_mono (ih body (by omega) hlb st1 ρ1 A1 w' a' _ _ hr1 hl1 hm1 h2) ?_
              rintro x' a2 w2 ⟨ρ2, A2, hext2, rfl, hr2⟩
              exact ⟨j, Nat.lt_succ_self j, st2, ρ2, A2, hr2, by rw [runC_length hdl body h2, hl1], Nat.le_trans hm1 (runC_keep hcf hdk hdl _ body (Nat.le_refl _) hlb _ _ _ hl1 h2).2, hext.trans hext2, hit⟩
            · rename_i hne
              refine wpIn_mono (ih body (by omega) hlb st1 ρ1 A1 w' a' _ _ hr1 hl1 hm1 hit) ?_
              intro x' a2 w2 ho
              have := inBlk_out he0 h (Out.from hext ho)
              cases e0 with
              | normal => exact absurd hit (hne _)
              | exit i => obtain ⟨ρ2, A2, hext2, rfl, hr2⟩ := ho; exact this
              | ret => obtain ⟨ρ2, A2, hext2, rfl, hr2⟩ := ho; exact this
              | pan => obtain ⟨ρ2, A2, hext2, t, v, rfl, hr2⟩ := ho; exact this
        · simp at h
        · rename_i keep f hk
          split at h
          · rename_i e0 vs0 H0 hf
            obtain ⟨_, _, μ, hsum⟩ := hlp (id, body) (by simp [loops]) keep f hk
            have hstart : Rel D w0 ρ A ⟨mkF nt keep (keep.map (getT st.tm)), st.hp⟩ a w := ⟨by rw [← hlen]; exact mkF_rel hr.tm rfl, hr.df, hr.mem⟩
            rw [hlen] at h
            refine wpIn_loop_ghost (fun j a' w' => ∃ vs H ρ1 A1, f vs H = some (e0, vs0, H0) ∧ μ vs H = j ∧ vs.length = keep.length ∧ H.length = st.hp.length ∧ Rel D w0 ρ1 A1 ⟨mkF nt keep vs, H⟩ a' w' ∧
              Ext (Live st.hp) ρ A w (Live H) ρ1 A1 w') (μ (keep.map (getT st.tm)) st.hp) ⟨_, _, ρ, A, hf, rfl, by simp, rfl, hstart, Ext.refl _ _ _ _⟩ ?_
            rintro j a' w' ⟨vs, H, ρ1, A1, hf1, hμ, hvl, hHl, hr1, hext⟩
            obtain ⟨e1, st1, vs1, H1, hrun, hcut, hres⟩ := hsum vs H _ hvl hf1
            have hl1 : st1.tm.length = nt := by rw [runC_length hdl body hrun]; simp [mkF_length]
            refine wpIn_mono (ih body (by omega) hlb ⟨mkF nt keep vs, H⟩ ρ1 A1 w' a' _ _ hr1 (by simp [mkF_length]) (by simp only; omega) hrun) ?_
            intro x' a2 w2 ho
            obtain ⟨ρ2, A2, hext2, ho2⟩ := ho
            have hcutExt : ∀ (hm : Mem w0 ρ2 A2 w2 st1.hp), Mem w0 ρ2 A2 w2 H1 ∧ Ext (Live st.hp) ρ A w (Live H1) ρ2 A2 w2 := by
              intro hm
              obtain ⟨hm1, hlv⟩ := cutBack_mem hm hcut
              refine ⟨hm1, hext.trans ⟨fun id hi => hlv id (hext2.ids id hi) (live_lt hi), hext2.nam, hext2.imm, hext2.keep, hext2.late, hext2.size⟩⟩
            cases e1 with
            | normal =>
              obtain ⟨rfl, hr2⟩ := ho2
              obtain ⟨hf2, hlt⟩ := hres
              obtain ⟨hr3, _, hH3, hv3⟩ := cutBack_rel hr2 hcut
              rw [hl1] at hr3
              obtain ⟨_, hx⟩ := hcutExt hr2.mem
              exact ⟨_, hμ ▸ hlt, vs1, H1, ρ2, A2, hf2, rfl, hv3, by rw [hH3]; exact hHl, hr3, hx⟩
            | exit i =>
              obtain ⟨rfl, hr2⟩ := ho2
              simp only [Prod.mk.injEq] at hres
              obtain ⟨rfl, rfl, rfl⟩ := hres
              obtain ⟨hr3, _, hH3, hv3⟩ := cutBack_rel hr2 hcut
              rw [hl1] at hr3
              obtain ⟨_, hx⟩ := hcutExt hr2.mem
              exact inBlk_out (e0 := .exit i) rfl h ⟨ρ2, A2, hx, rfl, hr3⟩
            | ret =>
              obtain ⟨rfl, hr2⟩ := ho2
              simp only [Prod.mk.injEq] at hres
              obtain ⟨rfl, rfl, rfl⟩ := hres
              obtain ⟨hr3, _, hH3, hv3⟩ := cutBack_rel hr2 hcut
              rw [hl1] at hr3
              obtain ⟨_, hx⟩ := hcutExt hr2.mem
              exact inBlk_out (e0 := .ret) rfl h ⟨ρ2, A2, hx, rfl, hr3⟩
            | pan =>
              obtain ⟨t, v, rfl, hr2⟩ := ho2
              simp only [Prod.mk.injEq] at hres
              obtain ⟨rfl, rfl, rfl⟩ := hres
              obtain ⟨hr3, _, hH3, hv3⟩ := cutBack_rel hr2 hcut
              rw [hl1] at hr3
              obtain ⟨_, hx⟩ := hcutExt hr2.mem
              exact inBlk_out (e0 := .pan) rfl h ⟨ρ2, A2, hx, t, v, rfl, hr3⟩
          · simp at h
      · have hne : ∀ b, c ≠ .loop b := fun b e => hl ⟨b, e⟩
        have hlc : LoopsOk Γ cf df lp nt c := fun p hp => hlp p (by
          cases c <;> first | exact absurd rfl (hne _) | (simp only [loops] at hp ⊢; exact hp))
        simp only [csz] at hc
        rw [runC_block hne] at h
        obtain ⟨e0, he0⟩ := inBlk_length h
        refine wpIn_block (wpIn_mono (ih c (by omega) hlc st ρ A w a _ _ hr hlen hm0 he0) ?_)
        intro x' a1 w1 ho
        exact inBlk_out he0 h ho
    | exit id =>
      simp only [runC, Option.some.injEq, Prod.mk.injEq] at h
      obtain ⟨rfl, rfl⟩ := h
      exact wpIn_exit ⟨ρ, A, Ext.refl _ _ _ _, rfl, hr⟩
    | ret =>
      simp only [runC, Option.some.injEq, Prod.mk.injEq] at h
      obtain ⟨rfl, rfl⟩ := h
      exact wpIn_ret ⟨ρ, A, Ext.refl _ _ _ _, rfl, hr⟩
    | loop b => simp [runC] at h
    | rangeFunc g ps asg body =>
      simp only [runC] at h
      cases hri : inRnd lp with
      | true => simp [hri] at h
      | false =>
      have hrn := hrd hri
      subst hrn
      simp only [hri, cond_false] at h
      split at h
      case h_2 => simp at h
      rename_i gf cs hg
      cases hi : Γ.inl gf with
      | false => simp [hi] at h
      | true =>
      simp only [hi, cond_true] at h
      split at h
      case h_2 => simp at h
      rename_i v H hc
      have hgv := opd_rv hr.tm g
      rw [hg] at hgv
      obtain ⟨us, hus, hurv⟩ := hgv.of_fn
      obtain ⟨fnb, hb1, hb2, hb3⟩ := hΓ.body gf (.inr hi)
      refine wpIn_rangeFunc fun fn _ => ?_
      -- the two blocks laid
      obtain ⟨m1, x1⟩ := hr.mem.new (o := .dfr) rfl (x := .deferred (some [])) rfl (fresh := st.hp.length) (H' := st.hp ++ [.dfr]) (by rintro ⟨o, ho, _⟩; simp at ho) (by simp)
        (fun i hne => by
          rcases Nat.lt_or_ge i st.hp.length with h' | h'
          · exact List.getElem?_append_left h'
          · rw [List.getElem?_eq_none h', List.getElem?_eq_none (by simp; omega)])
      obtain ⟨m2, x2⟩ := m1.new (o := .loop st.tm ps asg body st.hp.length .ready) rfl
        (x := .loop { state := .ready, pending := none, fn := fn, tmps := a.tmps.toList.toArray, params := ps, assign := asg, body := body, defers := w.heap.size })
        ⟨⟨.dfr, by simp, rfl⟩, fn, a.tmps.toList, by simp [LS.state, LS.pending], x1.rvs hr.tm⟩ (fresh := st.hp.length + 1) (H' := st.hp ++ [.dfr, .loop st.tm ps asg body st.hp.length .ready])
        (by rintro ⟨o, ho, _⟩; simp at ho) (by simp) (fun i hne => by
          rcases Nat.lt_or_ge i (st.hp.length + 1) with h' | h'
          · rw [show st.hp ++ [.dfr, .loop st.tm ps asg body st.hp.length .ready] = (st.hp ++ [.dfr]) ++ [.loop st.tm ps asg body st.hp.length .ready] by simp]
            exact List.getElem?_append_left (by simpa using h')
          · rw [List.getElem?_eq_none (by simp; omega), List.getElem?_eq_none (by simp; omega)])
      have hsz : (w.alloc (.deferred (some []))).heap.size = w.heap.size + 1 := by simp
      generalize hW2 : (w.alloc (.deferred (some []))).alloc (.loop { state := .ready, pending := none, fn := fn, tmps := a.tmps.toList.toArray, params := ps, assign := asg, body := body, defers := w.heap.size }) = W2 at *
      generalize hρ2 : (fun i => if i = st.hp.length + 1 then (w.alloc (.deferred (some []))).heap.size else if i = st.hp.length then w.heap.size else ρ i) = ρ2 at *
      have hρl : ρ2 (st.hp.length + 1) = w.heap.size + 1 := by rw [← hρ2]; simp
      have hρd : ρ2 st.hp.length = w.heap.size := by rw [← hρ2]; simp
      have hlive1 : Live (st.hp ++ [.dfr, .loop st.tm ps asg body st.hp.length .ready]) (st.hp.length + 1) := ⟨.loop st.tm ps asg body st.hp.length .ready, by simp, rfl⟩
      have hliveD : (st.hp ++ [.dfr, .loop st.tm ps asg body st.hp.length .ready])[st.hp.length]? = some .dfr := by simp
      have hargs : Rvs ρ2 A W2 (Live (st.hp ++ [.dfr, .loop st.tm ps asg body st.hp.length .ready])) (.yld (st.hp.length + 1) :: cs) (.func (.yield (w.heap.size + 1)) #[] #[] :: us) :=
        .cons (by rw [← hρl]; exact .yld hlive1) (x2.rvs (x1.rvs hurv))
      have hcall := hcf.fn gf _ _ _ H hc w0 ρ2 A W2 _ h0 m2 hargs
      refine ⟨w.heap.size + 1, [{ target := .collected w.heap.size, args := #[] }], W2, { target := .fn (.func gf) us.toArray, args := #[.func (.yield (w.heap.size + 1)) #[] #[]] }, W2, gf, (.func (.yield (w.heap.size + 1)) #[] #[] :: us).toArray, W2, ?_, ?_, ?_, ?_, ?_, ?_⟩
      · rw [← hW2]
        have := run_enterLoop_outer (P := Γ.P) (w := w) fn a.tmps ps asg body
        simpa using this
      · simp only [resolve, hus]
        simp [Act.eval, Deferred.ofValue]
      · intro f' _; trivial
      · simp only [invoke]
        have : (#[Value.func (.yield (w.heap.size + 1)) #[] #[]] ++ us.toArray) = (.func (.yield (w.heap.size + 1)) #[] #[] :: us).toArray := by simp
        rw [this]
        exact callFunc_enter hb1 hb2 hb3 _ _
      · intro h; simp [Fence.wide] at h
      · rw [callsIn_fr]
        refine hcall.mono ?_
        rintro e' w3 ⟨ρ3, A3, m3, x3, u, rfl, hu⟩
        have hkd := hcf.keep _ _ _ _ _ hc
        -- behind the function
        have fin : ∀ (t : List AV) (ps' : Array Tmp) (asg' body' : Code) (blk : Nat) (s0 : LS), H[st.hp.length + 1]? = some (.loop t ps' asg' body' blk s0) → s0.state ≠ .busy →
            ∃ w4, (Instr.endLoop (w.heap.size + 1)).run Γ.P w3 = .ok s0.pending w4 ∧
              ∃ ρ4 A4, Ext (Live st.hp) ρ A w (Live (H.set (st.hp.length + 1) (.loop t ps' asg' body' blk (.over s0.pending)))) ρ4 A4 w4 ∧
                Rel D w0 ρ4 A4 ⟨st.tm, H.set (st.hp.length + 1) (.loop t ps' asg' body' blk (.over s0.pending))⟩ { a with defers := [{ target := .collected w.heap.size, args := #[] }] ++ a.defers } w4 := by
          intro t ps' asg' body' blk s0 hl hnb
          obtain ⟨k1, k2, x, k3, hblk, fn', vs', rfl, hvs'⟩ := m3.hp.obj _ _ hl rfl
          have hρ3 : ρ3 (st.hp.length + 1) = w.heap.size + 1 := (x3.nam _ hlive1).trans hρl
          have k3' := k3
          rw [hρ3] at k3'
          have hend := run_endLoop (P := Γ.P) k3' hnb
          refine ⟨_, hend, ?_⟩
          have hput := putO_of (w := w3) (b := ρ3 (st.hp.length + 1)) (x := .loop { state := .exhausted, pending := s0.pending, fn := fn', tmps := vs'.toArray, params := ps', assign := asg', body := body', defers := ρ3 blk }) k3
          obtain ⟨m4, x4⟩ := m3.upd hl rfl (o' := .loop t ps' asg' body' blk (.over s0.pending)) rfl hput ⟨hblk, fn', vs', rfl, hvs'⟩
          rw [hρ3] at m4 x4
          have hall := ((x1.trans x2).trans x3).trans x4
          refine ⟨ρ3, A3, hall, hall.rvs hr.tm, ?_, m4⟩
          have hdn : (H.set (st.hp.length + 1) (.loop t ps' asg' body' blk (.over s0.pending)))[st.hp.length]? = some .dfr := by
            rw [get_set_eq hl, if_neg (by omega)]
            exact hkd _ hliveD
          have hρd3 : ρ3 st.hp.length = w.heap.size := (x3.nam _ ⟨_, hliveD, rfl⟩).trans hρd
          obtain ⟨ids, hds, hnd, hids⟩ := hr.df
          refine ⟨st.hp.length :: ids, ?_, ?_, ?_⟩
          · simp only [List.map_cons, hρd3, List.cons_append, List.nil_append, List.cons.injEq, true_and]
            rw [hds]
            congr 1
            exact List.map_congr_left fun id hid => by rw [hall.nam id ⟨_, (hids id hid).1, rfl⟩]
          · rw [List.nodup_cons]
            refine ⟨fun hm => ?_, hnd⟩
            have := (hids _ hm).1
            simp at this
          · intro id hid
            rcases List.mem_cons.1 hid with rfl | hid
            · exact ⟨hdn, hm0⟩
            · refine ⟨?_, (hids id hid).2⟩
              have h1 : (st.hp ++ [.dfr, .loop st.tm ps asg body st.hp.length .ready])[id]? = some .dfr := KeepD.append _ _ id (hids id hid).1
              have h2 := hkd id h1
              have hne : id ≠ st.hp.length + 1 := fun e => by rw [e, hl] at h2; cases h2
              rw [get_set_eq hl, if_neg hne]; exact h2
        show ∃ jump w4, _ ∧ _
        unfold rfEnd at h
        split at h
        · rename_i t ps' asg' body' blk hl
          simp only [Option.some.injEq, Prod.mk.injEq] at h
          obtain ⟨rfl, rfl⟩ := h
          obtain ⟨w4, hend, ρ4, A4, hx, hrel⟩ := fin _ _ _ _ _ _ hl (by simp [LS.state])
          exact ⟨none, w4, hend, ρ4, A4, hx, rfl, hrel⟩
        · rename_i t ps' asg' body' blk hl
          simp only [Option.some.injEq, Prod.mk.injEq] at h
          obtain ⟨rfl, rfl⟩ := h
          obtain ⟨w4, hend, ρ4, A4, hx, hrel⟩ := fin _ _ _ _ _ _ hl (by simp [LS.state])
          exact ⟨some .ret, w4, hend, wpIn_ret ⟨ρ4, A4, hx, rfl, hrel⟩⟩
        · rename_i t ps' asg' body' blk i hl
          simp only [Option.some.injEq, Prod.mk.injEq] at h
          obtain ⟨rfl, rfl⟩ := h
          obtain ⟨w4, hend, ρ4, A4, hx, hrel⟩ := fin _ _ _ _ _ _ hl (by simp [LS.state])
          exact ⟨some (.exit i), w4, hend, wpIn_exit ⟨ρ4, A4, hx, rfl, hrel⟩⟩
        · simp at h
    | scope x => simp [runC] at h
    | label l => simp [runC] at h
    | goto l => simp [runC] at h
    | refuse l => simp [runC] at h
end
end Go.Evl

/- The evaluator is right about functions: a contract out of a run. Conditions: the contracts of what is called hold. -/
namespace Go.Evl
open Go.RowKit

section
variable {D : Dx} {Γ : Cx} {Inv : World → Prop} {cf : CallF} {df : DrawF} {lp : Nat → LK} {w0 : World}

theorem resultA_run {ρ : Nat → Nat} {A : Nat → Prop} {w : World} {st : St} {a : Act} (htm : Rvs ρ A w (Live st.hp) st.tm a.tmps.toList) (hmem : Mem w0 ρ A w st.hp) {v : ResultVar} {x : AV} (h : resultA Γ.P st v = some x) :
    ∃ u, ((match v with | .tmp t => pure (a.tmps.getD t undef) | .cell b t => do loadVar t (← asAddr (a.tmps.getD b undef))) : Sem Value).run Γ.P w = .ok u w ∧ Rv ρ A w (Live st.hp) x u := by
  cases v with
  | tmp t =>
    simp only [resultA, Option.some.injEq] at h
    subst h
    exact ⟨_, rfl, by have := opd_rv htm (.tmp t); simpa [opd, Act.eval] using this⟩
  | cell b t =>
    simp only [resultA] at h
    have hb := opd_rv htm (.tmp b)
    simp only [opd, Act.eval] at hb
    split at h
    · rename_i id off hx
      rw [hx] at hb
      obtain ⟨hb, hid⟩ := hb.of_ptr
      split at h
      · rename_i k hg hk
        obtain ⟨⟨y, H⟩, hy, rfl⟩ := Option.map_eq_some_iff.1 h
        simp only [doPlan] at hy
        split at hy
        · rename_i cs ct ho
          split at hy
          · rename_i hle
            simp only [Nat.ble_eq] at hle
            simp only [if_true, Option.some.injEq, Prod.mk.injEq] at hy
            obtain ⟨rfl, rfl⟩ := hy
            obtain ⟨us, hl, hcell, hrv⟩ := hmem.get ho hle
            have := run_loadVar (P := Γ.P) (us := us) hg (by rw [hl]; exact hk) (by simp) hcell
            simp only [if_true] at this
            exact ⟨.agg us.toArray, by simp [hb, asAddr, this], .agg hrv.1 hrv.2⟩
          · simp at hy
        · simp at hy
      · rename_i hg hk
        obtain ⟨⟨y, H⟩, hy, rfl⟩ := Option.map_eq_some_iff.1 h
        simp only [doPlan] at hy
        split at hy
        · rename_i cs ct ho
          split at hy
          · rename_i hle
            simp only [Nat.ble_eq] at hle
            simp only [Bool.false_eq_true, if_false] at hy
            obtain ⟨c, hc, h2⟩ := Option.map_eq_some_iff.1 hy
            simp only [Prod.mk.injEq] at h2
            obtain ⟨rfl, rfl⟩ := h2
            obtain ⟨us, hl, hcell, hrv⟩ := hmem.get ho hle
            have := run_loadVar (P := Γ.P) (us := us) hg (by rw [hl]; exact hk) (fun _ => hl) hcell
            simp only [Bool.false_eq_true, if_false] at this
            match us, hl with
            | [u], _ =>
              have hc' : ((cs.drop off).take 1)[0]? = some c := by rw [← hc]; simp [List.getElem?_drop]
              obtain ⟨u', hu', hrv'⟩ := hrv.get hc'
              simp only [List.getElem?_cons_zero, Option.some.injEq] at hu'
              subst hu'
              exact ⟨u, by simp [hb, asAddr, this], hrv'⟩
          · simp at hy
        · simp at hy
      · simp at h
    · simp at h

theorem resultsA_run {ρ : Nat → Nat} {A : Nat → Prop} {w : World} {st : St} {a : Act} (htm : Rvs ρ A w (Live st.hp) st.tm a.tmps.toList) (hmem : Mem w0 ρ A w st.hp) : ∀ (l : List ResultVar) {xs : List AV}, resultsA Γ.P st l = some xs →
    ∃ us, (l.mapM fun v => (match v with | .tmp t => pure (a.tmps.getD t undef) | .cell b t => do loadVar t (← asAddr (a.tmps.getD b undef)) : Sem Value)).run Γ.P w = .ok us w ∧ Rvs ρ A w (Live st.hp) xs us := by
  intro l
  induction l with
  | nil => intro xs h; simp only [resultsA, Option.some.injEq] at h; subst h; exact ⟨[], by simp, .nil⟩
  | cons v l ih =>
    intro xs h
    simp only [resultsA] at h
    split at h
    · rename_i y ys hy hys
      simp only [Option.some.injEq] at h
      subst h
      obtain ⟨u, hu, hru⟩ := resultA_run htm hmem hy
      obtain ⟨us, hus, hrus⟩ := ih hys
      refine ⟨u :: us, ?_, .cons hru hrus⟩
      simp only [List.mapM_cons, Sem.run_bind, hu, Result.andThen_ok, hus, Sem.run_pure]
    · simp at h

theorem results_run {ρ : Nat → Nat} {A : Nat → Prop} {w : World} {st : St} {a : Act} (htm : Rvs ρ A w (Live st.hp) st.tm a.tmps.toList) (hmem : Mem w0 ρ A w st.hp) {fn : Func} {xs : List AV} (h : resultsA Γ.P st fn.results.toList = some xs) :
    ∃ u, (results fn a.tmps).run Γ.P w = .ok u w ∧ Rv ρ A w (Live st.hp) (packA xs) u := by
  obtain ⟨us, hus, hrus⟩ := resultsA_run htm hmem _ h
  have hrun : (results fn a.tmps).run Γ.P w = .ok (if h : us.toArray.size = 1 then us.toArray[0] else .tuple us.toArray) w := by
    have e : (results fn a.tmps).run Γ.P w = (((fn.results.toList.mapM fun v => (match v with | .tmp t => pure (a.tmps.getD t undef) | .cell b t => do loadVar t (← asAddr (a.tmps.getD b undef)) : Sem Value)).run Γ.P w).andThen
        fun a w' => .ok a.toArray w').andThen fun vs w' => .ok (if h : vs.size = 1 then vs[0] else .tuple vs) w' := by
      unfold results
      simp only [Array.mapM_eq_mapM_toList, Sem.run_bind, Sem.run_map, Sem.run_pure]
      rfl
    rw [e, hus]
    rfl
  refine ⟨_, hrun, ?_⟩
  have hl := hrus.1
  match xs, us, hrus, hl with
  | [], [], hrus, _ => exact .tup hrus.1 hrus.2
  | [x], [u], hrus, _ => exact hrus.2 0 (by simp) (by simp)
  | x :: y :: xs, u :: v :: us, hrus, _ => simpa [packA] using Rv.tup hrus.1 hrus.2
  | [], _ :: _, _, hl => simp at hl
  | _ :: _, [], _, hl => simp at hl
  | [_], _ :: _ :: _, _, hl => simp at hl
  | _ :: _ :: _, [_], _, hl => simp at hl

theorem freeD_get (m : Nat) (H : List Ob) (i : Nat) : (freeD m H)[i]? = H[i]? ∨ ((freeD m H)[i]? = some .dfx ∧ H[i]? = some .dfr ∧ m ≤ i) := by
  unfold freeD
  cases hn : noDfr m H with
  | true => left; rfl
  | false =>
    simp only [cond_false]
    rcases Nat.lt_or_ge i m with h' | h'
    · left
      rcases Nat.lt_or_ge i (H.take m).length with h2 | h2
      · rw [List.getElem?_append_left h2, List.getElem?_take, if_pos h']
      · have hl : H.length ≤ i := by simp at h2; omega
        rw [List.getElem?_eq_none (by simp; omega), List.getElem?_eq_none hl]
    · rcases Nat.lt_or_ge i H.length with h2 | h2
      · have hl : (H.take m).length = m := by simp; omega
        rw [List.getElem?_append_right (by omega), hl, List.getElem?_map, List.getElem?_drop, show m + (i - m) = i by omega, List.getElem?_eq_getElem h2]
        simp only [Option.map_some]
        cases hd : isDfr H[i] with
        | false => left; rfl
        | true =>
          right
          refine ⟨rfl, ?_, h'⟩
          congr 1
          cases ho : H[i] <;> simp [ho, isDfr] at hd
          rfl
      · left
        rw [List.getElem?_eq_none (by simp; omega), List.getElem?_eq_none h2]
theorem freeD_live (m : Nat) (H : List Ob) (i : Nat) : Live (freeD m H) i ↔ Live H i := by
  unfold Live
  rcases freeD_get m H i with h | ⟨h1, h2, _⟩
  · rw [h]
  · rw [h1, h2]
    constructor
    · rintro _; exact ⟨_, rfl, rfl⟩
    · rintro _; exact ⟨_, rfl, rfl⟩
theorem freeD_len (m : Nat) (H : List Ob) : (freeD m H).length = H.length := by
  unfold freeD
  cases noDfr m H with
  | true => rfl
  | false => simp; omega
theorem Mem.free {ρ : Nat → Nat} {A : Nat → Prop} {w : World} {H : List Ob} (h : Mem w0 ρ A w H) (m : Nat) : Mem w0 ρ A w (freeD m H) := by
  refine ⟨⟨fun i o ho hl => ?_, fun i j hi hj => h.hp.inj i j ((freeD_live m H i).1 hi) ((freeD_live m H j).1 hj)⟩, h.bel, h.lt⟩
  have hlv : ∀ id, Live H id → Live (freeD m H) id := fun id => (freeD_live m H id).2
  rcases freeD_get m H i with h1 | ⟨h1, h2, _⟩
  · rw [h1] at ho
    obtain ⟨k1, k2, x, k3, k4⟩ := h.hp.obj i o ho hl
    exact ⟨k1, k2, x, k3, k4.mono hlv (fun _ _ => rfl) (fun _ h => h) (fun _ _ => rfl)⟩
  · rw [h1] at ho
    cases ho
    obtain ⟨k1, k2, x, k3, _⟩ := h.hp.obj i _ h2 rfl
    exact ⟨k1, k2, x, k3, trivial⟩
theorem freeD_mask {m : Nat} {H : List Ob} {id : Nat} (h : H[id]? = some .dfr) (hm : m ≤ id) : (freeD m H)[id]? = some .dfx := by
  unfold freeD
  have hlt := (List.getElem?_eq_some_iff.1 h).1
  have hn : noDfr m H = false := by
    unfold noDfr
    rw [List.all_eq_false]
    refine ⟨.dfr, ?_, by simp [isDfr]⟩
    have : (H.drop m)[id - m]? = some .dfr := by rw [List.getElem?_drop, show m + (id - m) = id by omega]; exact h
    exact List.mem_of_getElem? this
  rw [hn]
  simp only [cond_false]
  have hl : (H.take m).length = m := by simp; omega
  rw [List.getElem?_append_right (by omega), hl, List.getElem?_map, List.getElem?_drop, show m + (id - m) = id by omega, h]
  rfl
/-- the marks are come to one by one -/
theorem leaves_marks {n : Nat} {P : Program} {fn : Func} {tmps : Array Value} {R : Ending → World → Prop} {u : FrameMode} (hu : u ≠ .run) {ρ : Nat → Nat} {A : Nat → Prop} {H : List Ob} : ∀ (ids : List Nat) (w : World), Mem w0 ρ A w H →
    ids.Nodup → (∀ id ∈ ids, H[id]? = some .dfx ∧ w.heap[ρ id]? = some (.deferred (some []))) →
    (∀ w', Mem w0 ρ A w' H → Ext (Live H) ρ A w (Live H) ρ A w' → LeavesIn (Fr none) n P fn tmps R [] u w') →
    LeavesInM (Fr none) n P fn tmps R (ids.map fun id => ({ target := .collected (ρ id), args := #[] } : Deferred)) u w := by
  intro ids
  induction ids with
  | nil => intro w hm _ _ hK; exact hK w hm (Ext.refl _ _ _ _)
  | cons id ids ih =>
    intro w hm hnd hid hK
    rw [List.nodup_cons] at hnd
    obtain ⟨h1, h2⟩ := hid id (by simp)
    refine ⟨hu, .inl ⟨ρ id, _, rfl, run_takeDeferred h2, ?_⟩⟩
    have hput := putO_of (w := w) (b := ρ id) (x := .deferred none) h2
    obtain ⟨m1, x1⟩ := hm.upd h1 rfl (o' := .dfx) rfl hput trivial
    have hset : H.set id .dfx = H := by
      apply List.ext_getElem?
      intro i
      rw [get_set_eq h1]
      by_cases e : i = id
      · subst e; rw [if_pos rfl, h1]
      · rw [if_neg e]
    rw [hset] at m1 x1
    refine ih _ m1 hnd.2 (fun j hj => ?_) (fun w' hm' hx => hK w' hm' (x1.trans hx))
    obtain ⟨k1, k2⟩ := hid j (by simp [hj])
    have hne : ρ j ≠ ρ id := fun e => by
      have : j = id := hm.hp.inj j id ⟨_, k1, rfl⟩ ⟨_, h1, rfl⟩ e
      subst this; exact hnd.1 hj
    exact ⟨k1, by rw [hput.other _ hne]; exact k2⟩
theorem leaves_of {n : Nat} {P : Program} {fn : Func} {R : Ending → World → Prop} {u : FrameMode} (hu : u ≠ .run) {m : Nat} {ρ : Nat → Nat} {A : Nat → Prop} {w : World} {st : St} {a : Act} (hr : Rel ⟨[], m⟩ w0 ρ A st a w)
    (hK : ∀ w', Mem w0 ρ A w' (freeD m st.hp) → Ext (Live st.hp) ρ A w (Live (freeD m st.hp)) ρ A w' → LeavesIn (Fr none) n P fn a.tmps R [] u w') : LeavesInM (Fr none) n P fn a.tmps R a.defers u w := by
  obtain ⟨ids, hds, hnd, hids⟩ := hr.df
  rw [hds, List.append_nil]
  have hx0 : Ext (Live st.hp) ρ A w (Live (freeD m st.hp)) ρ A w := ⟨fun id h => (freeD_live m _ id).2 h, fun _ _ => rfl, fun _ h => h, fun _ _ => rfl, fun _ h => .inl h, Nat.le_refl _⟩
  refine leaves_marks hu ids w (hr.mem.free m) hnd (fun id hid => ?_) (fun w' hm' hx => hK w' hm' (hx0.trans hx))
  obtain ⟨h1, h2⟩ := hids id hid
  constructor
  · rcases freeD_get m st.hp id with h | ⟨h, _, _⟩
    · exfalso
      rw [h1] at h
      -- a mark of one's own is masked
      have hmask := freeD_mask (m := m) h1 h2
      rw [hmask] at h; cases h
    · exact h
  · obtain ⟨_, _, x, h3, rfl⟩ := hr.mem.hp.obj id _ h1 rfl
    exact h3

theorem runFn_sound (hΓ : Γ.Ok Inv) (hI : Stable Inv) (h0 : Inv w0) (hcf : CallSound Γ.P Inv cf) (hdf : DrawSound Γ.P Inv df) (hdl : DrawLen df) (hdk : DrawKeep df) {f : FuncId} {fn : Func} (hfn : Γ.P.funcs[f]? = some fn)
    {c : Code} (hb : fn.body = some c) (hlp : LoopsOk Γ cf df lp fn.ntmps c) {args : List AV} {H : List Ob} {q : Res} {H' : List Ob} (hargs : args.length ≤ fn.ntmps)
    (h : runFn Γ cf df lp fn args H = some (q, H')) {ρ : Nat → Nat} {A : Nat → Prop} {w : World} {vs : List Value} (hm : Mem w0 ρ A w H) (hv : Rvs ρ A w (Live H) args vs) :
    Calls Γ.P f vs.toArray w (EndRel w0 ρ A w H q H') := by
  rw [← callsIn_fr (r := none) (n := 0)]
  simp only [runFn, hb] at h
  have hlen : vs.length = args.length := hv.1.symm
  have hrel : Rel ⟨[], H.length⟩ w0 ρ A ⟨frame0 fn args, H⟩ { tmps := vs.toArray ++ Array.replicate (fn.ntmps - vs.toArray.size) undef, defers := [] } w := by
    refine ⟨?_, ⟨[], rfl, .nil, fun _ h => by cases h⟩, hm⟩
    have : (vs.toArray ++ Array.replicate (fn.ntmps - vs.toArray.size) undef).toList = vs ++ List.replicate (fn.ntmps - args.length) undef := by simp [hlen]
    rw [this]
    exact hv.append (.replicate .raw _)
  have hl0 : (frame0 fn args).length = fn.ntmps := by simp [frame0]; omega
  refine callsIn_of_wp_marks hfn hb trivial ?_ rfl
  cases hrun : runC Γ cf df lp c ⟨frame0 fn args, H⟩ with
  | none => simp [hrun, leaveA] at h
  | some es =>
    obtain ⟨e, st⟩ := es
    rw [hrun] at h
    refine wpIn_mono (runC_sound hΓ hI h0 hcf hdf hdl hdk (fun _ => rfl) _ c (Nat.le_refl _) hlp _ ρ A w _ e st hrel hl0 (Nat.le_refl _) hrun) ?_
    intro x a' w' ho
    obtain ⟨ρ', A', hext, ho⟩ := ho
    have fin : ∀ {xs : List AV}, Rel ⟨[], H.length⟩ w0 ρ' A' st a' w' → resultsA Γ.P ⟨st.tm, freeD H.length st.hp⟩ fn.results.toList = some xs →
        LeavesInM (Fr none) 0 Γ.P fn a'.tmps (EndRel w0 ρ A w H (.ret (packA xs)) (freeD H.length st.hp)) a'.defers .returning w' := by
      intro xs hr hxs
      refine leaves_of (fun h => by cases h) hr fun w2 hm2 hx2 => ?_
      obtain ⟨u, hu, hru⟩ := results_run (st := ⟨st.tm, freeD H.length st.hp⟩) (a := a') (hx2.rvs hr.tm) hm2 hxs
      exact ⟨u, hu, ρ', A', hm2, hext.trans hx2, u, rfl, hru⟩
    cases e with
    | exit id => simp [leaveA] at h
    | pan =>
      simp only [leaveA, Option.some.injEq, Prod.mk.injEq] at h
      obtain ⟨rfl, rfl⟩ := h
      obtain ⟨t, v, rfl, hr'⟩ := ho
      refine leaves_of (fun h => by cases h) hr' fun w2 hm2 hx2 => ?_
      exact ⟨ρ', A', hm2, hext.trans hx2, t, v, rfl⟩
    | normal =>
      simp only [leaveA] at h
      obtain ⟨xs, hxs, h2⟩ := Option.map_eq_some_iff.1 h
      simp only [Prod.mk.injEq] at h2
      obtain ⟨rfl, rfl⟩ := h2
      obtain ⟨rfl, hr⟩ := ho
      exact fin hr hxs
    | ret =>
      simp only [leaveA] at h
      obtain ⟨xs, hxs, h2⟩ := Option.map_eq_some_iff.1 h
      simp only [Prod.mk.injEq] at h2
      obtain ⟨rfl, rfl⟩ := h2
      obtain ⟨rfl, hr⟩ := ho
      exact fin hr hxs

/-- what a contract says -/
def SpecHolds (P : Program) (Inv : World → Prop) (f : FuncId) (s : List AV → Option Res) : Prop :=
  ∀ args r, s args = some r → ∀ ρ A w vs, (∀ b, A b → b < w.heap.size) → Inv w → Rvs ρ A w None_ args vs →
    Calls P f vs.toArray w fun e w' => Below w.heap.size w w' ∧ match r with
      | .ret v => ∃ u, e = .returned u ∧ Rv ρ (Grow A w w') w' None_ v u
      | .pan => ∃ t u, e = .panicked [{ v := .iface t u, recovered := false }]

def okRes : Res → Bool
  | .ret v => bnd 0 v
  | .pan => true

/-- a contract out of runs -/
theorem spec_of_run (hΓ : Γ.Ok Inv) (hI : Stable Inv) (hcf : CallSound Γ.P Inv cf) (hdf : DrawSound Γ.P Inv df) (hdl : DrawLen df) (hdk : DrawKeep df) {f : FuncId} {fn : Func} (hfn : Γ.P.funcs[f]? = some fn)
    {c : Code} (hb : fn.body = some c) (hlp : LoopsOk Γ cf df lp fn.ntmps c) {s : List AV → Option Res}
    (h : ∀ args r, s args = some r → args.length ≤ fn.ntmps ∧ okRes r = true ∧ ∃ H', runFn Γ cf df lp fn args [] = some (r, H')) : SpecHolds Γ.P Inv f s := by
  intro args r hs ρ A w vs hA hi hv
  obtain ⟨hl, hok, H', hrun⟩ := h args r hs
  have hm : Mem w ρ A w [] := ⟨⟨fun id o ho => by simp at ho, fun i j hi => by obtain ⟨o, ho, _⟩ := hi; simp at ho⟩, Below.refl _ _, hA⟩
  refine (runFn_sound hΓ hI hi hcf hdf hdl hdk hfn hb hlp hl hrun hm (hv.mono (fun _ h => h.elim) (fun _ h => h.elim) (fun _ h => h) (fun _ _ => rfl))).mono ?_
  rintro e w' ⟨ρ', A', hm', hext, hres⟩
  refine ⟨hm'.bel, ?_⟩
  cases r with
  | ret v =>
    obtain ⟨u, rfl, hu⟩ := hres
    refine ⟨u, rfl, (hu.bnd0 hok).mono (fun _ h => h) (fun _ h => h.elim) (fun b hb => ?_) (fun _ _ => rfl)⟩
    exact (hext.late b hb).imp id (fun hl => ⟨hl, hm'.lt b hb⟩)
  | pan => exact hres
end
end Go.Evl

/- A region whose order is drawn: independent operations commute. No condition. -/
namespace Go.Evl
open Go.RowKit

inductive Acc where
  | none
  | rd (id : Nat)
  | wr (id : Nat)
  | nw (id : Nat)
  | pn
  | dd
  deriving Inhabited
def accP (fresh : Nat) : Plan → Acc
  | .load id _ _ _ => .rd id
  | .store id _ _ => .wr id
  | .new _ _ => .nw fresh
  | .newMap => .nw fresh
  | .mput id _ _ => .wr id
  | .mget id _ _ _ => .rd id
  | .upd _ _ id _ => .wr id
  | _ => .none
def memDep : Acc → Acc → Bool
  | .none, _ => false
  | _, .none => false
  | .pn, _ => false
  | _, .pn => false
  | .dd, _ => false
  | _, .dd => false
  | .rd _, .rd _ => false
  | .rd a, .wr b => Nat.beq a b
  | .rd a, .nw b => Nat.beq a b
  | .wr a, .rd b => Nat.beq a b
  | .wr a, .wr b => Nat.beq a b
  | .wr a, .nw b => Nat.beq a b
  | .nw a, .rd b => Nat.beq a b
  | .nw a, .wr b => Nat.beq a b
  | .nw a, .nw b => Nat.beq a b

def isPan : Plan → Bool
  | .pan => true
  | .spc _ _ .pan => true
  | _ => false
/-- what one operation of a drawn region is about: a fixed value, or a plan; dd: the operations that can't come up, as they wait for one that panics -/
inductive Kd where
  | fix (a : Acc) (u : AV)
  | act (p : Plan)
def kindD (Γ : Cx) (ops : Array Oper) (dd : Nat → Bool) (i : Nat) (tm : List AV) : Option Kd :=
  match ops[i]? with
  | none => none
  | some o =>
    bif dd i then some (.fix .dd .junk)
    else match wantA ops tm o with
      | none => none
      | some g =>
        bif g then
          match plan Γ (opd tm) o.op with
          | none => none
          | some (c, p) => bif c then (bif isPan p then some (.fix .pn .junk) else some (.act p)) else none
        else some (.fix .none (.raw undef))
def isDd : Acc → Bool
  | .dd => true
  | _ => false
def isPn : Acc → Bool
  | .pn => true
  | _ => false
def isWr : Acc → Bool
  | .wr _ => true
  | _ => false
def isBl (a : Acc) : Bool := isPn a || isDd a
def dstD (ops : Array Oper) (i : Nat) : Option Tmp := (ops[i]?).bind (·.dst)
/-- one operation of a drawn region: what it touches, and the state behind it -/
def stepD (Γ : Cx) (ops : Array Oper) (m : Nat) (dd : Nat → Bool) (i : Nat) (st : St) : Option (Acc × St) :=
  match kindD Γ ops dd i st.tm with
  | none => none
  | some (.fix a u) => some (a, ⟨putA st.tm (dstD ops i) u, st.hp⟩)
  | some (.act p) =>
    match doPlan (m + i) st.hp p with
    | none => none
    | some (v, H) => some (accP (m + i) p, ⟨putA st.tm (dstD ops i) v, H⟩)

/-- the temporaries that an operation looks at -/
def looks (ops : Array Oper) (o : Oper) : List Tmp := o.looksAt ops
def tempDep (ops : Array Oper) (x y : Oper) : Bool :=
  (match x.dst with
   | some d => (looks ops y).contains d || y.dst == some d
   | none => false) ||
  (match y.dst with
   | some d => (looks ops x).contains d
   | none => false)

section
variable {Γ : Cx} {ops : Array Oper} {m : Nat}

theorem map_congr' {α β : Type} {f g : α → β} : ∀ {l : List α}, (∀ x ∈ l, f x = g x) → l.map f = l.map g := by
  intro l h; exact List.map_congr_left h
theorem plan_congr {x y : Operand → AV} {op : Op} (h : ∀ z ∈ op.operands, x z = y z) : plan Γ x op = plan Γ y op := by
  cases op <;> simp only [Op.operands] at h <;> simp only [plan]
  case build t ps =>
    have : (ps.toList.map fun p => (p.1, x p.2)) = (ps.toList.map fun p => (p.1, y p.2)) := List.map_congr_left fun p hp => by rw [h p.2 (by simp; exact ⟨p.1, by simpa using hp⟩)]
    rw [this]
  case buildSlice t n ps =>
    have : (ps.toList.map fun p => (p.1, x p.2)) = (ps.toList.map fun p => (p.1, y p.2)) := List.map_congr_left fun p hp => by rw [h p.2 (by simp; exact ⟨p.1, by simpa using hp⟩)]
    rw [this]
  case makeFunc f first cap =>
    have : cap.toList.map x = cap.toList.map y := List.map_congr_left fun p hp => h p (by simp at hp ⊢; exact .inr hp)
    rw [this]
  case slice t z lo hi mx =>
    have h0 : x z = y z := h z (by simp)
    have h1 : lo.map x = lo.map y := by
      cases lo with
      | none => rfl
      | some q => simp only [Option.map_some]; rw [h q (by simp)]
    have h2 : hi.map x = hi.map y := by
      cases hi with
      | none => rfl
      | some q => simp only [Option.map_some]; rw [h q (by simp)]
    rw [h0, h1, h2]
  case call c =>
    obtain ⟨callee, args, ats⟩ := c
    simp only [Call.operands] at h ⊢
    have ha : args.toList.map x = args.toList.map y := List.map_congr_left fun p hp => h p (by simp at hp ⊢; exact .inr hp)
    cases callee with
    | value f =>
      have hf := h f (by simp)
      show callA Γ (x f) (args.toList.map x) = callA Γ (y f) (args.toList.map y)
      rw [hf, ha]
    | invoke r nm => rfl
    | builtin b =>
      cases b <;> simp only [ha]
      split
      · rename_i z t hz ht
        have : z ∈ args.toList := by rw [hz]; simp
        rw [h z (by simpa using this)]
      · rfl
  all_goals (first | rfl | (simp only [List.mem_toArray, List.mem_cons, List.not_mem_nil, or_false, forall_eq_or_imp, forall_eq] at h; simp only [h]; done) | (simp at h; simp [h]; done) | skip)

theorem getT_put {tm : List AV} {dst : Option Tmp} {v : AV} {t : Tmp} (h : ∀ d, dst = some d → d ≠ t) : getT (putA tm dst v) t = getT tm t := by
  cases dst with
  | none => rfl
  | some d => simp only [getT, putA]; rw [List.getElem?_set_ne (h d rfl)]
theorem opd_put {tm : List AV} {dst : Option Tmp} {v : AV} {z : Operand} (h : ∀ d, dst = some d → z ≠ .tmp d) : opd (putA tm dst v) z = opd tm z := by
  cases z with
  | tmp t => exact getT_put fun d hd e => h d hd (by rw [e])
  | _ => rfl
theorem putA_comm {tm : List AV} {x y : Option Tmp} {u v : AV} (h : ∀ d, x = some d → y ≠ some d) : putA (putA tm x u) y v = putA (putA tm y v) x u := by
  cases x with
  | none => rfl
  | some d => cases y with
    | none => rfl
    | some e => simp only [putA]; exact List.set_comm _ _ (fun e' => h d rfl (by rw [e']))
theorem looks_op {o : Oper} {t : Tmp} (h : Operand.tmp t ∈ o.op.operands) : t ∈ looks ops o :=
  List.mem_append_left _ (List.mem_filterMap.2 ⟨.tmp t, by simpa using h, rfl⟩)
theorem plan_put {tm : List AV} {o : Oper} {dst : Option Tmp} {v : AV} (h : ∀ d, dst = some d → d ∉ looks ops o) : plan Γ (opd (putA tm dst v)) o.op = plan Γ (opd tm) o.op :=
  plan_congr fun z hz => opd_put fun d hd e => h d hd (looks_op (by rw [← e]; exact hz))
theorem wantA_put {tm : List AV} {o : Oper} {dst : Option Tmp} {v : AV} (h : ∀ d, dst = some d → d ∉ looks ops o) : wantA ops (putA tm dst v) o = wantA ops tm o := by
  unfold wantA
  cases hg : o.guard with
  | none => rfl
  | some jw =>
    obtain ⟨j, want⟩ := jw
    simp only
    cases hd : (ops[j]?).bind (·.dst) with
    | none => rfl
    | some d =>
      simp only
      rw [getT_put fun e he e' => h e he (by subst e'; simp [looks, Oper.looksAt, hg, hd])]

theorem kindD_put {dd : Nat → Bool} {i : Nat} {tm : List AV} {dst : Option Tmp} {v : AV} (h : ∀ o, ops[i]? = some o → ∀ d, dst = some d → d ∉ looks ops o) : kindD Γ ops dd i (putA tm dst v) = kindD Γ ops dd i tm := by
  unfold kindD
  cases ho : ops[i]? with
  | none => rfl
  | some o => simp only [wantA_put (h o ho), plan_put (h o ho)]

theorem newOb_at {f : Nat} {H H1 : List Ob} {o : Ob} {v u : AV} (h : newOb f H o v = some (u, H1)) (hf : f < H.length) : u = v ∧ H[f]? = some .free ∧ H1 = H.set f o := by
  have hb : Nat.beq f H.length = false := by rw [Bool.eq_false_iff]; simp only [ne_eq, Nat.beq_eq]; omega
  simp only [newOb, hb, Bool.false_eq_true, if_false] at h
  split at h
  · rename_i hfr
    simp only [Option.some.injEq, Prod.mk.injEq] at h
    obtain ⟨rfl, rfl⟩ := h
    exact ⟨rfl, hfr, rfl⟩
  · simp at h
theorem newOb_of {f : Nat} {H : List Ob} {o : Ob} {v : AV} (h : H[f]? = some .free) : newOb f H o v = some (v, H.set f o) := by
  have hlt := (List.getElem?_eq_some_iff.1 h).1
  have hb : Nat.beq f H.length = false := by rw [Bool.eq_false_iff]; simp only [ne_eq, Nat.beq_eq]; omega
  simp only [newOb, hb, Bool.false_eq_true, if_false, h]
/-- what a plan does to a heap -/
theorem doPlan_kind {f : Nat} {H H1 : List Ob} {p : Plan} {u : AV} (hp : doPlan f H p = some (u, H1)) (hf : f < H.length) :
    (H1 = H ∧ (accP f p = .none ∨ ∃ id, accP f p = .rd id ∧ ∀ (H' : List Ob), H'[id]? = H[id]? → doPlan f H' p = some (u, H')) ∧ (accP f p = .none → ∀ H' : List Ob, doPlan f H' p = some (u, H'))) ∨
      (∃ id o' , (accP f p = .wr id ∨ accP f p = .nw id) ∧ H1 = H.set id o' ∧ ∀ H' : List Ob, H'[id]? = H[id]? → H'.length = H.length → doPlan f H' p = some (u, H'.set id o')) := by
  cases p with
  | val x => simp only [doPlan, Option.some.injEq, Prod.mk.injEq] at hp; obtain ⟨rfl, rfl⟩ := hp; exact .inl ⟨rfl, .inl rfl, fun _ _ => rfl⟩
  | spc ff args q => cases q with
    | ret x => simp only [doPlan, Option.some.injEq, Prod.mk.injEq] at hp; obtain ⟨rfl, rfl⟩ := hp; exact .inl ⟨rfl, .inl rfl, fun _ _ => rfl⟩
    | pan => simp [doPlan] at hp
  | load id off k ag =>
    have hr : ∀ (H' : List Ob), H'[id]? = H[id]? → doPlan f H' (.load id off k ag) = some (u, H') := by
      intro H' he
      simp only [doPlan] at hp ⊢
      rw [he]
      split at hp
      · rename_i cs t ho
        split at hp
        · rename_i hle
          rw [if_pos hle]
          cases ag with
          | true => simp only [if_true, Option.some.injEq, Prod.mk.injEq] at hp ⊢; exact ⟨hp.1, trivial⟩
          | false =>
            simp only [Bool.false_eq_true, if_false] at hp ⊢
            obtain ⟨c, hc, h2⟩ := Option.map_eq_some_iff.1 hp
            simp only [Prod.mk.injEq] at h2
            rw [hc, ← h2.1]; rfl
        · simp at hp
      · simp at hp
    have h1 : H1 = H := by
      simp only [doPlan] at hp
      split at hp
      · split at hp
        · cases ag with
          | true => simp only [if_true, Option.some.injEq, Prod.mk.injEq] at hp; exact hp.2.symm
          | false =>
            simp only [Bool.false_eq_true, if_false] at hp
            obtain ⟨c, hc, h2⟩ := Option.map_eq_some_iff.1 hp
            simp only [Prod.mk.injEq] at h2
            exact h2.2.symm
        · simp at hp
      · simp at hp
    exact .inl ⟨h1, .inr ⟨id, rfl, hr⟩, fun h => by simp [accP] at h⟩
  | mget id k z ok =>
    simp only [doPlan] at hp
    split at hp
    · rename_i es ho
      obtain ⟨q, hq, h2⟩ := Option.map_eq_some_iff.1 hp
      simp only [Prod.mk.injEq] at h2
      obtain ⟨rfl, rfl⟩ := h2
      refine .inl ⟨rfl, .inr ⟨id, rfl, fun H' he => ?_⟩, fun h => by simp [accP] at h⟩
      simp only [doPlan, he, ho, hq, Option.map_some]
    · simp at hp
  | new cs t =>
    simp only [doPlan] at hp
    obtain ⟨rfl, hfr, rfl⟩ := newOb_at hp hf
    refine .inr ⟨f, .cells cs t, .inr rfl, rfl, fun H' he hl => ?_⟩
    simp only [doPlan]
    exact newOb_of (he.trans hfr)
  | newMap =>
    simp only [doPlan] at hp
    obtain ⟨rfl, hfr, rfl⟩ := newOb_at hp hf
    refine .inr ⟨f, .map [], .inr rfl, rfl, fun H' he hl => ?_⟩
    simp only [doPlan]
    exact newOb_of (he.trans hfr)
  | store id off cs =>
    simp only [doPlan] at hp
    split at hp
    · rename_i bs t ho
      split at hp
      · rename_i hle
        simp only [Option.some.injEq, Prod.mk.injEq] at hp
        obtain ⟨rfl, rfl⟩ := hp
        refine .inr ⟨id, .cells (seg bs off cs) t, .inl rfl, rfl, fun H' he hl => ?_⟩
        simp only [doPlan]
        rw [he, ho]
        simp only [hle, if_true]
      · simp at hp
    · simp at hp
  | mput id k v =>
    simp only [doPlan] at hp
    split at hp
    · rename_i es ho
      obtain ⟨es', hes, h2⟩ := Option.map_eq_some_iff.1 hp
      simp only [Prod.mk.injEq] at h2
      obtain ⟨rfl, rfl⟩ := h2
      refine .inr ⟨id, .map es', .inl rfl, rfl, fun H' he hl => ?_⟩
      simp only [doPlan, he, ho, hes, Option.map_some]
    · simp at hp
  | upd ff args id s =>
    simp only [doPlan] at hp
    split at hp
    · rename_i cs t ho
      split at hp
      · rename_i hb
        obtain ⟨q, hq, h2⟩ := Option.bind_eq_some_iff.1 hp
        obtain ⟨cs', rfl, hl, hsv, hsc, rfl⟩ := updEnd_some h2
        refine .inr ⟨id, .cells cs' t, .inl rfl, rfl, fun H' he _ => ?_⟩
        simp only [doPlan, he, ho, hb, if_true, hq, Option.bind_some]
        simp [updEnd, hl, hsv, hsc]
      · simp at hp
    · simp at hp
  | call ff args => simp [doPlan] at hp
  | round id args => simp [doPlan] at hp
  | pan => simp [doPlan] at hp
/-- what a plan does to a heap: by its touch -/
theorem doPlan_comm {f g : Nat} {H H1 H2 : List Ob} {p q : Plan} {u v : AV} (hp : doPlan f H p = some (u, H1)) (hq : doPlan g H1 q = some (v, H2)) (hm : memDep (accP f p) (accP g q) = false)
    (hf : f < H.length) (hg : g < H.length) :
    ∃ H1', doPlan g H q = some (v, H1') ∧ doPlan f H1' p = some (u, H2) ∧ H1'.length = H.length ∧ H1.length = H.length := by
  have hne : ∀ {a b : Nat}, Nat.beq a b = false → a ≠ b := fun h e => by subst e; simp at h
  rcases doPlan_kind hp hf with ⟨rfl, hp1, hp2⟩ | ⟨id, o', ha, rfl, hp1⟩
  · -- p only reads
    rcases doPlan_kind hq hg with ⟨rfl, hq1, hq2⟩ | ⟨id', o', ha', rfl, hq1⟩
    · exact ⟨H2, hq, hp, rfl, rfl⟩
    · refine ⟨_, hq, ?_, by simp, rfl⟩
      rcases hp1 with h0 | ⟨idp, hrd, hr⟩
      · exact hp2 h0 _
      · refine hr _ ?_
        have : idp ≠ id' := by
          rcases ha' with ha' | ha' <;> (rw [hrd, ha'] at hm; exact hne hm)
        rw [List.getElem?_set_ne (fun e => this e.symm)]
  · -- p writes
    rcases doPlan_kind hq (by simpa using hg) with ⟨rfl, hq1, hq2⟩ | ⟨id', o2, ha', rfl, hq1⟩
    · refine ⟨H, ?_, hp1 H rfl rfl, rfl, by simp⟩
      rcases hq1 with h0 | ⟨idq, hrd, hr⟩
      · exact hq2 h0 _
      · refine hr _ ?_
        have : id ≠ idq := by
          rcases ha with ha | ha <;> (rw [hrd, ha] at hm; exact hne hm)
        rw [List.getElem?_set_ne this]
    · have hn : id ≠ id' := by
        rcases ha with ha | ha <;> rcases ha' with ha' | ha' <;> (rw [ha', ha] at hm; exact hne hm)
      refine ⟨H.set id' o2, hq1 H (by rw [List.getElem?_set_ne hn]) (by simp), ?_, by simp, by simp⟩
      rw [List.set_comm _ _ hn]
      exact hp1 _ (by rw [List.getElem?_set_ne (fun e => hn e.symm)]) (by simp)
end
end Go.Evl

/- A region whose order is drawn, in whatever order: the theorem. Conditions: the context's contracts hold; dependent operations are ordered by the region's edges. -/
namespace Go.Evl
open Go.RowKit

/-- the edges lead from i to x in at most k steps -/
def pathB (ops : Array Oper) : Nat → Nat → Nat → Bool
  | 0, _, _ => false
  | k + 1, i, x => match ops[i]? with
    | none => false
    | some o => o.after.toList.any fun e => Region.binds .any e && (Nat.beq e.on x || (Nat.blt x e.on && pathB ops k e.on x))

/-- a run of some operations, with what each touches -/
inductive RunA (Γ : Cx) (ops : Array Oper) (m : Nat) (dd : Nat → Bool) : List (Nat × Acc) → St → St → Prop
  | nil {s : St} : RunA Γ ops m dd [] s s
  | cons {i : Nat} {a : Acc} {L : List (Nat × Acc)} {s s1 s2 : St} (h : stepD Γ ops m dd i s = some (a, s1)) (t : RunA Γ ops m dd L s1 s2) : RunA Γ ops m dd ((i, a) :: L) s s2

def depB (ops : Array Oper) (x i : Nat × Acc) : Bool :=
  (match ops[x.1]?, ops[i.1]? with
   | some o, some q => tempDep ops o q
   | _, _ => true) || memDep x.2 i.2

section
variable {Γ : Cx} {ops : Array Oper} {m : Nat} {dd : Nat → Bool}

theorem stepD_len {i : Nat} {s s1 : St} {a : Acc} (h : stepD Γ ops m dd i s = some (a, s1)) (hl : m + i < s.hp.length) : s1.hp.length = s.hp.length := by
  unfold stepD at h
  cases hk : kindD Γ ops dd i s.tm with
  | none => simp [hk] at h
  | some kd =>
    simp only [hk] at h
    cases kd with
    | fix a' u => simp only [Option.some.injEq, Prod.mk.injEq] at h; obtain ⟨_, rfl⟩ := h; rfl
    | act p =>
      simp only at h
      cases hd : doPlan (m + i) s.hp p with
      | none => simp [hd] at h
      | some vH =>
        obtain ⟨v, H⟩ := vH
        simp only [hd, Option.some.injEq, Prod.mk.injEq] at h
        obtain ⟨_, rfl⟩ := h
        obtain ⟨_, _, _, _, h5⟩ := doPlan_comm (f := m + i) (g := m + i) (q := .val .junk) (v := .junk) hd rfl (by cases hx : accP (m + i) p <;> rfl) hl hl
        exact h5

theorem step_comm {i j : Nat} {s s1 s2 : St} {a b : Acc} (hi : stepD Γ ops m dd i s = some (a, s1)) (hj : stepD Γ ops m dd j s1 = some (b, s2)) (hd : depB ops (i, a) (j, b) = false)
    (hli : m + i < s.hp.length) (hlj : m + j < s.hp.length) : ∃ s1', stepD Γ ops m dd j s = some (b, s1') ∧ stepD Γ ops m dd i s1' = some (a, s2) := by
  have hoi : ∃ oi, ops[i]? = some oi := by
    cases ho : ops[i]? with
    | none => simp [stepD, kindD, ho] at hi
    | some o => exact ⟨o, rfl⟩
  have hoj : ∃ oj, ops[j]? = some oj := by
    cases ho : ops[j]? with
    | none => simp [stepD, kindD, ho] at hj
    | some o => exact ⟨o, rfl⟩
  obtain ⟨oi, hoi⟩ := hoi
  obtain ⟨oj, hoj⟩ := hoj
  simp only [depB, hoi, hoj, Bool.or_eq_false_iff] at hd
  obtain ⟨ht, hm⟩ := hd
  simp only [tempDep, Bool.or_eq_false_iff] at ht
  obtain ⟨ht1, ht2⟩ := ht
  have hdi : dstD ops i = oi.dst := by simp [dstD, hoi]
  have hdj : dstD ops j = oj.dst := by simp [dstD, hoj]
  have hij : ∀ o, ops[j]? = some o → ∀ d, dstD ops i = some d → d ∉ looks ops o := fun o ho d hd => by
    rw [hoj] at ho; cases ho
    rw [hdi] at hd
    rw [hd] at ht1
    simp only [Bool.or_eq_false_iff] at ht1
    simpa using ht1.1
  have hdd : ∀ d, dstD ops i = some d → dstD ops j ≠ some d := fun d hd => by
    rw [hdi] at hd
    rw [hd] at ht1
    simp only [Bool.or_eq_false_iff] at ht1
    rw [hdj]
    simpa using ht1.2
  have hji : ∀ o, ops[i]? = some o → ∀ d, dstD ops j = some d → d ∉ looks ops o := fun o ho d hd => by
    rw [hoi] at ho; cases ho
    rw [hdj] at hd
    rw [hd] at ht2
    simpa using ht2
  unfold stepD at hi hj
  cases hki : kindD Γ ops dd i s.tm with
  | none => simp [hki] at hi
  | some ki =>
    simp only [hki] at hi
    cases ki with
    | fix a' u =>
      simp only [Option.some.injEq, Prod.mk.injEq] at hi
      obtain ⟨rfl, rfl⟩ := hi
      simp only [kindD_put hij] at hj
      cases hkj : kindD Γ ops dd j s.tm with
      | none => simp [hkj] at hj
      | some kj =>
        simp only [hkj] at hj
        cases kj with
        | fix b' v =>
          simp only [Option.some.injEq, Prod.mk.injEq] at hj
          obtain ⟨rfl, rfl⟩ := hj
          exact ⟨⟨putA s.tm (dstD ops j) v, s.hp⟩, by simp [stepD, hkj], by simp [stepD, kindD_put hji, hki, putA_comm hdd]⟩
        | act q =>
          simp only at hj
          cases hdq : doPlan (m + j) s.hp q with
          | none => simp [hdq] at hj
          | some vH =>
            obtain ⟨v, H⟩ := vH
            simp only [hdq, Option.some.injEq, Prod.mk.injEq] at hj
            obtain ⟨rfl, rfl⟩ := hj
            exact ⟨⟨putA s.tm (dstD ops j) v, H⟩, by simp [stepD, hkj, hdq], by simp [stepD, kindD_put hji, hki, putA_comm hdd]⟩
    | act p =>
      simp only at hi
      cases hdp : doPlan (m + i) s.hp p with
      | none => simp [hdp] at hi
      | some uH =>
        obtain ⟨u, H1⟩ := uH
        simp only [hdp, Option.some.injEq, Prod.mk.injEq] at hi
        obtain ⟨rfl, rfl⟩ := hi
        simp only [kindD_put hij] at hj
        cases hkj : kindD Γ ops dd j s.tm with
        | none => simp [hkj] at hj
        | some kj =>
          simp only [hkj] at hj
          cases kj with
          | fix b' v =>
            simp only [Option.some.injEq, Prod.mk.injEq] at hj
            obtain ⟨rfl, rfl⟩ := hj
            exact ⟨⟨putA s.tm (dstD ops j) v, s.hp⟩, by simp [stepD, hkj], by simp [stepD, kindD_put hji, hki, hdp, putA_comm hdd]⟩
          | act q =>
            simp only at hj
            cases hdq : doPlan (m + j) H1 q with
            | none => simp [hdq] at hj
            | some vH =>
              obtain ⟨v, H2⟩ := vH
              simp only [hdq, Option.some.injEq, Prod.mk.injEq] at hj
              obtain ⟨rfl, rfl⟩ := hj
              obtain ⟨H1', h1, h2, _, _⟩ := doPlan_comm hdp hdq hm hli hlj
              exact ⟨⟨putA s.tm (dstD ops j) v, H1'⟩, by simp [stepD, hkj, h1], by simp [stepD, kindD_put hji, hki, h2, putA_comm hdd]⟩

theorem RunA.front {p : Nat × Acc} {R : List (Nat × Acc)} : ∀ {L : List (Nat × Acc)} {s s' : St}, RunA Γ ops m dd (L ++ p :: R) s s' → (∀ x ∈ L, depB ops x p = false) → (∀ x ∈ L, m + x.1 < s.hp.length) → m + p.1 < s.hp.length →
    RunA Γ ops m dd (p :: (L ++ R)) s s' := by
  intro L
  induction L with
  | nil => intro s s' h _ _ _; exact h
  | cons x L ih =>
    intro s s' h hd hl hp
    cases h with
    | @cons i a _ _ s1 _ hx ht =>
      have hlen := stepD_len hx (hl (i, a) (by simp))
      have h2 := ih ht (fun y hy => hd y (by simp [hy])) (fun y hy => by rw [hlen]; exact hl y (by simp [hy])) (by rw [hlen]; exact hp)
      cases h2 with
      | @cons j b _ _ s2 _ hj ht2 =>
        obtain ⟨s1', k1, k2⟩ := step_comm hx hj (hd (i, a) (by simp)) (hl (i, a) (by simp)) hp
        exact .cons k1 (.cons k2 ht2)
end
end Go.Evl

/- A region whose order is drawn, in whatever order: the theorem's end. Conditions: the context's contracts hold; the program mixes orders. -/
namespace Go.Evl
open Go.RowKit

def deadNow (ops : Array Oper) (bl : List Nat) (i : Nat) : Bool := match ops[i]? with
  | some o => o.after.toList.any fun e => Region.binds .any e && bl.any (Nat.beq e.on)
  | none => false
def runD (Γ : Cx) (ops : Array Oper) (m : Nat) : List Nat → List Nat → St → Option (List (Nat × Acc) × St)
  | [], _, st => some ([], st)
  | i :: rest, bl, st => match stepD Γ ops m (fun _ => deadNow ops bl i) i st with
    | none => none
    | some (a, s1) => match runD Γ ops m rest (bif isBl a then i :: bl else bl) s1 with
      | none => none
      | some (L, s2) => some ((i, a) :: L, s2)
def ddOf (L : List (Nat × Acc)) (i : Nat) : Bool := L.any fun p => Nat.beq p.1 i && isDd p.2
/-- the dead ones wait for one that panics or is dead -/
def chkB (ops : Array Oper) (F : List (Nat × Acc)) : Bool :=
  F.all fun p => !isDd p.2 || (match ops[p.1]? with
    | some o => o.after.toList.any fun e => Region.binds .any e && F.any fun q => Nat.beq q.1 e.on && isBl q.2
    | none => false)
/-- the slots that no operation lays -/
def keepD (ops : Array Oper) (nt : Nat) : List Nat := (List.range nt).filter fun t => !(ops.toList.any fun o => o.dst == some t)
def chkEdges (ops : Array Oper) : Bool :=
  (List.range ops.size).all fun i => match ops[i]? with
    | none => false
    | some o => o.after.toList.all fun e => !Region.binds .any e || Nat.blt e.on i
def tempB (ops : Array Oper) (x i : Nat) : Bool :=
  match ops[x]?, ops[i]? with
  | some o, some q => tempDep ops o q
  | _, _ => true
def chkT (ops : Array Oper) : List Nat → Bool
  | [] => true
  | x :: L => (L.all fun y => !tempB ops x y || pathB ops 4 y x) && chkT ops L
def chkM (ops : Array Oper) : List (Nat × Acc) → Bool
  | [] => true
  | x :: L => (L.all fun y => !memDep x.2 y.2 || pathB ops 4 y.1 x.1) && chkM ops L
def chkS (ops : Array Oper) : Bool := chkEdges ops && chkT ops (List.range ops.size)
def trim : List Ob → List Ob
  | [] => []
  | o :: os => match trim os, o with
    | [], .free => []
    | r, o => o :: r
def trimF (m : Nat) (H : List Ob) : List Ob := H.take m ++ trim (H.drop m)
/-- a drawn region's end: of the run in the order of the text -/
def endD (ops : Array Oper) (m : Nat) (L : List (Nat × Acc)) (s : St) : Option (Ex × St) :=
  if chkM ops L && chkB ops L then
    if L.any (fun p => isPn p.2) then
      if L.any (fun p => isWr p.2) then none
      else match cutBack (keepD ops s.tm.length) m s with
        | some (vs, H) => some (.pan, ⟨mkF s.tm.length (keepD ops s.tm.length) vs, H⟩)
        | none => none
    else some (.normal, ⟨s.tm, trimF m s.hp⟩)
  else none
def drawF (Γ : Cx) : DrawF := fun ops st =>
  if chkS ops then
    match runD Γ ops st.hp.length (List.range ops.size) [] ⟨st.tm, st.hp ++ List.replicate ops.size .free⟩ with
    | none => none
    | some (L, s) => endD ops st.hp.length L s
  else none

section
variable {D : Dx} {Γ : Cx} {Inv : World → Prop} {ops : Array Oper} {m : Nat} {w0 : World} {ρ : Nat → Nat} {A : Nat → Prop} {w : World} {r : Option Nat} {n : Nat}

theorem stepD_dd {dd : Nat → Bool} {i : Nat} {s s1 : St} {a : Acc} (h : stepD Γ ops m dd i s = some (a, s1)) : isDd a = dd i := by
  unfold stepD kindD at h
  cases ho : ops[i]? with
  | none => simp [ho] at h
  | some o =>
    simp only [ho] at h
    cases hd : dd i with
    | true => simp only [hd, cond_true, Option.some.injEq, Prod.mk.injEq] at h; obtain ⟨rfl, _⟩ := h; rfl
    | false =>
      simp only [hd, cond_false] at h
      cases hw : wantA ops s.tm o with
      | none => simp [hw] at h
      | some g =>
        simp only [hw] at h
        cases g with
        | false => simp only [cond_false, Option.some.injEq, Prod.mk.injEq] at h; obtain ⟨rfl, _⟩ := h; rfl
        | true =>
          simp only [cond_true] at h
          cases hp : plan Γ (opd s.tm) o.op with
          | none => simp [hp] at h
          | some cp =>
            obtain ⟨c, p⟩ := cp
            simp only [hp] at h
            cases c with
            | false => simp at h
            | true =>
              simp only [cond_true] at h
              cases hpn : isPan p with
              | true => simp only [hpn, cond_true, Option.some.injEq, Prod.mk.injEq] at h; obtain ⟨rfl, _⟩ := h; rfl
              | false =>
                simp only [hpn, cond_false] at h
                cases hdp : doPlan (m + i) s.hp p with
                | none => simp [hdp] at h
                | some vH =>
                  simp only [hdp, Option.some.injEq, Prod.mk.injEq] at h
                  obtain ⟨rfl, _⟩ := h
                  cases p <;> rfl
theorem stepD_congr {dd dd' : Nat → Bool} {i : Nat} (h : dd i = dd' i) (s : St) : stepD Γ ops m dd i s = stepD Γ ops m dd' i s := by
  unfold stepD kindD
  rw [h]
theorem runD_runA : ∀ (l bl : List Nat) {s s2 : St} {L : List (Nat × Acc)}, runD Γ ops m l bl s = some (L, s2) → L.map (·.1) = l ∧ ∀ dd : Nat → Bool, (∀ p ∈ L, dd p.1 = isDd p.2) → RunA Γ ops m dd L s s2 := by
  intro l
  induction l with
  | nil => intro bl s s2 L h; simp only [runD, Option.some.injEq, Prod.mk.injEq] at h; obtain ⟨rfl, rfl⟩ := h; exact ⟨rfl, fun _ _ => .nil⟩
  | cons i l ih =>
    intro bl s s2 L h
    simp only [runD] at h
    split at h
    · simp at h
    · rename_i a s1 h1
      split at h
      · simp at h
      · rename_i L' s2' h2
        simp only [Option.some.injEq, Prod.mk.injEq] at h
        obtain ⟨rfl, rfl⟩ := h
        obtain ⟨k1, k2⟩ := ih _ h2
        refine ⟨by simp [k1], fun dd hdd => .cons ?_ (k2 dd fun p hp => hdd p (by simp [hp]))⟩
        rw [stepD_congr (dd' := fun _ => deadNow ops bl i) (by rw [hdd (i, a) (by simp), stepD_dd h1])]
        exact h1
theorem ddOf_mem {L : List (Nat × Acc)} (hpw : L.Pairwise (fun x y => x.1 < y.1)) {p : Nat × Acc} (hp : p ∈ L) : ddOf L p.1 = isDd p.2 := by
  unfold ddOf
  cases hd : isDd p.2 with
  | true => exact List.any_eq_true.2 ⟨p, hp, by simp [hd]⟩
  | false =>
    rw [List.any_eq_false]
    intro q hq
    simp only [Bool.and_eq_true, Nat.beq_eq, not_and]
    intro he
    have : q = p := by
      induction L with
      | nil => cases hp
      | cons x L ih =>
        have hc := List.pairwise_cons.1 hpw
        rcases List.mem_cons.1 hp with hp | hp <;> rcases List.mem_cons.1 hq with hq | hq
        · rw [hp, hq]
        · have := hc.1 q hq; rw [← hp] at this; omega
        · have := hc.1 p hp; rw [← hq] at this; omega
        · exact ih hc.2 hp hq
    rw [this, hd]; simp

theorem trim_get : ∀ (H : List Ob) (i : Nat) (o : Ob), (trim H)[i]? = some o → H[i]? = some o := by
  intro H
  induction H with
  | nil => intro i o h; simp [trim] at h
  | cons x H ih =>
    intro i o h
    simp only [trim] at h
    split at h
    · simp at h
    · cases i with
      | zero => simpa using h
      | succ i => simpa using ih i o (by simpa using h)
theorem trim_live : ∀ (H : List Ob) (i : Nat) (o : Ob), H[i]? = some o → o.live = true → (trim H)[i]? = some o := by
  intro H
  induction H with
  | nil => intro i o h; simp at h
  | cons x H ih =>
    intro i o h hl
    have hs : ∀ i, H[i]? = some o → (Go.Evl.trim H)[i]? = some o := fun i h => ih i o h hl
    simp only [trim]
    revert hs
    generalize Go.Evl.trim H = T
    intro hs
    split
    · cases i with
      | zero => simp at h; subst h; cases hl
      | succ i => have := hs i (by simpa using h); simp at this
    · cases i with
      | zero => simpa using h
      | succ i => simpa using hs i (by simpa using h)
theorem trimF_get (m : Nat) (H : List Ob) (i : Nat) (o : Ob) (h : (trimF m H)[i]? = some o) : H[i]? = some o := by
  unfold trimF at h
  rcases Nat.lt_or_ge i (H.take m).length with h' | h'
  · rw [List.getElem?_append_left h', List.getElem?_take] at h
    split at h
    · exact h
    · simp at h
  · rw [List.getElem?_append_right h'] at h
    have := trim_get _ _ _ h
    rw [List.getElem?_drop] at this
    have hlt := (List.getElem?_eq_some_iff.1 this).1
    have hl : (H.take m).length = m := by simp; omega
    rw [hl] at this
    rw [hl] at h'
    rw [show m + (i - m) = i by omega] at this
    exact this
theorem trimF_live (m : Nat) (H : List Ob) (i : Nat) (o : Ob) (h : H[i]? = some o) (hl : o.live = true) : (trimF m H)[i]? = some o := by
  have hlt := (List.getElem?_eq_some_iff.1 h).1
  unfold trimF
  rcases Nat.lt_or_ge i m with h' | h'
  · rw [List.getElem?_append_left (by simp; omega), List.getElem?_take, if_pos h', h]
  · have hl' : (H.take m).length = m := by simp; omega
    rw [List.getElem?_append_right (by omega), hl']
    refine trim_live _ _ _ ?_ hl
    rw [List.getElem?_drop, show m + (i - m) = i by omega, h]
theorem trimF_len {m : Nat} {H : List Ob} (h : m ≤ H.length) : m ≤ (trimF m H).length := by unfold trimF; simp; omega
theorem trimF_keep (m : Nat) (H : List Ob) : KeepD H (trimF m H) := fun id h => trimF_live m H id _ h rfl
theorem live_trim {m : Nat} {H : List Ob} {i : Nat} : Live (trimF m H) i ↔ Live H i :=
  ⟨fun ⟨o, h, hl⟩ => ⟨o, trimF_get m H i o h, hl⟩, fun ⟨o, h, hl⟩ => ⟨o, trimF_live m H i o h hl, hl⟩⟩
theorem live_pad {H : List Ob} {k i : Nat} : Live (H ++ List.replicate k .free) i ↔ Live H i := by
  constructor
  · rintro ⟨o, h, hl⟩
    rcases Nat.lt_or_ge i H.length with h' | h'
    · rw [List.getElem?_append_left h'] at h; exact ⟨o, h, hl⟩
    · rw [List.getElem?_append_right h', List.getElem?_replicate] at h
      split at h
      · simp only [Option.some.injEq] at h; subst h; cases hl
      · simp at h
  · rintro ⟨o, h, hl⟩
    have h' := (List.getElem?_eq_some_iff.1 h).1
    exact ⟨o, by rw [List.getElem?_append_left h']; exact h, hl⟩

theorem Mem.pad {H : List Ob} (h : Mem w0 ρ A w H) (k : Nat) : Mem w0 ρ A w (H ++ List.replicate k .free) := by
  refine ⟨⟨fun id o ho hl => ?_, fun i j hi hj => h.hp.inj i j (live_pad.1 hi) (live_pad.1 hj)⟩, h.bel, h.lt⟩
  obtain ⟨o', ho', hl'⟩ := live_pad.1 (⟨_, ho, hl⟩ : Live (H ++ List.replicate k .free) id)
  have hlt := (List.getElem?_eq_some_iff.1 ho').1
  rw [List.getElem?_append_left hlt, ho'] at ho
  cases ho
  obtain ⟨h1, h2, x, h3, h4⟩ := h.hp.obj id _ ho' hl
  exact ⟨h1, h2, x, h3, h4.mono (fun _ hi => live_pad.2 hi) (fun _ _ => rfl) (fun _ h => h) (fun _ _ => rfl)⟩
theorem Mem.trim {H : List Ob} (h : Mem w0 ρ A w H) (m : Nat) : Mem w0 ρ A w (trimF m H) := by
  refine ⟨⟨fun id o ho hl => ?_, fun i j hi hj => h.hp.inj i j (live_trim.1 hi) (live_trim.1 hj)⟩, h.bel, h.lt⟩
  have ho' := trimF_get m H id o ho
  obtain ⟨h1, h2, x, h3, h4⟩ := h.hp.obj id o ho' hl
  exact ⟨h1, h2, x, h3, h4.mono (fun _ hi => live_trim.2 hi) (fun _ _ => rfl) (fun _ h => h) (fun _ _ => rfl)⟩
theorem stepD_keepD {dd : Nat → Bool} {i : Nat} {st st' : St} {acc : Acc} (h : stepD Γ ops m dd i st = some (acc, st')) : KeepD st.hp st'.hp := by
  unfold stepD at h
  cases hk : kindD Γ ops dd i st.tm with
  | none => simp [hk] at h
  | some kd =>
    simp only [hk] at h
    cases kd with
    | fix a' u => simp only [Option.some.injEq, Prod.mk.injEq] at h; obtain ⟨_, rfl⟩ := h; exact .refl _
    | act p =>
      simp only at h
      cases hd : doPlan (m + i) st.hp p with
      | none => simp [hd] at h
      | some vH =>
        obtain ⟨v, H⟩ := vH
        simp only [hd, Option.some.injEq, Prod.mk.injEq] at h
        obtain ⟨_, rfl⟩ := h
        exact doPlan_keep hd

theorem stepD_sound {D : Dx} {dd : Nat → Bool} (hΓ : Γ.Ok Inv) (hI : Stable Inv) (h0 : Inv w0) {i : Nat} {st st' : St} {acc : Acc} {a : Act} (hr : Rel D w0 ρ A st a w) (hdd : dd i = false)
    (h : stepD Γ ops m dd i st = some (acc, st')) {K : Act → World → Prop} {Q : Exit → Act → World → Prop}
    (hK : isPn acc = false → ∀ a' w' ρ' A', Ext (Live st.hp) ρ A w (Live st'.hp) ρ' A' w' → Rel D w0 ρ' A' st' a' w' → K a' w')
    (hP : isPn acc = true → ∀ t v w' ρ' A', Ext (Live st.hp) ρ A w (Live st.hp) ρ' A' w' → Rel D w0 ρ' A' st a w' → Q (.panic [{ v := .iface t v, recovered := false }]) a w') :
    wpOpIn (Fr r) n Γ.P ops Q i K a w := by
  unfold stepD kindD at h
  unfold wpOpIn
  cases ho : ops[i]? with
  | none => simp [ho] at h
  | some o =>
    have hdst : dstD ops i = o.dst := by simp [dstD, ho]
    simp only [ho, hdd, cond_false] at h ⊢
    cases hw : wantA ops st.tm o with
    | none => simp [hw] at h
    | some g =>
      simp only [hw] at h
      rw [wantA_ok hr.tm hw]
      cases g with
      | false =>
        simp only [cond_false, Option.some.injEq, Prod.mk.injEq] at h
        obtain ⟨rfl, rfl⟩ := h
        simp only [Bool.false_eq_true, if_false]
        refine ⟨about_fr o a, hK rfl _ _ ρ A (Ext.refl _ _ _ _) ⟨by rw [hdst]; exact put_rel hr.tm o.dst .raw, ?_, hr.mem⟩⟩
        rw [put_defers]; exact hr.df
      | true =>
        simp only [cond_true] at h
        simp only [if_true]
        cases hp : plan Γ (opd st.tm) o.op with
        | none => simp [hp] at h
        | some cp =>
          obtain ⟨c, p⟩ := cp
          simp only [hp] at h
          cases c with
          | false => simp at h
          | true =>
            simp only [cond_true] at h
            have hacts := plan_acts hΓ hr.tm hr.mem.lt hp rfl
            have hnd := plan_noDefer hp
            cases hpn : isPan p with
            | true =>
              simp only [hpn, cond_true, Option.some.injEq, Prod.mk.injEq] at h
              obtain ⟨rfl, rfl⟩ := h
              cases p with
              | pan =>
                obtain ⟨t, v, hrun⟩ := hacts
                refine ⟨about_fr o a, ?_⟩
                rw [Oper.semAt_eq _ _ _ hnd, hrun]
                exact hP rfl t v w ρ A (Ext.refl _ _ _ _) hr
              | spc f args q =>
                cases q with
                | ret v => simp [isPan] at hpn
                | pan =>
                  obtain ⟨s, hs, hq⟩ := plan_spc hp
                  obtain ⟨vs, hv, hrun⟩ := hacts
                  refine ⟨about_fr o a, ?_⟩
                  rw [Oper.semAt_eq _ _ _ hnd, hrun]
                  refine ⟨fun h => by simp [Fence.wide] at h, ?_⟩
                  rw [callsIn_fr]
                  refine (hΓ.spec f s hs args _ hq ρ A w vs hr.mem.lt (hI _ _ h0 hr.mem.bel) hv).mono ?_
                  rintro e w' ⟨hb, t, u, rfl⟩
                  obtain ⟨m1, m2⟩ := hr.mem.grow hb
                  exact hP rfl t u w' _ _ m2 ⟨m2.rvs hr.tm, hr.df, m1⟩
              | _ => simp [isPan] at hpn
            | false =>
              simp only [hpn, cond_false] at h
              cases hd : doPlan (m + i) st.hp p with
              | none => simp [hd] at h
              | some vH =>
                obtain ⟨v, H⟩ := vH
                simp only [hd, Option.some.injEq, Prod.mk.injEq] at h
                obtain ⟨rfl, rfl⟩ := h
                refine doPlan_sound hΓ hI h0 hr.mem hnd hacts hd (fun f args q e => plan_spc (by rw [hp, e])) (fun f args id s e => plan_upd (by rw [hp, e])) fun u w' ⟨ρ', A', m1, m2, hv⟩ => hK (by cases p <;> rfl) _ _ ρ' A' m2 ⟨by rw [hdst]; exact put_rel (m2.rvs hr.tm) o.dst hv, ?_, m1⟩
                rw [put_defers]; exact hr.df.keep (doPlan_keep hd) m2.nam

def Listed (l : Array Bool) (i : Nat) : Prop := l.getD i false = true
theorem pathB_listed {l : Array Bool} (hc : ∀ j o, Listed l j → ops[j]? = some o → ∀ e ∈ o.after.toList, Region.binds .any e = true → Listed l e.on) : ∀ (k i x : Nat) (o : Oper), ops[i]? = some o →
    (∀ e ∈ o.after.toList, Region.binds .any e = true → Listed l e.on) → pathB ops k i x = true → Listed l x := by
  intro k
  induction k with
  | zero => intro i x o _ _ h; simp [pathB] at h
  | succ k ih =>
    intro i x o ho hp h
    simp only [pathB, ho, List.any_eq_true, Bool.and_eq_true, Bool.or_eq_true, Nat.beq_eq] at h
    obtain ⟨e, he, hb, hx⟩ := h
    have hl := hp e he hb
    rcases hx with hx | ⟨_, hx⟩
    · rw [← hx]; exact hl
    · cases hoe : ops[e.on]? with
      | none => cases k <;> simp [pathB, hoe] at hx
      | some o' => exact ih e.on x o' hoe (fun e' he' hb' => hc e.on o' hl hoe e' he' hb') hx
end
end Go.Evl
