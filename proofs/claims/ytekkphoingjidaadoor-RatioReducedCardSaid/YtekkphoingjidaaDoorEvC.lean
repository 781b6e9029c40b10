/- Plans of the operations on numbers, structs, addresses and calls; each acts as it says. Conditions: the context's contracts hold. -/
import Derived.Test.YtekkphoingjidaaDoorEvB
import Derived.Laws.StructEq
namespace Go.Evl
open Go.RowKit

/-- The context: the program; contracts of functions; functions entered in place; functions without a body. -/
structure Cx where
  P : Program
  spec : FuncId → Option (List AV → Option Res)
  inl : FuncId → Bool
  ext : FuncId → Option (List AV → Option (Bool × AV))

/-! equality -/
def partA (P : Program) (t : TypeId) (cs : List AV) (off : Nat) : Option AV :=
  match isAgg? P t, size? P t with
  | some true, some k => some (.agg ((cs.drop off).take k))
  | some false, _ => cs[off]?
  | _, _ => none
def eqFs (P : Program) (f : TypeId → AV → AV → Option Bool) (xs ys : List AV) : List Field → Option Bool
  | [] => some true
  | g :: fs =>
    if g.name ≠ "_" then
      match partA P g.type xs g.offset, partA P g.type ys g.offset with
      | some a, some b => match f g.type a b, eqFs P f xs ys fs with
        | some r, some s => some (r && s)
        | _, _ => none
      | _, _ => none
    else eqFs P f xs ys fs
def eqA (P : Program) : Nat → TypeId → AV → AV → Option Bool
  | 0, _, _, _ => none
  | d + 1, t, a, b =>
    match P.underlying t, a, b with
    | some .bool, .bool x, .bool y => some (x == y)
    | some (.int _), .int k x, .int k' y => if k = k' then some (x == y) else none
    | some .string, .str x, .str y => some (x.toList == y.toList)
    | some (.struct fs), .agg xs, .agg ys => if P.stoodInHeld t then none else eqFs P (eqA P d) xs ys fs.toList
    | _, _, _ => none

section
variable {P : Program} {ρ : Nat → Nat} {A : Nat → Prop} {w : World} {n : Nat → Prop}

theorem partA_run {t : TypeId} {cs : List AV} {vs : List Value} {off : Nat} {a : AV} (h : partA P t cs off = some a) (hr : Rvs ρ A w n cs vs) (w' : World) :
    ∃ u, (part t vs.toArray off).run P w' = .ok u w' ∧ Rv ρ A w n a u := by
  unfold partA at h
  split at h
  · rename_i k hg hk
    simp only [Option.some.injEq] at h
    subst h
    refine ⟨.agg ((vs.drop off).take k).toArray, ?_, ?_⟩
    · simp [part, run_isAgg hg, run_sizeOf hk, List.extract_eq_take_drop]
    · have := (hr.drop off).take k
      exact .agg this.1 this.2
  · rename_i hg
    obtain ⟨u, hu, hr⟩ := hr.get h
    exact ⟨u, by simp [part, run_isAgg hg, hu], hr⟩
  · simp at h

theorem eqA_run (d : Nat) : (∀ (t : TypeId) (a b : AV) (x y : Value) (r : Bool), eqA P d t a b = some r → Rv ρ A w n a x → Rv ρ A w n b y → ∀ w', (Op.equalIn d t x y).run P w' = .ok r w') := by
  induction d with
  | zero => intro t a b x y r h; simp [eqA] at h
  | succ d ih =>
    intro t a b x y r h hx hy w'
    simp only [eqA] at h
    split at h
    · rename_i hu
      cases hx.of_bool; cases hy.of_bool; simp only [Option.some.injEq] at h; subst h
      simp [Op.equalIn, run_underlying' hu]
    · rename_i hu
      cases hx.of_int; cases hy.of_int
      split at h
      · rename_i hk; subst hk; simp only [Option.some.injEq] at h; subst h
        simp [Op.equalIn, run_underlying' hu]
      · simp at h
    · rename_i hu
      cases hx.of_str; cases hy.of_str; simp only [Option.some.injEq] at h; subst h
      simp [Op.equalIn, run_underlying' hu, beq_toListBytes]
    · rename_i fs xs ys hu
      obtain ⟨vs, rfl, hvs⟩ := hx.of_agg
      obtain ⟨us, rfl, hus⟩ := hy.of_agg
      split at h
      · simp at h
      · rename_i hs
        have hf : P.fieldsOf t = fs := by simp [Program.fieldsOf, hu]
        rw [run_equalIn_struct w' d t _ _ (by rw [hf]; exact hu) (by simpa using hs), hf]
        clear hf hu hs
        generalize fs.toList = l at h
        induction l generalizing r w' with
        | nil => simp [eqFs] at h; subst h; simp [Op.eqFields]
        | cons f l ih2 =>
          simp only [eqFs] at h
          simp only [Op.eqFields]
          split at h
          · rename_i hn
            rw [if_pos hn]
            split at h
            · rename_i a b ha hb
              split at h
              · rename_i r1 r2 h1 h2
                simp only [Option.some.injEq] at h
                subst h
                obtain ⟨u1, hu1, hr1⟩ := partA_run ha hvs w'
                obtain ⟨u2, hu2, hr2⟩ := partA_run hb hus w'
                simp only [Sem.run_bind, hu1, hu2, Result.andThen_ok, ih _ _ _ _ _ _ h1 hr1 hr2 w']
                cases r1 with
                | true => simpa using ih2 _ w' h2
                | false => simp
              · simp at h
            · simp at h
          · rename_i hn
            rw [if_neg hn]
            exact ih2 _ w' h
    · simp at h
end

/-! binary operators -/
def arithA (op : BinOp) (k : IntKind) (x y : Int) : Option (Bool × AV) :=
  match op with
  | .add => some (true, .int k (k.wrap (x + y)))
  | .sub => some (true, .int k (k.wrap (x - y)))
  | .mul => some (true, .int k (k.wrap (x * y)))
  | .quo => some (!(decide (y = 0)), .int k (k.wrap (x.tdiv y)))
  | .rem => some (!(decide (y = 0)), .int k (x.tmod y))
  | .and => some (true, .int k (k.wrap (BitVec.ofInt k.bits x &&& BitVec.ofInt k.bits y).toNat))
  | .or => some (true, .int k (k.wrap (BitVec.ofInt k.bits x ||| BitVec.ofInt k.bits y).toNat))
  | .xor => some (true, .int k (k.wrap (BitVec.ofInt k.bits x ^^^ BitVec.ofInt k.bits y).toNat))
  | .andNot => some (true, .int k (k.wrap (BitVec.ofInt k.bits x &&& ~~~BitVec.ofInt k.bits y).toNat))
  | .eql => some (true, .bool (x == y))
  | .neq => some (true, .bool (x != y))
  | .lss => some (true, .bool (decide (x < y)))
  | .leq => some (true, .bool (decide (x ≤ y)))
  | .gtr => some (true, .bool (decide (x > y)))
  | .geq => some (true, .bool (decide (x ≥ y)))
  | _ => none
def shiftA (op : BinOp) (k : IntKind) (x y : Int) : Option (Bool × AV) :=
  match op with
  | .shl => some (!(decide (y < 0)), .int k (k.wrap (x * 2 ^ (min y.toNat k.bits))))
  | .shr => some (!(decide (y < 0)), .int k (x.fdiv (2 ^ (min y.toNat k.bits))))
  | _ => none
def strA (op : BinOp) (x y : ByteArray) : Option (Bool × AV) :=
  match op with
  | .add => some (decide (((x.size + y.size : Nat) : Int) ≤ IntKind.i64.max), .str (x ++ y))
  | .eql => some (true, .bool (x.toList == y.toList))
  | .neq => some (true, .bool (!(x.toList == y.toList)))
  | .lss => some (true, .bool (Op.bytesLess x.toList y.toList))
  | .leq => some (true, .bool (Op.bytesLess x.toList y.toList || x.toList == y.toList))
  | .gtr => some (true, .bool (!(Op.bytesLess x.toList y.toList || x.toList == y.toList)))
  | .geq => some (true, .bool (!(Op.bytesLess x.toList y.toList)))
  | _ => none
def isShift : BinOp → Bool
  | .shl | .shr => true
  | _ => false
def binA (P : Program) (op : BinOp) (t : TypeId) (a b : AV) : Option (Bool × AV) :=
  match a, b with
  | .int k x, .int k' y => if isShift op then shiftA op k x y else if k = k' then arithA op k x y else none
  | .str x, .str y => strA op x y
  | .bool _, .bool _ => match op with
    | .eql => (eqA P 10000 t a b).map fun r => (true, .bool r)
    | .neq => (eqA P 10000 t a b).map fun r => (true, .bool (!r))
    | _ => none
  | .agg _, .agg _ => if P.eqGuardType P.depth t then none else match op with
    | .eql => (eqA P 10000 t a b).map fun r => (true, .bool r)
    | .neq => (eqA P 10000 t a b).map fun r => (true, .bool (!r))
    | _ => none
  | _, _ => none

section
variable {P : Program} {ρ : Nat → Nat} {A : Nat → Prop} {w : World} {n : Nat → Prop}

theorem arithA_run {op : BinOp} {k : IntKind} {x y : Int} {c : Bool} {v : AV} (hs : isShift op = false) (h : arithA op k x y = some (c, v)) (hc : c = true) (t : TypeId) (w' : World) :
    ∃ u, (binOp op t (.int k x) (.int k y)).run P w' = .ok u w' ∧ Rv ρ A w n v u := by
  subst hc
  cases op <;> simp only [arithA, Option.some.injEq, Prod.mk.injEq, true_and, reduceCtorEq] at h <;>
    first
    | (subst h; exact ⟨_, by simp only [binOp, Op.intArith, Op.intBits, Op.intCmp, ne_eq, not_true_eq_false, if_false]; rfl, by constructor⟩)
    | (obtain ⟨h0, rfl⟩ := h
       simp only [Bool.not_eq_true', decide_eq_false_iff_not] at h0
       exact ⟨_, by simp only [binOp, Op.intDiv, ne_eq, not_true_eq_false, if_false, h0]; rfl, by constructor⟩)
    | (exact absurd hs (by decide))
theorem shiftA_run {op : BinOp} {k k' : IntKind} {x y : Int} {c : Bool} {v : AV} (h : shiftA op k x y = some (c, v)) (hc : c = true) (t : TypeId) (w' : World) :
    ∃ u, (binOp op t (.int k x) (.int k' y)).run P w' = .ok u w' ∧ Rv ρ A w n v u := by
  subst hc
  cases op <;> simp only [shiftA, Option.some.injEq, Prod.mk.injEq, reduceCtorEq] at h <;>
    (obtain ⟨h0, rfl⟩ := h
     simp only [Bool.not_eq_true', decide_eq_false_iff_not] at h0
     exact ⟨_, by simp [binOp, Op.shift, h0]; rfl, by constructor⟩)
theorem strA_run {op : BinOp} {x y : ByteArray} {c : Bool} {v : AV} (h : strA op x y = some (c, v)) (hc : c = true) (t : TypeId) (w' : World) :
    ∃ u, (binOp op t (.string x) (.string y)).run P w' = .ok u w' ∧ Rv ρ A w n v u := by
  subst hc
  cases op <;> simp only [strA, Option.some.injEq, Prod.mk.injEq, true_and, reduceCtorEq] at h <;>
    first
    | (subst h; exact ⟨_, by simp only [binOp, Op.stringOp]; rfl, by constructor⟩)
    | (obtain ⟨h0, rfl⟩ := h
       simp only [decide_eq_true_eq] at h0
       exact ⟨_, by simp only [binOp, Op.stringOp]; rw [if_neg (by omega)]; rfl, by constructor⟩)

theorem binA_run {op : BinOp} {t : TypeId} {a b : AV} {x y : Value} {c : Bool} {v : AV} (h : binA P op t a b = some (c, v)) (hc : c = true)
    (hx : Rv ρ A w n a x) (hy : Rv ρ A w n b y) (ox oy : Operand) (w' : World) :
    ∃ u, ((do eqGuard op t ox oy x y; binOp op t x y) : Sem Value).run P w' = .ok u w' ∧ Rv ρ A w n v u := by
  unfold binA at h
  split at h
  · rename_i k p k' q
    cases hx.of_int; cases hy.of_int
    have hg : (eqGuard op t ox oy (.int k p) (.int k' q)).run P w' = .ok () w' := by cases op <;> simp [eqGuard]
    simp only [Sem.run_bind, hg, Result.andThen_ok]
    split at h
    · exact shiftA_run h hc t w'
    · rename_i hs
      split at h
      · rename_i hk; subst hk; exact arithA_run (by simpa using hs) h hc t w'
      · simp at h
  · rename_i p q
    cases hx.of_str; cases hy.of_str
    have hg : (eqGuard op t ox oy (.string p) (.string q)).run P w' = .ok () w' := by cases op <;> simp [eqGuard]
    simp only [Sem.run_bind, hg, Result.andThen_ok]
    exact strA_run h hc t w'
  · rename_i p q
    have hxb := hx.of_bool; have hyb := hy.of_bool
    have hg : (eqGuard op t ox oy x y).run P w' = .ok () w' := by subst hxb hyb; cases op <;> simp [eqGuard]
    simp only [Sem.run_bind, hg, Result.andThen_ok]
    split at h
    · obtain ⟨r, hr, h2⟩ := Option.map_eq_some_iff.1 h
      simp only [Prod.mk.injEq] at h2
      obtain ⟨_, rfl⟩ := h2
      have := eqA_run _ _ _ _ _ _ _ hr hx hy w'
      subst hxb hyb
      exact ⟨.bool r, by simp [binOp, Op.equal, Op.maxDepth, this], .bool⟩
    · obtain ⟨r, hr, h2⟩ := Option.map_eq_some_iff.1 h
      simp only [Prod.mk.injEq] at h2
      obtain ⟨_, rfl⟩ := h2
      have := eqA_run _ _ _ _ _ _ _ hr hx hy w'
      subst hxb hyb
      exact ⟨.bool (!r), by simp [binOp, Op.equal, Op.maxDepth, this], .bool⟩
    · simp at h
  · rename_i p q
    split at h
    · simp at h
    · rename_i hm
      obtain ⟨vs, rfl, hvs⟩ := hx.of_agg
      obtain ⟨us, rfl, hus⟩ := hy.of_agg
      have hg : (eqGuard op t ox oy (.agg vs.toArray) (.agg us.toArray)).run P w' = .ok () w' := run_eqGuard_agg w' op t ox oy _ _ (by simpa using hm)
      simp only [Sem.run_bind, hg, Result.andThen_ok]
      split at h
      · obtain ⟨r, hr, h2⟩ := Option.map_eq_some_iff.1 h
        simp only [Prod.mk.injEq] at h2
        obtain ⟨_, rfl⟩ := h2
        have := eqA_run _ _ _ _ _ _ _ hr hx hy w'
        exact ⟨.bool r, by rw [run_eql_struct, this]; rfl, .bool⟩
      · obtain ⟨r, hr, h2⟩ := Option.map_eq_some_iff.1 h
        simp only [Prod.mk.injEq] at h2
        obtain ⟨_, rfl⟩ := h2
        have := eqA_run _ _ _ _ _ _ _ hr hx hy w'
        exact ⟨.bool (!r), by rw [run_neq_struct, this]; rfl, .bool⟩
      · simp at h
  · simp at h
end
end Go.Evl
