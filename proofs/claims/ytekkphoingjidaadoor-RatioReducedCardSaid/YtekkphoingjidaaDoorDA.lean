/- The ratio seat's context: the recovering wrapper, carries, Itoa, wide products; awake runs to true. Conditions: the table of powers of ten is laid. -/
import Derived.Test.YtekkphoingjidaaDoorEvV
import Derived.Test.YtekkphoingjidaaDoorChecked
import Derived.Test.YtekkphoingjidaaDoorDS
import Derived.Laws.Externs
import Derived.Lib.ItoaNum
import Derived.Lib.LaidTab
import Derived.KernelRfl
namespace Go.Proofs.YtekkphoingjidaaDoor
open Go.Evl Go.RowKit

noncomputable def codeOf (P : Program) (f : Nat) : Code := match P.funcs[f]? with
  | some fn => fn.body.getD .skip
  | none => .skip
noncomputable def fnOf (P : Program) (f : Nat) : Func := (P.funcs[f]?).getD default
noncomputable def att0 : Att := { fa := 0, fna := default, A := .skip, id1 := 0, om := default, od := default, C := .skip, t := 0, g := 0, fng := default, id2 := 0, orec := default, obin := default, dr := 0, db := 0, ti := 0, tj := 0, X := .skip }
noncomputable def attOf (P : Program) (fa g : Nat) : Att :=
  match codeOf P fa, codeOf P g with
  | .seq A (.seq (.region id1 o1 _) C), .seq (.region id2 o2 _) (.cond _ X _) =>
    match o1[0]?, o1[1]?, o2[0]?, o2[1]? with
    | some om, some od, some orec, some obin =>
      { fa := fa, fna := fnOf P fa, A := A, id1 := id1, om := om, od := od, C := C, t := om.dst.getD 0, g := g, fng := fnOf P g, id2 := id2, orec := orec, obin := obin, dr := orec.dst.getD 0, db := obin.dst.getD 0,
        ti := (match obin.op with | .binOp _ t _ _ _ => t | _ => 0), tj := (match obin.op with | .binOp _ _ _ _ t => t | _ => 0), X := X }
    | _, _, _, _ => att0
  | _, _ => att0

noncomputable def tD : Att := attOf Tryd.prog 34 62
noncomputable def attD (f : FuncId) : Option Att := bif Nat.beq f 34 then some tD else none

theorem tD_ok : tD.Ok Tryd.prog where
  hfa := by kernel_rfl
  hba := by kernel_rfl
  hod := by kernel_rfl
  hodg := by kernel_rfl
  hodd := by kernel_rfl
  hfg := by kernel_rfl
  hgn := by kernel_rfl
  hbg := by kernel_rfl
  hrec := by kernel_rfl
  hrecg := by kernel_rfl
  hrecd := by kernel_rfl
  hbin := by kernel_rfl
  hbing := by kernel_rfl
  hbind := by kernel_rfl
  hdr := of_decide_eq_true (by kernel_rfl)
  hdb := of_decide_eq_true (by kernel_rfl)
  hres := by kernel_rfl
  hti := by kernel_rfl
  hne := of_decide_eq_true (by kernel_rfl)
theorem attD_ok : ∀ f T, attD f = some T → T.fa = f ∧ T.Ok Tryd.prog := by
  intro f T h
  unfold attD at h
  cases hb : Nat.beq f 34 with
  | false => simp [hb] at h
  | true =>
    simp only [hb, cond_true, Option.some.injEq] at h
    subst h
    refine ⟨?_, tD_ok⟩
    rw [Nat.eq_of_beq_eq_true hb]
    kernel_rfl
theorem mixedD : Tryd.prog.follows .mixedOrders = true := by kernel_rfl

def InvD (w : World) : Prop := Lib.TabIs Tryd.prog w "internal/strconv.uint64pow10" .u64 Lib.pow10Tab
theorem stableD : Stable InvD := by
  intro w w' h hb
  unfold InvD Lib.TabIs World.var? at *
  obtain ⟨g, hg, h2⟩ := Option.bind_eq_some_iff.1 h
  rw [hg]
  show (match w'.heap[g]? with | some (.cells cs _ _) => some cs | _ => none) = _
  cases ho : w.heap[g]? with
  | none => rw [ho] at h2; simp at h2
  | some o =>
    rw [hb.block g (lt_of_heap ho), ← h2]
    rfl

theorem rvs_int1 {ρ : Nat → Nat} {A : Nat → Prop} {w : World} {n : Nat → Prop} {k : IntKind} {x : Int} {vs : List Value} (h : Rvs ρ A w n [.int k x] vs) : vs = [.int k x] := by
  obtain ⟨hl, hv⟩ := h
  match vs, hl with
  | [u], _ => have := hv 0 (by simp) (by simp); simp only [List.getElem_cons_zero] at this; rw [this.of_int]
theorem rvs_int2 {ρ : Nat → Nat} {A : Nat → Prop} {w : World} {n : Nat → Prop} {k k' : IntKind} {x y : Int} {vs : List Value} (h : Rvs ρ A w n [.int k x, .int k' y] vs) : vs = [.int k x, .int k' y] := by
  obtain ⟨hl, hv⟩ := h
  match vs, hl with
  | [u, v], _ =>
    have h0 := hv 0 (by simp) (by simp)
    have h1 := hv 1 (by simp) (by simp)
    simp only [List.getElem_cons_zero, List.getElem_cons_succ] at h0 h1
    rw [h0.of_int, h1.of_int]
theorem rvs_int3 {ρ : Nat → Nat} {A : Nat → Prop} {w : World} {n : Nat → Prop} {k k' k2 : IntKind} {x y z : Int} {vs : List Value} (h : Rvs ρ A w n [.int k x, .int k' y, .int k2 z] vs) : vs = [.int k x, .int k' y, .int k2 z] := by
  obtain ⟨hl, hv⟩ := h
  match vs, hl with
  | [u, v, t], _ =>
    have h0 := hv 0 (by simp) (by simp)
    have h1 := hv 1 (by simp) (by simp)
    have h2 := hv 2 (by simp) (by simp)
    simp only [List.getElem_cons_zero, List.getElem_cons_succ] at h0 h1 h2
    rw [h0.of_int, h1.of_int, h2.of_int]

def add64A : List AV → Option (Bool × AV)
  | [.int .u64 x, .int .u64 y, .int .u64 c] => some (decide (0 ≤ x) && decide (0 ≤ y) && decide (0 ≤ c) && decide (c ≤ 1), .tup [.int .u64 ((x + y + c) % 18446744073709551616), .int .u64 ((x + y + c) / 18446744073709551616)])
  | _ => none
def sub64A : List AV → Option (Bool × AV)
  | [.int .u64 x, .int .u64 y, .int .u64 c] => some (decide (0 ≤ x) && decide (0 ≤ y) && decide (y < 18446744073709551616) && decide (0 ≤ c) && decide (c ≤ 1), .tup [.int .u64 ((x - y - c) % 18446744073709551616), .int .u64 (bif decide (x < y + c) then 1 else 0)])
  | _ => none
def extD (f : FuncId) : Option (List AV → Option (Bool × AV)) := bif Nat.beq f 77 then some add64A else bif Nat.beq f 78 then some sub64A else none

theorem add64_run (x y c : Int) (hx : 0 ≤ x) (hy : 0 ≤ y) (h0 : 0 ≤ c) (h1 : c ≤ 1) (w : World) :
    (callFunc 77 #[.int .u64 x, .int .u64 y, .int .u64 c]).run Tryd.prog w = .ok (.value (.tuple #[.int .u64 ((x + y + c) % 18446744073709551616), .int .u64 ((x + y + c) / 18446744073709551616)])) w := by
  rw [run_callFunc_extern Tryd.func77 (by kernel_rfl) (by kernel_rfl) (by kernel_rfl) (e := add64Entry) (by kernel_rfl), run_add64 x y c hx hy h0 h1]
  rfl
def sub64E : Array Value → Sem Value := match Extern.MathBitsCarry.rows with
  | _ :: p :: _ => p.2
  | _ => fun _ => pure .nilFunc
theorem sub64E_run (x y b : Nat) (hb : b ≤ 1) (w : World) : (sub64E #[.int .u64 x, .int .u64 y, .int .u64 b]).run Tryd.prog w =
    .ok (.tuple #[.int .u64 (((x + 18446744073709551616 - y - b) % 18446744073709551616 : Nat) : Int), .int .u64 ((if x < y + b then 1 else 0 : Nat) : Int)]) w := by
  have : b = 0 ∨ b = 1 := by omega
  rcases this with rfl | rfl <;> rfl
theorem sub64_run (x y c : Int) (hx : 0 ≤ x) (hy : 0 ≤ y) (hy1 : y < 18446744073709551616) (h0 : 0 ≤ c) (h1 : c ≤ 1) (w : World) :
    (callFunc 78 #[.int .u64 x, .int .u64 y, .int .u64 c]).run Tryd.prog w = .ok (.value (.tuple #[.int .u64 ((x - y - c) % 18446744073709551616), .int .u64 (bif decide (x < y + c) then 1 else 0)])) w := by
  obtain ⟨X, rfl⟩ := Int.eq_ofNat_of_zero_le hx
  obtain ⟨Y, rfl⟩ := Int.eq_ofNat_of_zero_le hy
  obtain ⟨C, rfl⟩ := Int.eq_ofNat_of_zero_le h0
  rw [run_callFunc_extern Tryd.func78 (by kernel_rfl) (by kernel_rfl) (by kernel_rfl) (e := sub64E) (by kernel_rfl), sub64E_run X Y C (by omega)]
  have e1 : (((X + 18446744073709551616 - Y - C) % 18446744073709551616 : Nat) : Int) = ((X : Int) - Y - C) % 18446744073709551616 := by omega
  have e2 : ((if X < Y + C then 1 else 0 : Nat) : Int) = (bif decide ((X : Int) < (Y : Int) + (C : Int)) then 1 else 0) := by
    by_cases h : X < Y + C
    · have h' : (X : Int) < (Y : Int) + (C : Int) := by omega
      simp [h, h']
    · have h' : ¬ (X : Int) < (Y : Int) + (C : Int) := by omega
      simp [h, h']
  rw [e1, e2]
  rfl

theorem rv_tup2 {ρ : Nat → Nat} {A : Nat → Prop} {w : World} {n : Nat → Prop} {k k' : IntKind} {x y : Int} : Rv ρ A w n (.tup [.int k x, .int k' y]) (.tuple #[.int k x, .int k' y]) :=
  .tup (vs := [.int k x, .int k' y]) rfl fun i h1 h2 => by
    match i, h1 with
    | 0, _ => exact .int
    | 1, _ => exact .int

theorem extD_ok : ExtHolds Tryd.prog extD := by
  intro f s hf args v hs ρ A w n vs hv
  unfold extD at hf
  cases h77 : Nat.beq f 77 with
  | true =>
    rw [h77] at hf
    simp only [cond_true, Option.some.injEq] at hf
    subst hf
    rw [Nat.eq_of_beq_eq_true h77]
    unfold add64A at hs
    split at hs
    · rename_i x y c
      simp only [Option.some.injEq, Prod.mk.injEq, Bool.and_eq_true, decide_eq_true_eq] at hs
      obtain ⟨⟨⟨⟨hx, hy⟩, h0⟩, h1⟩, rfl⟩ := hs
      rw [rvs_int3 hv]
      exact ⟨_, add64_run x y c hx hy h0 h1 w, rv_tup2⟩
    · simp at hs
  | false =>
    rw [h77] at hf
    simp only [cond_false] at hf
    cases h78 : Nat.beq f 78 with
    | false => simp [h78] at hf
    | true =>
      rw [h78] at hf
      simp only [cond_true, Option.some.injEq] at hf
      subst hf
      rw [Nat.eq_of_beq_eq_true h78]
      unfold sub64A at hs
      split at hs
      · rename_i x y c
        simp only [Option.some.injEq, Prod.mk.injEq, Bool.and_eq_true, decide_eq_true_eq] at hs
        obtain ⟨⟨⟨⟨⟨hx, hy⟩, hy1⟩, h0⟩, h1⟩, rfl⟩ := hs
        rw [rvs_int3 hv]
        exact ⟨_, sub64_run x y c hx hy hy1 h0 h1 w, rv_tup2⟩
      · simp at hs

/-! digits -/
def digF : Nat → Nat → List UInt8
  | 0, _ => []
  | n + 1, u => if u < 10 then [UInt8.ofNat (48 + u)] else digF n (u / 10) ++ [UInt8.ofNat (48 + u % 10)]
theorem digF_eq : ∀ (n u : Nat), u < 10 ^ n → 0 < n → digF n u = Lib.decDigits u := by
  intro n
  induction n with
  | zero => intro u _ h; omega
  | succ n ih =>
    intro u h _
    rw [Lib.decDigits]
    simp only [digF]
    by_cases hu : u < 10
    · simp [hu]
    · simp only [hu, if_false, dite_false]
      have hn : 0 < n := by
        rcases Nat.eq_zero_or_pos n with h0 | h0
        · subst h0; simp at h; omega
        · exact h0
      rw [ih (u / 10) (by rw [Nat.pow_succ] at h; omega) hn]
def itoaF (n : Int) : List UInt8 := if n < 0 then 45 :: digF 20 n.natAbs else digF 20 n.toNat
theorem itoaF_eq (n : Int) (h0 : -9223372036854775808 ≤ n) (h1 : n ≤ 9223372036854775807) : itoaF n = Lib.itoa n := by
  unfold itoaF Lib.itoa
  rw [digF_eq 20 _ (by omega) (by omega), digF_eq 20 _ (by omega) (by omega)]

def e76 : Ent := ⟨76, fun
  | [.int .i64 n, .int .i64 b] => .node (decide (b = 10) && (decide (-9223372036854775808 ≤ n) && decide (n ≤ 9223372036854775807))) (.leaf (.ret (.str ⟨(itoaF n).toArray⟩))) .non
  | _ => .non⟩
theorem e76_ok : SpecHolds Tryd.prog InvD 76 fun a => (e76.2 a).run := by
  intro args r h ρ A w vs hA hi hv
  simp only [e76] at h
  split at h
  · rename_i n b
    simp only [Tr.run] at h
    cases hc : (decide (b = 10) && (decide (-9223372036854775808 ≤ n) && decide (n ≤ 9223372036854775807))) with
    | false => rw [hc] at h; simp at h
    | true =>
      rw [hc] at h
      simp only [cond_true, Option.some.injEq] at h
      subst h
      simp only [Bool.and_eq_true, decide_eq_true_eq] at hc
      obtain ⟨rfl, h0, h1⟩ := hc
      rw [rvs_int2 hv]
      refine (Tryd.internal_strconv_FormatInt_10 n h0 h1 w hi).mono ?_
      rintro e w' ⟨rfl, k, os, rfl⟩
      refine ⟨⟨rfl, rfl, rfl, by simp [Sort.grow, World.drewN], fun j hj => ?_⟩, _, rfl, ?_⟩
      · exact (Sort.heap_grow_old (w.drewN k) os (show j < (w.drewN k).heap.size from hj)).trans rfl
      · rw [itoaF_eq n h0 h1]; exact .str
  · simp [Tr.run] at h

/-! awake, by its run -/
def slD : List FuncId := [11,13,15,17,20,21,36,37,38,42,44,46,48,52,53,54,63,64,65,66,67,68,69,70,79,80,91,100]
def ilD : List FuncId := [34,35,45,47]
def uD (_ : FuncId) (_ : Nat) : Nat := 200
noncomputable def spA (n : Nat) : Sp := autoSp Tryd.prog [e76] slD ilD extD attD uD n
theorem spA_ok (n : Nat) : (mkCx Tryd.prog (spA n) (inlOf ilD) extD).Ok InvD :=
  autoSp_ok attD_ok (by kernel_rfl) extD_ok (fun p hp => by simp only [List.mem_singleton] at hp; subst hp; exact e76_ok) stableD mixedD n

def e19 : Ent := ⟨19, fun
  | [] => .leaf (.ret (.bool true))
  | _ => .non⟩
theorem awake_run : (callK Tryd.prog (spA 6) (inlOf ilD) extD attD uD 40 19 [] [] fun r _ => some r) = some (.ret (.bool true)) := by kernel_rfl
theorem e19_ok : SpecHolds Tryd.prog InvD 19 fun a => (e19.2 a).run := by
  intro args r h
  simp only [e19] at h
  split at h
  · simp only [Tr.run, Option.some.injEq] at h
    subst h
    refine auto_spec (u := uD) attD_ok (spA_ok 6) stableD mixedD 40 19 [] (.ret (.bool true)) ?_
    show Option.filter okRes (callK Tryd.prog (spA 6) (inlOf ilD) extD attD uD 40 19 [] [] fun r _ => some r) = _
    rw [awake_run]
    rfl
  · simp [Tr.run] at h
end Go.Proofs.YtekkphoingjidaaDoor
