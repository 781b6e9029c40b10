/- IntervalDecides returns true for every input, and its arguments read as they did. No condition. -/
import Derived.Test.YtekkphoingjidaaCore6
/- IntervalDecides: its loop over the operators. Conditions: none beyond the context's. -/
namespace Go.Proofs.Ytekkphoingjidaa
open Go.Evl Go.RowKit

abbrev keep3 : List Nat := [4, 5, 6, 7, 9, 10, 32]
def mk6 (x0 x1 x2 x3 x4 x5 : Int) (r : Nat → List AV) : Nat → List AV
  | 0 => [.int .i64 x0]
  | 1 => [.int .i64 x1]
  | 2 => [.int .i64 x2]
  | 3 => [.int .i64 x3]
  | 4 => [.int .i64 x4]
  | 5 => [.int .i64 x5]
  | n + 6 => r n
def isI (x : Int) : List AV → Bool
  | [.int .i64 y] => decide (y = x)
  | _ => false
theorem isI_eq {x : Int} {l : List AV} (h : isI x l = true) : l = [.int .i64 x] := by
  unfold isI at h
  split at h
  · rw [of_decide_eq_true h]
  · simp at h
def is6 (el : Nat → List AV) (x0 x1 x2 x3 x4 x5 : Int) : Bool := isI x0 (el 0) && (isI x1 (el 1) && (isI x2 (el 2) && (isI x3 (el 3) && (isI x4 (el 4) && isI x5 (el 5)))))
theorem is6_eq {el : Nat → List AV} {x0 x1 x2 x3 x4 x5 : Int} (h : is6 el x0 x1 x2 x3 x4 x5 = true) : el = mk6 x0 x1 x2 x3 x4 x5 fun n => el (n + 6) := by
  simp only [is6, Bool.and_eq_true] at h
  obtain ⟨h0, h1, h2, h3, h4, h5⟩ := h
  funext n
  match n with
  | 0 => exact isI_eq h0
  | 1 => exact isI_eq h1
  | 2 => exact isI_eq h2
  | 3 => exact isI_eq h3
  | 4 => exact isI_eq h4
  | 5 => exact isI_eq h5
  | n + 6 => rfl
abbrev vs3 (e1 e2 : Nat → List AV) (i : Int) : List AV := [.ptr 0 0, .ptr 1 0, .ptr 2 0, .ptr 3 0, .isl 6 1 e1, .isl 6 1 e2, .int .i64 i]
def f3s : List AV → List Ob → Tr (Ex × List AV × List Ob)
  | [.ptr 0 0, .ptr 1 0, .ptr 2 0, .ptr 3 0, .isl 6 1 e1, .isl 6 1 e2, .int .i64 i], [.cells [.int .i64 a, .int .i64 b, .int .i64 c, .int .i64 d] 25, .cells [.int .i64 e, .int .i64 f, .int .i64 g, .int .i64 h] 25, .cells [.int .i64 p, .int .i64 q] 23, .cells [.int .i64 r, .int .i64 s] 23] =>
    .chk ((is6 e1 6 5 10 9 8 7 && is6 e2 5 6 9 10 7 8) && (vV (a, b, c, d) (e, f, g, h) && (decide (0 ≤ i) && decide (i ≤ 6)))) (.leaf (.exit 0, vs3 e1 e2 6, hp9 a b c d e f g h p q r s))
  | _, _ => .non
abbrev sp3 : List Ent := [i11, i12, i14, i15, iAw]
abbrev lp3 (i : Nat) : LT := bif Nat.beq i 0 then .sum keep3 f3s else .unroll 0
theorem jx3 : (mkCx Try.prog (spOf sp3) (inlOf []) extD).Ok InvD := cx_of [] (by kernel_rfl) (by
  intro p hp
  simp only [sp3, List.mem_cons, List.not_mem_nil, or_false] at hp
  rcases hp with rfl | rfl | rfl | rfl | rfl
  · exact i11_ok
  · exact i12_ok
  · exact i14_ok
  · exact i15_ok
  · exact iAw_ok)
noncomputable def rd3 (i : Int) (r1 r2 : Nat → List AV) (a b c d e f g h p q r s : Int) : Option (Ex × List AV × List Ob) :=
  evC (β := Ex × List AV × List Ob) Try.prog (spOf sp3) (inlOf []) extD (cKD sp3 []) lp3 (bodyOf Try.prog 3 0) ⟨mkF Try.f3.ntmps keep3 (vs3 (mk6 6 5 10 9 8 7 r1) (mk6 5 6 9 10 7 8 r2) i), hp9 a b c d e f g h p q r s⟩ (fun e st => (cutBack keep3 4 st).map fun q => (e, q.1, q.2))
end Go.Proofs.Ytekkphoingjidaa

/- IntervalDecides' walk. Conditions: none beyond the context's. -/
namespace Go.Proofs.Ytekkphoingjidaa
open Go.Evl Go.RowKit

def E3 {α : Type} (n q : Int) (N X : α) : α := bif q != n then X else N
def D3 {α : Type} (n m q : Int) (N X : α) : α := bif n != -1 then bif m != IntKind.i64.wrap (1 - n) then X else E3 n q N X else E3 n q N X
def C3 {α : Type} (n m q : Int) (N X : α) : α := bif decide (n < -1) then X else bif decide (n > 1) then X else bif n == -1 then bif m == -1 then D3 n m q N X else X else bif m == -1 then X else D3 n m q N X
def B3 {α : Type} (i1 i2 ho : Bool) (n m q : Int) (N X : α) : α := bif i1 then bif i2 then bif n != -1 then bif n == 1 then bif ho then C3 n m q N X else X else bif ho then X else C3 n m q N X else C3 n m q N X else C3 n m q N X else C3 n m q N X
abbrev N3 (i : Int) (r1 r2 : Nat → List AV) (a b c d e f g h p q r s : Int) : Option (Ex × List AV × List Ob) := some (.normal, vs3 (mk6 6 5 10 9 8 7 r1) (mk6 5 6 9 10 7 8 r2) (i + 1), hp9 a b c d e f g h p q r s)
abbrev X3 (i : Int) (r1 r2 : Nat → List AV) (a b c d e f g h p q r s : Int) : Option (Ex × List AV × List Ob) := some (.ret, vs3 (mk6 6 5 10 9 8 7 r1) (mk6 5 6 9 10 7 8 r2) i, hp9 a b c d e f g h p q r s)
theorem C3_eq {α : Type} {n m q : Int} {N X : α} (h0 : -1 ≤ n) (h1 : n ≤ 1) (hm : m = opp n) (hq : q = n) : C3 n m q N X = N := by
  have cs : n = -1 ∨ n = 0 ∨ n = 1 := by omega
  subst hm hq
  rcases cs with rfl | rfl | rfl <;> rfl
theorem B3_eq {α : Type} {i1 i2 ho : Bool} {n m q : Int} {N X : α} (h0 : -1 ≤ n) (h1 : n ≤ 1) (hm : m = opp n) (hq : q = n) (hh : i1 = true → i2 = true → n ≠ -1 → (n == 1) = ho) : B3 i1 i2 ho n m q N X = N := by
  have hc : C3 n m q N X = N := C3_eq h0 h1 hm hq
  unfold B3
  rw [hc]
  cases i1 with
  | false => rfl
  | true =>
    cases i2 with
    | false => rfl
    | true =>
      by_cases hn : n = -1
      · subst hn; rfl
      · have := hh rfl rfl hn
        rw [← this, show (n != -1) = true from bne_iff_ne.2 hn]
        cases n == 1 <;> rfl
theorem opp_opp {x : Int} (h0 : -1 ≤ x) (h1 : x ≤ 1) : opp (opp x) = x := by
  have cs : x = -1 ∨ x = 0 ∨ x = 1 := by omega
  rcases cs with rfl | rfl | rfl <;> rfl
theorem opp_range {x : Int} (h0 : -1 ≤ x) (h1 : x ≤ 1) : -1 ≤ opp x ∧ opp x ≤ 1 := by unfold opp; split <;> omega
section
variable {a b c d e f g h p q r s : Int}
theorem eqI_swap (hv : vB a b c d e f g h = true) : eqI e f g h a b c d = eqI a b c d e f g h := by
  rw [eqI_key hv, eqI_key (by rw [vB_swap, hv])]
  congr 1
  · rw [Bool.eq_iff_iff]
    simp only [Bool.and_eq_true, decide_eq_true_eq]
    constructor
    · rintro ⟨⟨h1, h2⟩, h3⟩; exact ⟨⟨by grind, by grind⟩, by grind⟩
    · rintro ⟨⟨h1, h2⟩, h3⟩; exact ⟨⟨by grind, by grind⟩, by grind⟩
  · rw [Bool.or_comm]
theorem cm_key {a b c d : Int} (h1 : okB a b = true) (h2 : okB c d = true) : (cmpR a b c d < 0 ↔ key a b < key c d) ∧ (cmpR a b c d = 0 ↔ key a b = key c d) ∧ (0 < cmpR a b c d ↔ key c d < key a b) := by
  have k1 := dlt h1 h2
  have k2 := deq h1 h2
  have k3 := dgt h1 h2
  refine ⟨?_, ?_, ?_⟩
  · rw [← decide_eq_decide]; exact k1
  · constructor
    · intro h; rw [h] at k2; exact of_decide_eq_true k2.symm
    · intro h; rw [decide_eq_true h] at k2; exact beq_iff_eq.1 k2
  · rw [← decide_eq_decide]; exact k3
theorem dcI_one {x y : Bool} (h : dcI x y ≠ -1) : (dcI x y == 1) = x ∧ (x = true ∨ y = true) := by
  cases x <;> cases y <;> simp_all [dcI]
theorem ho_eq (hv : vB a b c d e f g h = true) (h1 : inB p q a b c d = true) (h2 : inB r s e f g h = true) (hn : eqI a b c d e f g h ≠ -1) : (eqI a b c d e f g h == 1) = decide (cmpR p q r s = 0) := by
  obtain ⟨k1, _, k3, k4⟩ := (inB_iff (X := (a, b, c, d))).1 h1
  obtain ⟨k5, _, k7, k8⟩ := (inB_iff (X := (e, f, g, h))).1 h2
  have ck := (cm_key k1 k5).2.1
  rw [eqI_key hv] at hn ⊢
  obtain ⟨e1, e2⟩ := dcI_one hn
  rw [e1, Bool.eq_iff_iff]
  simp only [Bool.and_eq_true, Bool.or_eq_true, decide_eq_true_eq] at e2 ⊢
  rw [ck]
  constructor
  · rintro ⟨⟨j1, j2⟩, j3⟩; grind
  · intro j
    rcases e2 with e2 | e2 | e2
    · exact e2
    · exfalso; grind
    · exfalso; grind
theorem ho_ls (hv : vB a b c d e f g h = true) (h1 : inB p q a b c d = true) (h2 : inB r s e f g h = true) (hn : lsI a b c d e f g h ≠ -1) : (lsI a b c d e f g h == 1) = decide (cmpR p q r s < 0) := by
  obtain ⟨k1, _, k3, k4⟩ := (inB_iff (X := (a, b, c, d))).1 h1
  obtain ⟨k5, _, k7, k8⟩ := (inB_iff (X := (e, f, g, h))).1 h2
  have ck := (cm_key k1 k5).1
  rw [lsI_key hv] at hn ⊢
  obtain ⟨e1, e2⟩ := dcI_one hn
  rw [e1, Bool.eq_iff_iff]
  simp only [decide_eq_true_eq] at e2 ⊢
  rw [ck]
  constructor
  · intro j; grind
  · intro j
    rcases e2 with e2 | e2
    · exact e2
    · exfalso; grind
theorem ho_opp {x : Int} {t u : Bool} (h0 : -1 ≤ x) (h1 : x ≤ 1) (h : x ≠ -1 → (x == 1) = t) (hu : u = !t) (hn : opp x ≠ -1) : (opp x == 1) = u := by
  have cs : x = -1 ∨ x = 0 ∨ x = 1 := by omega
  subst hu
  rcases cs with rfl | rfl | rfl
  · exact absurd rfl hn
  · rw [← h (by decide)]; rfl
  · rw [← h (by decide)]; rfl
theorem cm_swap : cmpR r s p q = -cmpR p q r s := cmpR_swap
end
theorem eqI_range (a b c d e f g h : Int) : -1 ≤ eqI a b c d e f g h ∧ eqI a b c d e f g h ≤ 1 := dcI_range _ _
theorem lsI_range (a b c d e f g h : Int) : -1 ≤ lsI a b c d e f g h ∧ lsI a b c d e f g h ≤ 1 := dcI_range _ _
section
variable (r1 r2 : Nat → List AV) (a b c d e f g h p q r s : Int)
theorem rd3_0 : rd3 0 r1 r2 a b c d e f g h p q r s = B3 (inB p q a b c d) (inB r s e f g h) (hoB 5 (cmpR p q r s)) (cmE 5 a b c d e f g h) (cmE 6 a b c d e f g h) (cmE 5 e f g h a b c d) (N3 0 r1 r2 a b c d e f g h p q r s) (X3 0 r1 r2 a b c d e f g h p q r s) := by kernel_rfl
theorem rd3_1 : rd3 1 r1 r2 a b c d e f g h p q r s = B3 (inB p q a b c d) (inB r s e f g h) (hoB 6 (cmpR p q r s)) (cmE 6 a b c d e f g h) (cmE 5 a b c d e f g h) (cmE 6 e f g h a b c d) (N3 1 r1 r2 a b c d e f g h p q r s) (X3 1 r1 r2 a b c d e f g h p q r s) := by kernel_rfl
theorem rd3_2 : rd3 2 r1 r2 a b c d e f g h p q r s = B3 (inB p q a b c d) (inB r s e f g h) (hoB 7 (cmpR p q r s)) (cmE 7 a b c d e f g h) (cmE 10 a b c d e f g h) (cmE 9 e f g h a b c d) (N3 2 r1 r2 a b c d e f g h p q r s) (X3 2 r1 r2 a b c d e f g h p q r s) := by kernel_rfl
theorem rd3_3 : rd3 3 r1 r2 a b c d e f g h p q r s = B3 (inB p q a b c d) (inB r s e f g h) (hoB 8 (cmpR p q r s)) (cmE 8 a b c d e f g h) (cmE 9 a b c d e f g h) (cmE 10 e f g h a b c d) (N3 3 r1 r2 a b c d e f g h p q r s) (X3 3 r1 r2 a b c d e f g h p q r s) := by kernel_rfl
theorem rd3_4 : rd3 4 r1 r2 a b c d e f g h p q r s = B3 (inB p q a b c d) (inB r s e f g h) (hoB 9 (cmpR p q r s)) (cmE 9 a b c d e f g h) (cmE 8 a b c d e f g h) (cmE 7 e f g h a b c d) (N3 4 r1 r2 a b c d e f g h p q r s) (X3 4 r1 r2 a b c d e f g h p q r s) := by kernel_rfl
theorem rd3_5 : rd3 5 r1 r2 a b c d e f g h p q r s = B3 (inB p q a b c d) (inB r s e f g h) (hoB 10 (cmpR p q r s)) (cmE 10 a b c d e f g h) (cmE 7 a b c d e f g h) (cmE 8 e f g h a b c d) (N3 5 r1 r2 a b c d e f g h p q r s) (X3 5 r1 r2 a b c d e f g h p q r s) := by kernel_rfl
theorem rd3_6 : rd3 6 r1 r2 a b c d e f g h p q r s = some (.exit 0, vs3 (mk6 6 5 10 9 8 7 r1) (mk6 5 6 9 10 7 8 r2) 6, hp9 a b c d e f g h p q r s) := by kernel_rfl
end
end Go.Proofs.Ytekkphoingjidaa

/- IntervalDecides' walk, joined. Conditions: none beyond the context's. -/
namespace Go.Proofs.Ytekkphoingjidaa
open Go.Evl Go.RowKit
theorem cmE_5 {a b c d e f g h : Int} (hv : vB a b c d e f g h = true) : cmE 5 a b c d e f g h = eqI a b c d e f g h := by unfold cmE; rw [hv]; rfl
theorem cmE_6 {a b c d e f g h : Int} (hv : vB a b c d e f g h = true) : cmE 6 a b c d e f g h = opp (eqI a b c d e f g h) := by unfold cmE; rw [hv]; rfl
theorem cmE_7 {a b c d e f g h : Int} (hv : vB a b c d e f g h = true) : cmE 7 a b c d e f g h = lsI a b c d e f g h := by unfold cmE; rw [hv]; rfl
theorem cmE_8 {a b c d e f g h : Int} (hv : vB a b c d e f g h = true) : cmE 8 a b c d e f g h = opp (lsI e f g h a b c d) := by unfold cmE; rw [hv]; rfl
theorem cmE_9 {a b c d e f g h : Int} (hv : vB a b c d e f g h = true) : cmE 9 a b c d e f g h = lsI e f g h a b c d := by unfold cmE; rw [hv]; rfl
theorem cmE_10 {a b c d e f g h : Int} (hv : vB a b c d e f g h = true) : cmE 10 a b c d e f g h = opp (lsI a b c d e f g h) := by unfold cmE; rw [hv]; rfl
theorem st3_0 (r1 r2 : Nat → List AV) {a b c d e f g h p q r s : Int} (hv : vB a b c d e f g h = true) : rd3 0 r1 r2 a b c d e f g h p q r s = N3 0 r1 r2 a b c d e f g h p q r s := by
  have hv2 : vB e f g h a b c d = true := by rw [vB_swap, hv]
  rw [rd3_0, cmE_5 hv, cmE_6 hv, cmE_5 hv2]
  refine B3_eq (eqI_range a b c d e f g h).1 (eqI_range a b c d e f g h).2 (rfl) (eqI_swap hv) fun j1 j2 j3 => ?_
  exact ho_eq hv j1 j2 j3
theorem st3_1 (r1 r2 : Nat → List AV) {a b c d e f g h p q r s : Int} (hv : vB a b c d e f g h = true) : rd3 1 r1 r2 a b c d e f g h p q r s = N3 1 r1 r2 a b c d e f g h p q r s := by
  have hv2 : vB e f g h a b c d = true := by rw [vB_swap, hv]
  rw [rd3_1, cmE_6 hv, cmE_5 hv, cmE_6 hv2]
  refine B3_eq (opp_range (eqI_range a b c d e f g h).1 (eqI_range a b c d e f g h).2).1 (opp_range (eqI_range a b c d e f g h).1 (eqI_range a b c d e f g h).2).2 ((opp_opp (eqI_range a b c d e f g h).1 (eqI_range a b c d e f g h).2).symm) (by rw [eqI_swap hv]) fun j1 j2 j3 => ?_
  exact ho_opp (eqI_range a b c d e f g h).1 (eqI_range a b c d e f g h).2 (fun j => ho_eq hv j1 j2 j) (by show (cmpR p q r s != 0) = _; rfl) j3
theorem st3_2 (r1 r2 : Nat → List AV) {a b c d e f g h p q r s : Int} (hv : vB a b c d e f g h = true) : rd3 2 r1 r2 a b c d e f g h p q r s = N3 2 r1 r2 a b c d e f g h p q r s := by
  have hv2 : vB e f g h a b c d = true := by rw [vB_swap, hv]
  rw [rd3_2, cmE_7 hv, cmE_10 hv, cmE_9 hv2]
  refine B3_eq (lsI_range a b c d e f g h).1 (lsI_range a b c d e f g h).2 (rfl) (rfl) fun j1 j2 j3 => ?_
  exact ho_ls hv j1 j2 j3
theorem st3_3 (r1 r2 : Nat → List AV) {a b c d e f g h p q r s : Int} (hv : vB a b c d e f g h = true) : rd3 3 r1 r2 a b c d e f g h p q r s = N3 3 r1 r2 a b c d e f g h p q r s := by
  have hv2 : vB e f g h a b c d = true := by rw [vB_swap, hv]
  rw [rd3_3, cmE_8 hv, cmE_9 hv, cmE_10 hv2]
  refine B3_eq (opp_range (lsI_range e f g h a b c d).1 (lsI_range e f g h a b c d).2).1 (opp_range (lsI_range e f g h a b c d).1 (lsI_range e f g h a b c d).2).2 ((opp_opp (lsI_range e f g h a b c d).1 (lsI_range e f g h a b c d).2).symm) (rfl) fun j1 j2 j3 => ?_
  exact ho_opp (lsI_range e f g h a b c d).1 (lsI_range e f g h a b c d).2 (fun j => ho_ls hv2 j2 j1 j) (by show decide (cmpR p q r s ≤ 0) = _; rw [cm_swap (p := p) (q := q), ← decide_not]; exact decide_eq_decide.2 (by omega)) j3
theorem st3_4 (r1 r2 : Nat → List AV) {a b c d e f g h p q r s : Int} (hv : vB a b c d e f g h = true) : rd3 4 r1 r2 a b c d e f g h p q r s = N3 4 r1 r2 a b c d e f g h p q r s := by
  have hv2 : vB e f g h a b c d = true := by rw [vB_swap, hv]
  rw [rd3_4, cmE_9 hv, cmE_8 hv, cmE_7 hv2]
  refine B3_eq (lsI_range e f g h a b c d).1 (lsI_range e f g h a b c d).2 (rfl) (rfl) fun j1 j2 j3 => ?_
  rw [ho_ls hv2 j2 j1 j3, cm_swap (p := p) (q := q)]
  show _ = decide (cmpR p q r s > 0)
  exact decide_eq_decide.2 (by omega)
theorem st3_5 (r1 r2 : Nat → List AV) {a b c d e f g h p q r s : Int} (hv : vB a b c d e f g h = true) : rd3 5 r1 r2 a b c d e f g h p q r s = N3 5 r1 r2 a b c d e f g h p q r s := by
  have hv2 : vB e f g h a b c d = true := by rw [vB_swap, hv]
  rw [rd3_5, cmE_10 hv, cmE_7 hv, cmE_8 hv2]
  refine B3_eq (opp_range (lsI_range a b c d e f g h).1 (lsI_range a b c d e f g h).2).1 (opp_range (lsI_range a b c d e f g h).1 (lsI_range a b c d e f g h).2).2 ((opp_opp (lsI_range a b c d e f g h).1 (lsI_range a b c d e f g h).2).symm) (rfl) fun j1 j2 j3 => ?_
  exact ho_opp (lsI_range a b c d e f g h).1 (lsI_range a b c d e f g h).2 (fun j => ho_ls hv j1 j2 j) (by show decide (cmpR p q r s ≥ 0) = _; rw [← decide_not]; exact decide_eq_decide.2 (by omega)) j3
theorem sum3 : LoopOkT Try.prog (spOf sp3) (inlOf []) extD (cKD sp3 []) lp3 Try.f3.ntmps (bodyOf Try.prog 3 0) (.sum keep3 f3s) := by
  dsimp only [LoopOkT]
  refine ⟨by decide, by decide, fun vs _ => match vs with | [_, _, _, _, _, _, .int _ i] => (6 - i).toNat | _ => 0, fun vs H R hvl hR => ?_⟩
  unfold f3s at hR
  split at hR
  · rename_i e1 e2 i a b c d e f g h p q r s
    cases hc : ((is6 e1 6 5 10 9 8 7 && is6 e2 5 6 9 10 7 8) && (vV (a, b, c, d) (e, f, g, h) && (decide (0 ≤ i) && decide (i ≤ 6)))) with
    | false => rw [hc] at hR; simp [Tr.run] at hR
    | true =>
      rw [hc] at hR
      simp only [Tr.run, cond_true, Option.some.injEq] at hR
      subst hR
      rw [Bool.and_eq_true, Bool.and_eq_true, Bool.and_eq_true, Bool.and_eq_true, decide_eq_true_eq, decide_eq_true_eq] at hc
      obtain ⟨⟨q1, q2⟩, hv, h0, h6⟩ := hc
      have g1 := is6_eq q1
      have g2 := is6_eq q2
      generalize (fun n => e1 (n + 6)) = r1 at g1
      generalize (fun n => e2 (n + 6)) = r2 at g2
      subst g1 g2
      have stp : ∀ j : Int, 0 ≤ j → j < 6 → rd3 j r1 r2 a b c d e f g h p q r s = N3 j r1 r2 a b c d e f g h p q r s → ∃ e1 vs1 H1, rd3 j r1 r2 a b c d e f g h p q r s = some (e1, vs1, H1) ∧ match e1 with
          | .normal => (f3s vs1 H1).run = some (.exit 0, vs3 (mk6 6 5 10 9 8 7 r1) (mk6 5 6 9 10 7 8 r2) 6, hp9 a b c d e f g h p q r s) ∧ (match vs1 with | [_, _, _, _, _, _, .int _ i] => (6 - i).toNat | _ => 0) < (6 - j).toNat
          | ex => (Ex.exit 0, vs3 (mk6 6 5 10 9 8 7 r1) (mk6 5 6 9 10 7 8 r2) 6, hp9 a b c d e f g h p q r s) = (ex, vs1, H1) := by
        intro j j0 j6 hs
        refine ⟨_, _, _, hs, ?_, ?_⟩
        · simp only [f3s]
          rw [q1, q2, hv, decide_eq_true (show 0 ≤ j + 1 by omega), decide_eq_true (show j + 1 ≤ 6 by omega)]
          rfl
        · show (6 - (j + 1)).toNat < (6 - j).toNat
          omega
      have cs : i = 0 ∨ i = 1 ∨ i = 2 ∨ i = 3 ∨ i = 4 ∨ i = 5 ∨ i = 6 := by omega
      rcases cs with rfl | rfl | rfl | rfl | rfl | rfl | rfl
      · exact stp 0 (by omega) (by omega) (st3_0 r1 r2 hv)
      · exact stp 1 (by omega) (by omega) (st3_1 r1 r2 hv)
      · exact stp 2 (by omega) (by omega) (st3_2 r1 r2 hv)
      · exact stp 3 (by omega) (by omega) (st3_3 r1 r2 hv)
      · exact stp 4 (by omega) (by omega) (st3_4 r1 r2 hv)
      · exact stp 5 (by omega) (by omega) (st3_5 r1 r2 hv)
      · exact ⟨_, _, _, rd3_6 r1 r2 a b c d e f g h p q r s, rfl⟩
  · simp [Tr.run] at hR

def l3 : Ent := ⟨3, fun
  | [.agg [.int .i64 _, .int .i64 _, .int .i64 _, .int .i64 _], .agg [.int .i64 _, .int .i64 _, .int .i64 _, .int .i64 _], .agg [.int .i64 _, .int .i64 _], .agg [.int .i64 _, .int .i64 _]] => .leaf (.ret (.bool true))
  | _ => .non⟩
theorem lt3 (a b c d e f g h p q r s : Int) : evFn Try.prog (spOf sp3) (inlOf []) extD (cKD sp3 []) lp3 Try.f3 [I4 a b c d, I4 e f g h, I2 p q, I2 r s] [] (fun r _ => some r) =
    (bif ivI a b c d != 0 then bif cmE 5 a b c d e f g h == -1 then RJ true else RJ false
    else bif ivI e f g h != 0 then bif cmE 5 a b c d e f g h == -1 then RJ true else RJ false
    else bif true && (vB a b c d e f g h && true) then
      bif !(a == c && (b == d && true)) then RJ true else bif !(e == g && (f == h && true)) then RJ true else bif cmE 7 a b c d e f g h != -1 then RJ true else RJ false
    else none) := by kernel_rfl
set_option maxRecDepth 100000 in
theorem l3_ok : SpecHolds Try.prog InvD 3 fun a => (l3.2 a).run := by
  refine specD jx3 Try.func3 (c := codeOf Try.prog 3) (by kernel_rfl) lp3 (fun p hp => ?_) fun args r hh => ?_
  · have hl : loops (codeOf Try.prog 3) = [(0, bodyOf Try.prog 3 0)] := by kernel_rfl
    rw [hl, List.mem_singleton] at hp
    subst hp
    exact sum3
  simp only [l3] at hh
  split at hh
  · rename_i a b c d e f g h p q r s
    refine ⟨by kernel_rfl, tr_ok (by rfl) hh, ?_⟩
    refine (lt3 a b c d e f g h p q r s).trans (Eq.trans ?_ hh)
    rw [ivI_ne, ivI_ne]
    have h5 : vB a b c d e f g h = false → cmE 5 a b c d e f g h = -1 := by intro hv; unfold cmE; rw [hv]; rfl
    cases h1 : ivB a b c d with
    | false => rw [h5 (by unfold vB; rw [h1]; rfl)]; rfl
    | true =>
      cases h2 : ivB e f g h with
      | false => rw [h5 (by unfold vB; rw [h2, Bool.and_false])]; rfl
      | true =>
        have hv : vB a b c d e f g h = true := by unfold vB; rw [h1, h2]; rfl
        rw [hv]
        simp only [Bool.and_true, Bool.not_true, cond_false, cond_true, Bool.and_self]
        cases k1 : (a == c && b == d) with
        | false => rfl
        | true =>
          cases k2 : (e == g && f == h) with
          | false => rfl
          | true =>
            simp only [Bool.and_eq_true, beq_iff_eq] at k1 k2
            obtain ⟨rfl, rfl⟩ := k1
            obtain ⟨rfl, rfl⟩ := k2
            have hn : cmE 7 a b a b e f e f ≠ -1 := by
              rw [cmE_7 hv, lsI_key hv]
              by_cases k : key a b < key e f
              · simp [dcI, k]
              · have : key e f ≤ key a b := by grind
                simp [dcI, k, this]
            rw [show (cmE 7 a b a b e f e f != -1) = true from bne_iff_ne.2 hn]
            rfl
  · simp [Tr.run] at hh
end Go.Proofs.Ytekkphoingjidaa

/- IntervalDecides returns true for every input, and its arguments read as they did. No condition. -/
namespace Go.Proofs.Ytekkphoingjidaa
open Go.ChangeShapes Go.WideShapes Go.ChangeAt Go.RowKit Go.Joins Go.Evl

set_option maxRecDepth 100000 in
theorem intervalDecides_lifted (os : Os) (started : os.Started) (H : Type) (enc : TypeId × Value → H) :
    ReturnsInHanded {} Try.checked os 3 .any (Rows.intervalDecidesSpec.pre6 enc Try.prog Try.f3 Rows.intervalDecidesRow.domain false) (Rows.intervalDecidesSpec.post enc Try.prog Try.f3 false true false false) := by
  refine returnsInHanded_of_change (C := Try.checked) own started (by kernel_rfl) Try.func3
    (ChangeSpec.witness6 (enc := enc) (C := Try.checked) false ⟨#[], #[.agg #[.int .i64 0, .int .i64 1, .int .i64 0, .int .i64 1], .agg #[.int .i64 0, .int .i64 1, .int .i64 0, .int .i64 1], .agg #[.int .i64 0, .int .i64 1], .agg #[.int .i64 0, .int .i64 1]], []⟩ 8 (by kernel_rfl) (by kernel_rfl) (by kernel_rfl) (by kernel_rfl)) ?_
  intro W base args ds gs before hval0 hW _ _
  have hval : ∀ (j : Nat) t v, Try.f3.params[j]? = some t → args[j]? = some v → Value.okWide Try.prog W .any base t v := hval0
  have hW' := hW
  obtain ⟨p, q, hA0, hV, rfl, hfz, hnd⟩ := hW
  have hA : DataW.TrodAll enc Try.prog W 0 (fun _ => true) true Try.f3.params.toList args.toList ds p := hA0
  rw [Try.params3] at hA hval
  obtain ⟨v0, v1, v2, v3, d0, d1, d2, d3, p0, p1, p2, p3, rfl, rfl, rfl, h0, h1, h2, h3⟩ := trodAll_four hA
  obtain ⟨rfl, rfl⟩ := trodVars_none hV
  have hlt0 : ∀ x ∈ p0, x.block < W.heap.size := fun x hx => by simpa using hW'.lt x (by simp [hx])
  have hlt1 : ∀ x ∈ p1, x.block < W.heap.size := fun x hx => by simpa using hW'.lt x (by simp [hx])
  have hlt2 : ∀ x ∈ p2, x.block < W.heap.size := fun x hx => by simpa using hW'.lt x (by simp [hx])
  have hlt3 : ∀ x ∈ p3, x.block < W.heap.size := fun x hx => by simpa using hW'.lt x (by simp [hx])
  obtain ⟨a0, b0, c0, e0, rfl⟩ := iv_form (hval 0 25 v0 rfl rfl) h0
  obtain ⟨a1, b1, c1, e1, rfl⟩ := iv_form (hval 1 25 v1 rfl rfl) h1
  obtain ⟨a2, b2, rfl⟩ := ratio_form (hval 2 23 v2 rfl rfl) h2
  obtain ⟨a3, b3, rfl⟩ := ratio_form (hval 3 23 v3 rfl rfl) h3
  clear hA0 hval0
  have hrv : Rvs (fun i => i) (fun _ => False) W None_ [.agg [.int .i64 a0, .int .i64 b0, .int .i64 c0, .int .i64 e0], .agg [.int .i64 a1, .int .i64 b1, .int .i64 c1, .int .i64 e1], .agg [.int .i64 a2, .int .i64 b2], .agg [.int .i64 a3, .int .i64 b3]] [.agg #[.int .i64 a0, .int .i64 b0, .int .i64 c0, .int .i64 e0], .agg #[.int .i64 a1, .int .i64 b1, .int .i64 c1, .int .i64 e1], .agg #[.int .i64 a2, .int .i64 b2], .agg #[.int .i64 a3, .int .i64 b3]] := (.cons (rvV a0 b0 c0 e0) (.cons (rvV a1 b1 c1 e1) (.cons (rvR a2 b2) (.cons (rvR a3 b3) .nil))))
  refine (l3_ok [.agg [.int .i64 a0, .int .i64 b0, .int .i64 c0, .int .i64 e0], .agg [.int .i64 a1, .int .i64 b1, .int .i64 c1, .int .i64 e1], .agg [.int .i64 a2, .int .i64 b2], .agg [.int .i64 a3, .int .i64 b3]] (.ret (.bool true)) rfl (fun i => i) (fun _ => False) W [.agg #[.int .i64 a0, .int .i64 b0, .int .i64 c0, .int .i64 e0], .agg #[.int .i64 a1, .int .i64 b1, .int .i64 c1, .int .i64 e1], .agg #[.int .i64 a2, .int .i64 b2], .agg #[.int .i64 a3, .int .i64 b3]] (fun _ h => h.elim) trivial hrv).mono fun e W' ⟨hbel, u, he, hu⟩ => ?_
  subst he
  rw [hu.of_bool]
  refine ⟨_, rfl, _, _, _, [], p0 ++ (p1 ++ (p2 ++ (p3))), [], hW', ?_, ?_, rfl, hbel.frame _, fun h => by cases h⟩
  · exact trodAll_mk1 (shut_bool Try.underlying4 true)
  · exact trodAll_mk4 (below_trod (by kernel_rfl) (of_decide_eq_true (by kernel_rfl)) h0 hbel hlt0) (below_trod (by kernel_rfl) (of_decide_eq_true (by kernel_rfl)) h1 hbel hlt1) (below_trod (by kernel_rfl) (of_decide_eq_true (by kernel_rfl)) h2 hbel hlt2) (below_trod (by kernel_rfl) (of_decide_eq_true (by kernel_rfl)) h3 hbel hlt3)
theorem intervalDecides_holds : Rows.IntervalDecidesSaid :=
  OpenClaim.holds_of_wide 3 Try.f3 rfl rfl rfl rfl rfl rfl rfl ⟨rfl, rfl, rfl, rfl, rfl⟩ rfl rfl rfl rfl rfl (by kernel_rfl) Try.func3 (by kernel_rfl)
    (of_decide_eq_true (by kernel_rfl)) (by unfold Func.isWrapper; first | (rw [if_pos (by decide +kernel)]; kernel_rfl) | (rw [if_neg (by decide +kernel)]; exact ⟨rfl, rfl⟩))
    (fun os started H enc _ => intervalDecides_lifted os started H enc)
#print axioms intervalDecides_holds
end Go.Proofs.Ytekkphoingjidaa
