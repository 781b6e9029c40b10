/- SpantreeGroup returns true for every input, and its arguments read as they did. No condition. -/
import Derived.Test.YtfgniheefiefjaaWCore6
/- Spans in groups: the loops of both. Conditions: none beyond the context's. -/
namespace Go.Proofs.Ytfgniheefiefjaa
open Go.Evl Go.RowKit
/-- where a run of spans of one trace ends -/
def zF (y : Nat → Nat → Dt) (t : Int) : Nat → Nat → Nat
  | 0, k => k
  | f + 1, k => if (y k 0).n = t then zF y t f (k + 1) else k
theorem zF_le (y : Nat → Nat → Dt) (t : Int) : ∀ f k, k ≤ zF y t f k ∧ zF y t f k ≤ k + f
  | 0, k => ⟨Nat.le_refl _, Nat.le_refl _⟩
  | f + 1, k => by
    simp only [zF]
    have := zF_le y t f (k + 1)
    split <;> omega
theorem zF_gt (y : Nat → Nat → Dt) (i : Nat) : ∀ f, 0 < f → i < zF y (y i 0).n f i
  | f + 1, _ => by
    simp only [zF, if_true]
    have := (zF_le y (y i 0).n f (i + 1)).1
    omega
/-- one group -/
def g1 (k : Nat) (y : Nat → Nat → Dt) : Nat → Nat → Dt := dtFs [[.row k y]]
/-- the groups of spans in order -/
def grF : Nat → Nat → (Nat → Nat → Dt) → Nat → (Nat → Nat → Dt) → Nat × (Nat → Nat → Dt)
  | 0, _, _, g, q => (g, q)
  | f + 1, r, y, g, q => if r = 0 then (g, q) else grF f (r - zF y (y 0 0).n (r - 1) 1) (fun i => y (i + zF y (y 0 0).n (r - 1) 1)) (g + 1) (appEl q g (g1 (zF y (y 0 0).n (r - 1) 1) fun i => y (i + 0)))
theorem grF_fuel : ∀ {f f' r : Nat} {y : Nat → Nat → Dt} {g : Nat} {q : Nat → Nat → Dt}, r ≤ f → r ≤ f' → grF f r y g q = grF f' r y g q
  | 0, f', r, y, g, q, h, _ => by
    obtain rfl : r = 0 := by omega
    cases f' <;> simp [grF]
  | f + 1, 0, r, y, g, q, _, h => by
    obtain rfl : r = 0 := by omega
    simp [grF]
  | f + 1, f' + 1, r, y, g, q, h, h' => by
    simp only [grF]
    split
    · rfl
    · have := (zF_le y (y 0 0).n (r - 1) 1).1
      exact grF_fuel (by omega) (by omega)
/-- the same by the place in the whole row -/
def rgF (n : Nat) (y : Nat → Nat → Dt) : Nat → Nat → Nat → (Nat → Nat → Dt) → Nat × (Nat → Nat → Dt)
  | 0, _, g, q => (g, q)
  | f + 1, i, g, q => if i < n then rgF n y f (zF y (y i 0).n (n - i) i) (g + 1) (appEl q g (g1 (zF y (y i 0).n (n - i) i - i) fun j => y (j + i))) else (g, q)
/-- what is left behind all groups -/
def lastF : Nat → Nat → (Nat → Nat → Dt) → (Nat → Nat → Dt)
  | 0, _, y => y
  | f + 1, r, y => if r = 0 then y else lastF f (r - zF y (y 0 0).n (r - 1) 1) (fun i => y (i + zF y (y 0 0).n (r - 1) 1))
theorem lastF_fuel : ∀ {f f' r : Nat} {y : Nat → Nat → Dt}, r ≤ f → r ≤ f' → lastF f r y = lastF f' r y
  | 0, f', r, y, h, _ => by
    obtain rfl : r = 0 := by omega
    cases f' <;> simp [lastF]
  | f + 1, 0, r, y, _, h => by
    obtain rfl : r = 0 := by omega
    simp [lastF]
  | f + 1, f' + 1, r, y, h, h' => by
    simp only [lastF]
    split
    · rfl
    · have := (zF_le y (y 0 0).n (r - 1) 1).1
      exact lastF_fuel (by omega) (by omega)
theorem rgF_fuel {n : Nat} {y : Nat → Nat → Dt} : ∀ {f f' i g : Nat} {q : Nat → Nat → Dt}, n - i ≤ f → n - i ≤ f' → rgF n y f i g q = rgF n y f' i g q
  | 0, f', i, g, q, h, _ => by
    have : ¬ i < n := by omega
    cases f' <;> simp [rgF, this]
  | f + 1, 0, i, g, q, _, h => by
    have : ¬ i < n := by omega
    simp [rgF, this]
  | f + 1, f' + 1, i, g, q, h, h' => by
    simp only [rgF]
    split
    · have := zF_gt y i (n - i) (by omega)
      exact rgF_fuel (by omega) (by omega)
    · rfl
structure S29i where
  r : Nat
  y : Nat → Nat → Dt
  h : Nat
  tr : Int
  k : Int
  g : Nat
  q : Nat → Nat → Dt
abbrev keep29i : List Nat := [5, 7, 8, 9]
abbrev vs29i (s : S29i) : List AV := [.isz s.r SS s.y, .own 0 k0 s.h, .int .i64 s.tr, .int .i64 s.k]
abbrev hp29i (s : S29i) : List Ob := [.own 32 [.row SS] s.g s.q]
def dec29i : List AV → List Ob → Option S29i
  | [.isz r [.int .i64, .int .i64, .int .i64, .str, .str, .int .i64, .int .i64, .int .i64, .row [.str, .str], .row [.int .i64, .int .i64]] y, .own 0 (.int 0) h, .int .i64 tr, .int .i64 k], [.own 32 [.row [.int .i64, .int .i64, .int .i64, .str, .str, .int .i64, .int .i64, .int .i64, .row [.str, .str], .row [.int .i64, .int .i64]]] g q] => some ⟨r, y, h, tr, k, g, q⟩
  | _, _ => none
def dom29i (s : S29i) : Bool := decide (0 ≤ s.k) && (decide (s.k ≤ (s.r : Int)) && Nat.ble s.r 1000)
def fin29i (s : S29i) : Tr (Ex × List AV × List Ob) := .leaf (.exit 2, [.isz s.r SS s.y, .own 0 k0 s.h, .int .i64 s.tr, .int .i64 ((zF s.y s.tr (s.r - s.k.toNat) s.k.toNat : Nat) : Int)], [.own 32 [.row SS] s.g s.q])
structure S29 where
  r : Nat
  y : Nat → Nat → Dt
  h : Nat
  g : Nat
  q : Nat → Nat → Dt
abbrev keep29 : List Nat := [5, 7]
abbrev vs29 (s : S29) : List AV := [.isz s.r SS s.y, .own 0 k0 s.h]
abbrev hp29 (s : S29) : List Ob := [.own 32 [.row SS] s.g s.q]
def dec29 : List AV → List Ob → Option S29
  | [.isz r [.int .i64, .int .i64, .int .i64, .str, .str, .int .i64, .int .i64, .int .i64, .row [.str, .str], .row [.int .i64, .int .i64]] y, .own 0 (.int 0) h], [.own 32 [.row [.int .i64, .int .i64, .int .i64, .str, .str, .int .i64, .int .i64, .int .i64, .row [.str, .str], .row [.int .i64, .int .i64]]] g q] => some ⟨r, y, h, g, q⟩
  | _, _ => none
def dom29 (s : S29) : Bool := Nat.beq s.h s.g && (Nat.ble s.r 100 && Nat.ble (s.g + s.r) 1000)
def fin29 (s : S29) : Tr (Ex × List AV × List Ob) := .leaf (.exit 0, [.isz 0 SS (lastF s.r s.r s.y), .own 0 k0 (grF s.r s.r s.y s.g s.q).1], [.own 32 [.row SS] (grF s.r s.r s.y s.g s.q).1 (grF s.r s.r s.y s.g s.q).2])
abbrev lp29 (i : Nat) : LT := bif Nat.beq i 2 then .sum keep29i (stF dec29i dom29i fin29i) else bif Nat.beq i 2000007 then .ghost [.nil 7 32 [.row SS]] else .sum keep29 (stF dec29 dom29 fin29)
structure S30i where
  n : Nat
  y : Nat → Nat → Dt
  h : Nat
  i : Int
  k : Int
  g : Nat
  q : Nat → Nat → Dt
abbrev keep30i : List Nat := [5, 7, 8, 9]
abbrev vs30i (s : S30i) : List AV := [.isz s.n SS s.y, .own 0 k0 s.h, .int .i64 s.i, .int .i64 s.k]
abbrev hp30i (s : S30i) : List Ob := [.own 32 [.row SS] s.g s.q]
def dec30i : List AV → List Ob → Option S30i
  | [.isz n [.int .i64, .int .i64, .int .i64, .str, .str, .int .i64, .int .i64, .int .i64, .row [.str, .str], .row [.int .i64, .int .i64]] y, .own 0 (.int 0) h, .int .i64 i, .int .i64 k], [.own 32 [.row [.int .i64, .int .i64, .int .i64, .str, .str, .int .i64, .int .i64, .int .i64, .row [.str, .str], .row [.int .i64, .int .i64]]] g q] => some ⟨n, y, h, i, k, g, q⟩
  | _, _ => none
def dom30i (s : S30i) : Bool := decide (0 ≤ s.i) && (decide (s.i < (s.n : Int)) && (decide (0 ≤ s.k) && (decide (s.k ≤ (s.n : Int)) && Nat.ble s.n 1000)))
def fin30i (s : S30i) : Tr (Ex × List AV × List Ob) := .leaf (.exit 2, [.isz s.n SS s.y, .own 0 k0 s.h, .int .i64 s.i, .int .i64 ((zF s.y (s.y s.i.toNat 0).n (s.n - s.k.toNat) s.k.toNat : Nat) : Int)], [.own 32 [.row SS] s.g s.q])
structure S30 where
  n : Nat
  y : Nat → Nat → Dt
  h : Nat
  i : Int
  g : Nat
  q : Nat → Nat → Dt
abbrev keep30 : List Nat := [5, 7, 8]
abbrev vs30 (s : S30) : List AV := [.isz s.n SS s.y, .own 0 k0 s.h, .int .i64 s.i]
abbrev hp30 (s : S30) : List Ob := [.own 32 [.row SS] s.g s.q]
def dec30 : List AV → List Ob → Option S30
  | [.isz n [.int .i64, .int .i64, .int .i64, .str, .str, .int .i64, .int .i64, .int .i64, .row [.str, .str], .row [.int .i64, .int .i64]] y, .own 0 (.int 0) h, .int .i64 i], [.own 32 [.row [.int .i64, .int .i64, .int .i64, .str, .str, .int .i64, .int .i64, .int .i64, .row [.str, .str], .row [.int .i64, .int .i64]]] g q] => some ⟨n, y, h, i, g, q⟩
  | _, _ => none
def dom30 (s : S30) : Bool := Nat.beq s.h s.g && (decide (0 ≤ s.i) && (decide (s.i ≤ (s.n : Int)) && (Nat.ble s.n 100 && Nat.ble (s.g + (s.n - s.i.toNat)) 1000)))
def fin30 (s : S30) : Tr (Ex × List AV × List Ob) := .leaf (.exit 0, [.isz s.n SS s.y, .own 0 k0 (rgF s.n s.y (s.n - s.i.toNat) s.i.toNat s.g s.q).1, .int .i64 (s.n : Int)], [.own 32 [.row SS] (rgF s.n s.y (s.n - s.i.toNat) s.i.toNat s.g s.q).1 (rgF s.n s.y (s.n - s.i.toNat) s.i.toNat s.g s.q).2])
abbrev lp30 (i : Nat) : LT := bif Nat.beq i 2 then .sum keep30i (stF dec30i dom30i fin30i) else .sum keep30 (stF dec30 dom30 fin30)
end Go.Proofs.Ytfgniheefiefjaa

/- Spans in groups: the loops' summaries. Conditions: none beyond the context's. -/
namespace Go.Proofs.Ytfgniheefiefjaa
open Go.Evl Go.RowKit
def rnd29i (r : Nat) (y : Nat → Nat → Dt) (h : Nat) (tr k : Int) (g : Nat) (q : Nat → Nat → Dt) : Option (Ex × List AV × List Ob) := bif decide (k < ↑r) then bif decide (0 ≤ k) && decide (k < ↑r) then bif (y k.toNat 0).n == tr then some (.normal, [.isz r SS y, .own 0 k0 h, .int .i64 tr, .int .i64 (IntKind.i64.wrap (k + 1))], [.own 32 [.row SS] g q]) else some (.exit 2, [.isz r SS y, .own 0 k0 h, .int .i64 tr, .int .i64 k], [.own 32 [.row SS] g q]) else none else some (.exit 2, [.isz r SS y, .own 0 k0 h, .int .i64 tr, .int .i64 k], [.own 32 [.row SS] g q])
theorem loop29i (r : Nat) (y : Nat → Nat → Dt) (h : Nat) (tr k : Int) (g : Nat) (q : Nat → Nat → Dt) : evC (β := Ex × List AV × List Ob) Try.prog (spOf [t33, t52, t53]) (inlOf []) extD (cKD [t33, t52, t53] []) lp29 (bodyOf Try.prog 29 2) ⟨mkF Try.f29.ntmps keep29i [.isz r SS y, .own 0 k0 h, .int .i64 tr, .int .i64 k], [.own 32 [.row SS] g q]⟩ (fun e st => (cutBack keep29i 1 st).map fun q => (e, q.1, q.2)) = rnd29i r y h tr k g q := by kernel_rfl
def rnd30i (n : Nat) (y : Nat → Nat → Dt) (h : Nat) (i k : Int) (g : Nat) (q : Nat → Nat → Dt) : Option (Ex × List AV × List Ob) := bif decide (k < ↑n) then bif decide (0 ≤ k) && decide (k < ↑n) then bif decide (0 ≤ i) && decide (i < ↑n) then bif (y k.toNat 0).n == (y i.toNat 0).n then some (.normal, [.isz n SS y, .own 0 k0 h, .int .i64 i, .int .i64 (IntKind.i64.wrap (k + 1))], [.own 32 [.row SS] g q]) else some (.exit 2, [.isz n SS y, .own 0 k0 h, .int .i64 i, .int .i64 k], [.own 32 [.row SS] g q]) else none else none else some (.exit 2, [.isz n SS y, .own 0 k0 h, .int .i64 i, .int .i64 k], [.own 32 [.row SS] g q])
theorem loop30i (n : Nat) (y : Nat → Nat → Dt) (h : Nat) (i k : Int) (g : Nat) (q : Nat → Nat → Dt) : evC (β := Ex × List AV × List Ob) Try.prog (spOf [t61, t62]) (inlOf []) extD (cKD [t61, t62] []) lp30 (bodyOf Try.prog 30 2) ⟨mkF Try.f30.ntmps keep30i [.isz n SS y, .own 0 k0 h, .int .i64 i, .int .i64 k], [.own 32 [.row SS] g q]⟩ (fun e st => (cutBack keep30i 1 st).map fun q => (e, q.1, q.2)) = rnd30i n y h i k g q := by kernel_rfl
def nx29 (r : Nat) (y : Nat → Nat → Dt) (g : Nat) (q : Nat → Nat → Dt) (K : Nat) : Option (Ex × List AV × List Ob) :=
  bif decide ((K : Int) > 500) then some (.ret, [.isz r SS y, .own 0 k0 g], [.own 32 [.row SS] g q]) else bif true && (true && decide ((K : Int) ≤ (r : Int))) then bif (K - 0).ble 1000000 then bif g.beq g && (g.ble 1000000 && true) then bif true && (decide ((K : Int) ≤ (r : Int)) && decide ((r : Int) ≤ (r : Int))) then
    some (.normal, [.isz (r - K) SS fun i => y (i + K), .own 0 k0 (g + 1)], [.own 32 [.row SS] (g + 1) (appEl q g (g1 (K - 0) fun i => y (i + 0)))]) else none else none else none else none
def rnd29 (r : Nat) (y : Nat → Nat → Dt) (g : Nat) (q : Nat → Nat → Dt) : Option (Ex × List AV × List Ob) := bif decide ((r : Int) > 0) then bif true && decide (0 < (r : Int)) then bif true && (decide (1 ≤ (r : Int)) && r.ble 1000) then nx29 r y g q (zF y (y 0 0).n (r - 1) 1) else none else none else some (.exit 0, [.isz r SS y, .own 0 k0 g], [.own 32 [.row SS] g q])
theorem loop29 (r : Nat) (y : Nat → Nat → Dt) (g : Nat) (q : Nat → Nat → Dt) : evC (β := Ex × List AV × List Ob) Try.prog (spOf [t33, t52, t53]) (inlOf []) extD (cKD [t33, t52, t53] []) lp29 (bodyOf Try.prog 29 0) ⟨mkF Try.f29.ntmps keep29 [.isz r SS y, .own 0 k0 g], [.own 32 [.row SS] g q]⟩ (fun e st => (cutBack keep29 1 st).map fun q => (e, q.1, q.2)) = rnd29 r y g q := by kernel_rfl
def nx30 (n : Nat) (y : Nat → Nat → Dt) (i : Int) (g : Nat) (q : Nat → Nat → Dt) (K : Nat) : Option (Ex × List AV × List Ob) :=
  bif decide (IntKind.i64.wrap ((K : Int) - i) > 500) then some (.ret, [.isz n SS y, .own 0 k0 g, .int .i64 i], [.own 32 [.row SS] g q]) else bif decide (0 ≤ i) && (decide (i ≤ (K : Int)) && decide ((K : Int) ≤ (n : Int))) then bif g.beq g && (g.ble 1000000 && true) then
    some (.normal, [.isz n SS y, .own 0 k0 (g + 1), .int .i64 (K : Int)], [.own 32 [.row SS] (g + 1) (appEl q g (g1 (K - i.toNat) fun j => y (j + i.toNat)))]) else none else none
def rnd30 (n : Nat) (y : Nat → Nat → Dt) (i : Int) (g : Nat) (q : Nat → Nat → Dt) : Option (Ex × List AV × List Ob) :=
  bif decide (i < (n : Int)) then bif decide (0 ≤ i) && (decide (i < (n : Int)) && (decide (0 ≤ i) && (decide (i ≤ (n : Int)) && n.ble 1000))) then nx30 n y i g q (zF y (y i.toNat 0).n (n - i.toNat) i.toNat) else none else some (.exit 0, [.isz n SS y, .own 0 k0 g, .int .i64 i], [.own 32 [.row SS] g q])
theorem loop30 (n : Nat) (y : Nat → Nat → Dt) (i : Int) (g : Nat) (q : Nat → Nat → Dt) : evC (β := Ex × List AV × List Ob) Try.prog (spOf [t61, t62]) (inlOf []) extD (cKD [t61, t62] []) lp30 (bodyOf Try.prog 30 0) ⟨mkF Try.f30.ntmps keep30 [.isz n SS y, .own 0 k0 g, .int .i64 i], [.own 32 [.row SS] g q]⟩ (fun e st => (cutBack keep30 1 st).map fun q => (e, q.1, q.2)) = rnd30 n y i g q := by kernel_rfl
theorem sum29i : LoopOkT Try.prog (spOf [t33, t52, t53]) (inlOf []) extD (cKD [t33, t52, t53] []) lp29 Try.f29.ntmps (bodyOf Try.prog 29 2) (.sum keep29i (stF dec29i dom29i fin29i)) := by
  dsimp only [LoopOkT]
  refine ⟨by decide, by decide, ?_⟩
  refine sum_st dec29i dom29i fin29i vs29i hp29i (fun s => s.r - s.k.toNat) (fun vs H s hs => ?_) (fun s R hd hR => ?_)
  · unfold dec29i at hs
    split at hs
    · obtain rfl := Option.some.inj hs
      exact ⟨rfl, rfl⟩
    · cases hs
  · obtain ⟨r, y, h, tr, k, g, q⟩ := s
    simp only [dom29i, Bool.and_eq_true, decide_eq_true_eq, Nat.ble_eq] at hd
    obtain ⟨h1, h2, h3⟩ := hd
    obtain ⟨k, rfl⟩ : ∃ p : Nat, k = (p : Int) := ⟨k.toNat, by omega⟩
    simp only [fin29i, Int.toNat_natCast, Tr.run, Option.some.injEq] at hR
    subst hR
    have ht := loop29i r y h tr (k : Int) g q
    unfold rnd29i at ht
    rw [Int.toNat_natCast] at ht
    by_cases hk : k < r
    · obtain ⟨p, hp⟩ : ∃ p, r - k = p + 1 := ⟨r - k - 1, by omega⟩
      rw [condT (decide_eq_true (by omega)), condT (by simp only [Bool.and_eq_true, decide_eq_true_eq] <;> omega)] at ht
      by_cases hc : (y k 0).n = tr
      · rw [condT (by simpa using hc), wrapI (by omega) (by omega)] at ht
        refine .inl ⟨⟨r, y, h, tr, (k : Int) + 1, g, q⟩, ht, rfl, ?_, ?_, ?_⟩
        · simp only [dom29i, Bool.and_eq_true, decide_eq_true_eq, Nat.ble_eq]; omega
        · have e1 : ((k : Int) + 1).toNat = k + 1 := by omega
          simp only [fin29i, Tr.run, e1, hp, zF, hc, if_true, show r - (k + 1) = p by omega]
        · simp only; omega
      · rw [condF (by simpa using hc)] at ht
        refine .inr ⟨by simp, ?_⟩
        rw [hp]
        simp only [zF, hc, if_false]
        exact ht
    · rw [condF (decide_eq_false (by omega))] at ht
      refine .inr ⟨by simp, ?_⟩
      rw [show r - k = 0 by omega]
      exact ht
theorem sum30i : LoopOkT Try.prog (spOf [t61, t62]) (inlOf []) extD (cKD [t61, t62] []) lp30 Try.f30.ntmps (bodyOf Try.prog 30 2) (.sum keep30i (stF dec30i dom30i fin30i)) := by
  dsimp only [LoopOkT]
  refine ⟨by decide, by decide, ?_⟩
  refine sum_st dec30i dom30i fin30i vs30i hp30i (fun s => s.n - s.k.toNat) (fun vs H s hs => ?_) (fun s R hd hR => ?_)
  · unfold dec30i at hs
    split at hs
    · obtain rfl := Option.some.inj hs
      exact ⟨rfl, rfl⟩
    · cases hs
  · obtain ⟨n, y, h, i, k, g, q⟩ := s
    simp only [dom30i, Bool.and_eq_true, decide_eq_true_eq, Nat.ble_eq] at hd
    obtain ⟨h1, h2, h3, h4, h5⟩ := hd
    obtain ⟨k, rfl⟩ : ∃ p : Nat, k = (p : Int) := ⟨k.toNat, by omega⟩
    obtain ⟨i, rfl⟩ : ∃ p : Nat, i = (p : Int) := ⟨i.toNat, by omega⟩
    simp only [fin30i, Int.toNat_natCast, Tr.run, Option.some.injEq] at hR
    subst hR
    have ht := loop30i n y h (i : Int) (k : Int) g q
    unfold rnd30i at ht
    rw [Int.toNat_natCast, Int.toNat_natCast] at ht
    by_cases hk : k < n
    · obtain ⟨p, hp⟩ : ∃ p, n - k = p + 1 := ⟨n - k - 1, by omega⟩
      rw [condT (decide_eq_true (by omega)), condT (by simp only [Bool.and_eq_true, decide_eq_true_eq] <;> omega), condT (by simp only [Bool.and_eq_true, decide_eq_true_eq] <;> omega)] at ht
      by_cases hc : (y k 0).n = (y i 0).n
      · rw [condT (by simpa using hc), wrapI (by omega) (by omega)] at ht
        refine .inl ⟨⟨n, y, h, (i : Int), (k : Int) + 1, g, q⟩, ht, rfl, ?_, ?_, ?_⟩
        · simp only [dom30i, Bool.and_eq_true, decide_eq_true_eq, Nat.ble_eq]; omega
        · have e1 : ((k : Int) + 1).toNat = k + 1 := by omega
          simp only [fin30i, Tr.run, e1, Int.toNat_natCast, hp, zF, hc, if_true, show n - (k + 1) = p by omega]
        · simp only; omega
      · rw [condF (by simpa using hc)] at ht
        refine .inr ⟨by simp, ?_⟩
        rw [hp]
        simp only [zF, hc, if_false]
        exact ht
    · rw [condF (decide_eq_false (by omega))] at ht
      refine .inr ⟨by simp, ?_⟩
      rw [show n - k = 0 by omega]
      exact ht
theorem sum29 : LoopOkT Try.prog (spOf [t33, t52, t53]) (inlOf []) extD (cKD [t33, t52, t53] []) lp29 Try.f29.ntmps (bodyOf Try.prog 29 0) (.sum keep29 (stF dec29 dom29 fin29)) := by
  dsimp only [LoopOkT]
  refine ⟨by decide, by decide, ?_⟩
  refine sum_st dec29 dom29 fin29 vs29 hp29 (fun s => s.r) (fun vs H s hs => ?_) (fun s R hd hR => ?_)
  · unfold dec29 at hs
    split at hs
    · obtain rfl := Option.some.inj hs
      exact ⟨rfl, rfl⟩
    · cases hs
  · obtain ⟨r, y, h, g, q⟩ := s
    simp only [dom29, Bool.and_eq_true, Nat.ble_eq, Nat.beq_eq] at hd
    obtain ⟨rfl, h1, h2⟩ := hd
    simp only [fin29, Tr.run, Option.some.injEq] at hR
    have ht := loop29 r y h q
    unfold rnd29 at ht
    by_cases hr : 0 < r
    · obtain ⟨p, rfl⟩ : ∃ p, r = p + 1 := ⟨r - 1, by omega⟩
      obtain ⟨z1, z2⟩ := zF_le y (y 0 0).n (p + 1 - 1) 1
      rw [condT (decide_eq_true (by omega)), condT (by simp only [Bool.true_and, decide_eq_true_eq] <;> omega), condT (by simp only [Bool.and_eq_true, Bool.true_and, decide_eq_true_eq, Nat.ble_eq] <;> omega)] at ht
      generalize hK : zF y (y 0 0).n (p + 1 - 1) 1 = K at ht z1 z2
      unfold nx29 at ht
      rw [condF (decide_eq_false (by omega)), condT (by simp only [Bool.true_and, decide_eq_true_eq] <;> omega), condT (by simp only [Nat.ble_eq] <;> omega), condT (by simp only [Bool.true_and, Bool.and_true, Nat.ble_eq, Nat.beq_refl] <;> omega), condT (by simp only [Bool.and_eq_true, Bool.true_and, decide_eq_true_eq] <;> omega)] at ht
      refine .inl ⟨⟨p + 1 - K, fun i => y (i + K), h + 1, h + 1, appEl q h (g1 (K - 0) fun i => y (i + 0))⟩, ht, rfl, ?_, ?_, ?_⟩
      · simp only [dom29, Bool.and_eq_true, Nat.ble_eq, Nat.beq_eq, true_and]; omega
      · rw [← hR]
        simp only [fin29, Tr.run]
        simp only [grF, lastF, hK, Nat.sub_zero]
        rw [if_neg (by omega), if_neg (by omega), grF_fuel (f := p) (f' := p + 1 - K) (by omega) (Nat.le_refl _), lastF_fuel (f := p) (f' := p + 1 - K) (by omega) (Nat.le_refl _)]
      · simp only; omega
    · obtain rfl : r = 0 := by omega
      rw [condF (decide_eq_false (by omega))] at ht
      refine .inr ?_
      simp only [grF, lastF] at hR
      subst hR
      exact ⟨by simp, ht⟩
theorem sum30 : LoopOkT Try.prog (spOf [t61, t62]) (inlOf []) extD (cKD [t61, t62] []) lp30 Try.f30.ntmps (bodyOf Try.prog 30 0) (.sum keep30 (stF dec30 dom30 fin30)) := by
  dsimp only [LoopOkT]
  refine ⟨by decide, by decide, ?_⟩
  refine sum_st dec30 dom30 fin30 vs30 hp30 (fun s => s.n - s.i.toNat) (fun vs H s hs => ?_) (fun s R hd hR => ?_)
  · unfold dec30 at hs
    split at hs
    · obtain rfl := Option.some.inj hs
      exact ⟨rfl, rfl⟩
    · cases hs
  · obtain ⟨n, y, h, i, g, q⟩ := s
    simp only [dom30, Bool.and_eq_true, decide_eq_true_eq, Nat.ble_eq, Nat.beq_eq] at hd
    obtain ⟨rfl, h1, h2, h3, h4⟩ := hd
    obtain ⟨i, rfl⟩ : ∃ p : Nat, i = (p : Int) := ⟨i.toNat, by omega⟩
    rw [Int.toNat_natCast] at h4
    simp only [fin30, Int.toNat_natCast, Tr.run, Option.some.injEq] at hR
    have ht := loop30 n y (i : Int) h q
    unfold rnd30 at ht
    rw [Int.toNat_natCast] at ht
    by_cases hi : i < n
    · obtain ⟨p, hp⟩ : ∃ p, n - i = p + 1 := ⟨n - i - 1, by omega⟩
      obtain ⟨z1, z2⟩ := zF_le y (y i 0).n (n - i) i
      have z3 := zF_gt y i (n - i) (by omega)
      rw [condT (decide_eq_true (by omega)), condT (by simp only [Bool.and_eq_true, decide_eq_true_eq, Nat.ble_eq] <;> omega)] at ht
      generalize hK : zF y (y i 0).n (n - i) i = K at ht z1 z2 z3
      unfold nx30 at ht
      rw [wrapI (by omega) (by omega), condF (decide_eq_false (by omega)), condT (by simp only [Bool.and_eq_true, decide_eq_true_eq] <;> omega), condT (by simp only [Bool.true_and, Bool.and_true, Nat.ble_eq, Nat.beq_refl] <;> omega), Int.toNat_natCast] at ht
      refine .inl ⟨⟨n, y, h + 1, (K : Int), h + 1, appEl q h (g1 (K - i) fun j => y (j + i))⟩, ht, rfl, ?_, ?_, ?_⟩
      · simp only [dom30, Int.toNat_natCast, Bool.and_eq_true, decide_eq_true_eq, Nat.ble_eq, Nat.beq_eq, true_and]; omega
      · rw [← hR]
        simp only [fin30, Tr.run, Int.toNat_natCast]
        rw [show rgF n y (n - i) i h q = rgF n y (p + 1) i h q by rw [hp]]
        simp only [rgF, hK]
        rw [if_pos hi, rgF_fuel (f := p) (f' := n - K) (by omega) (Nat.le_refl _)]
      · simp only [Int.toNat_natCast]; omega
    · rw [condF (decide_eq_false (by omega))] at ht
      obtain rfl : i = n := by omega
      refine .inr ?_
      simp only [Nat.sub_self, rgF] at hR
      subst hR
      exact ⟨by simp, ht⟩
end Go.Proofs.Ytfgniheefiefjaa

/- Spans in groups: the contracts of both; groups compared. Conditions: none beyond the context's. -/
namespace Go.Proofs.Ytfgniheefiefjaa
open Go.Evl Go.RowKit
theorem sx29 : (mkCx Try.prog (spOf [t33, t52, t53]) (inlOf []) extD).Ok InvD := cx_of [] (by kernel_rfl) (by
  intro p hp
  simp only [List.mem_cons, List.not_mem_nil, or_false] at hp
  rcases hp with rfl | rfl | rfl
  · exact t33_ok
  · exact t52_ok
  · exact t53_ok)
theorem sx30 : (mkCx Try.prog (spOf [t61, t62]) (inlOf []) extD).Ok InvD := cx_of [] (by kernel_rfl) (by
  intro p hp
  simp only [List.mem_cons, List.not_mem_nil, or_false] at hp
  rcases hp with rfl | rfl
  · exact t61_ok
  · exact t62_ok)
theorem sx31 : (mkCx Try.prog (spOf [t32]) (inlOf []) extD).Ok InvD := cx_of [] (by kernel_rfl) (by
  intro p hp
  simp only [List.mem_cons, List.not_mem_nil, or_false] at hp
  rcases hp with rfl
  · exact t32_ok)

def zR : Nat → Nat → Dt := fun _ _ => .int 0
/-- the program's: error, number of groups, groups -/
def gpE (n : Nat) (x : Nat → Nat → Dt) : Int := bif caE n x != 0 then caE n x else bif dfB n (soF n x) then 0 else 6
def gpG (n : Nat) (x : Nat → Nat → Dt) : Nat × (Nat → Nat → Dt) := bif caE n x != 0 then (0, zR) else bif dfB n (soF n x) then grF n n (soF n x) 0 zeroEl else (0, zR)
/-- the reference's -/
def gqE (n : Nat) (x : Nat → Nat → Dt) : Int := bif caE n x != 0 then caE n x else bif (rsF x n 0 zeroEl).1 then 0 else 6
def gqG (n : Nat) (x : Nat → Nat → Dt) : Nat × (Nat → Nat → Dt) := bif caE n x != 0 then (0, zR) else bif (rsF x n 0 zeroEl).1 then rgF (rsF x n 0 zeroEl).2.1 (rsF x n 0 zeroEl).2.2 ((rsF x n 0 zeroEl).2.1 - 0) 0 0 zeroEl else (0, zR)
theorem vt29 (n : Nat) (x : Nat → Nat → Dt) : (evFnT Try.prog (spOf [t33, t52, t53]) (inlOf []) extD (cKD [t33, t52, t53] []) lp29 Try.f29 [.isz n SS x] [] (castT (.tup [.row [.row SS], .any]))).run =
    (bif n.ble 9223372036854775807 then bif caE n x != 0 then some (.ret (.tup [.isz 0 [.row SS] zR, .int .i64 (caE n x)])) else bif n.ble 12 then bif dfB n (soF n x) then bif true && (n.ble 100 && (0 + n).ble 1000) then
      bif (grF n n (soF n x) 0 zeroEl).1.beq (grF n n (soF n x) 0 zeroEl).1 && true then some (.ret (.tup [.isz (grF n n (soF n x) 0 zeroEl).1 [.row SS] (grF n n (soF n x) 0 zeroEl).2, .int .i64 0])) else none else none
      else some (.ret (.tup [.isz 0 [.row SS] zR, .int .i64 6])) else none else none : Option Res) := by kernel_rfl
theorem vt30 (n : Nat) (x : Nat → Nat → Dt) : (evFnT Try.prog (spOf [t61, t62]) (inlOf []) extD (cKD [t61, t62] []) lp30 Try.f30 [.isz n SS x] [] (castT (.tup [.row [.row SS], .any]))).run =
    (bif n.ble 9223372036854775807 && ckB n x then bif caE n x != 0 then some (.ret (.tup [.isz 0 [.row SS] zR, .int .i64 (caE n x)])) else bif n.ble 100 then bif (rsF x n 0 zeroEl).1 then bif true && (true && (true && ((rsF x n 0 zeroEl).2.1.ble 100 && (0 + ((rsF x n 0 zeroEl).2.1 - 0)).ble 1000))) then
      bif (rgF (rsF x n 0 zeroEl).2.1 (rsF x n 0 zeroEl).2.2 ((rsF x n 0 zeroEl).2.1 - 0) 0 0 zeroEl).1.beq (rgF (rsF x n 0 zeroEl).2.1 (rsF x n 0 zeroEl).2.2 ((rsF x n 0 zeroEl).2.1 - 0) 0 0 zeroEl).1 && true then
        some (.ret (.tup [.isz (rgF (rsF x n 0 zeroEl).2.1 (rsF x n 0 zeroEl).2.2 ((rsF x n 0 zeroEl).2.1 - 0) 0 0 zeroEl).1 [.row SS] (rgF (rsF x n 0 zeroEl).2.1 (rsF x n 0 zeroEl).2.2 ((rsF x n 0 zeroEl).2.1 - 0) 0 0 zeroEl).2, .int .i64 0])) else none else none
      else some (.ret (.tup [.isz 0 [.row SS] zR, .int .i64 6])) else none else none : Option Res) := by kernel_rfl
def t29 : Ent := ⟨29, fun
  | [.isz n [.int .i64, .int .i64, .int .i64, .str, .str, .int .i64, .int .i64, .int .i64, .row [.str, .str], .row [.int .i64, .int .i64]] x] => .chk (Nat.ble n 12) (.leaf (.ret (.tup [.isz (gpG n x).1 [.row SS] (gpG n x).2, .int .i64 (gpE n x)])))
  | _ => .non⟩
def t30 : Ent := ⟨30, fun
  | [.isz n [.int .i64, .int .i64, .int .i64, .str, .str, .int .i64, .int .i64, .int .i64, .row [.str, .str], .row [.int .i64, .int .i64]] x] => .chk (Nat.ble n 12 && ckB n x) (.leaf (.ret (.tup [.isz (gqG n x).1 [.row SS] (gqG n x).2, .int .i64 (gqE n x)])))
  | _ => .non⟩
theorem rs_len {x : Nat → Nat → Dt} : ∀ (f i : Nat) (y : Nat → Nat → Dt), (rsF x f i y).2.1 ≤ i + f
  | 0, i, y => Nat.le_refl _
  | f + 1, i, y => by
    simp only [rsF]
    split
    · simp only; omega
    · have := rs_len (x := x) f (i + 1) (insR y (skF y x i i 0) (x i))
      omega
set_option maxRecDepth 10000 in
theorem t29_ok : SpecHolds Try.prog InvD 29 fun a => (t29.2 a).run := by
  refine spec_of_evC Try.prog (spOf [t33, t52, t53]) (inlOf []) extD (cKD [t33, t52, t53] []) (fun {β} => callK_eq (β := β) Try.prog _ _ extD attD uD 20) sx29 stableD mixedD (callN_sound attD_ok sx29 stableD mixedD 20) Try.func29 (c := codeOf Try.prog 29) (by kernel_rfl) lp29 (fun p hp => by
    have hl : loops (codeOf Try.prog 29) = [(0, bodyOf Try.prog 29 0), (2, bodyOf Try.prog 29 2)] := by kernel_rfl
    rw [hl] at hp
    simp only [List.mem_cons, List.not_mem_nil, or_false] at hp
    rcases hp with rfl | rfl
    · exact sum29
    · exact sum29i) (.tup [.row [.row SS], .any]) fun args r hh => ?_
  simp only [t29] at hh
  split at hh
  · rename_i n x
    obtain ⟨hg, hh⟩ := chk_run hh
    rw [Nat.ble_eq] at hg
    refine ⟨by kernel_rfl, (vt29 n x).trans (Eq.trans ?_ hh)⟩
    unfold gpG gpE
    rw [condT (by rw [Nat.ble_eq]; omega)]
    cases caE n x != 0 with
    | true => rfl
    | false =>
      rw [cond_false, condT (by rw [Nat.ble_eq]; omega)]
      cases dfB n (soF n x) with
      | false => rfl
      | true =>
        rw [cond_true, condT (by simp only [Bool.true_and, Nat.zero_add, Bool.and_eq_true, Nat.ble_eq]; omega), condT (by rw [Nat.beq_refl]; rfl)]
        rfl
  · simp [Tr.run] at hh
set_option maxRecDepth 10000 in
theorem t30_ok : SpecHolds Try.prog InvD 30 fun a => (t30.2 a).run := by
  refine spec_of_evC Try.prog (spOf [t61, t62]) (inlOf []) extD (cKD [t61, t62] []) (fun {β} => callK_eq (β := β) Try.prog _ _ extD attD uD 20) sx30 stableD mixedD (callN_sound attD_ok sx30 stableD mixedD 20) Try.func30 (c := codeOf Try.prog 30) (by kernel_rfl) lp30 (fun p hp => by
    have hl : loops (codeOf Try.prog 30) = [(0, bodyOf Try.prog 30 0), (2, bodyOf Try.prog 30 2)] := by kernel_rfl
    rw [hl] at hp
    simp only [List.mem_cons, List.not_mem_nil, or_false] at hp
    rcases hp with rfl | rfl
    · exact sum30
    · exact sum30i) (.tup [.row [.row SS], .any]) fun args r hh => ?_
  simp only [t30] at hh
  split at hh
  · rename_i n x
    obtain ⟨hg, hh⟩ := chk_run hh
    rw [Bool.and_eq_true, Nat.ble_eq] at hg
    refine ⟨by kernel_rfl, (vt30 n x).trans (Eq.trans ?_ hh)⟩
    have hle := rs_len (x := x) n 0 zeroEl
    unfold gqG gqE
    rw [condT (by rw [hg.2, Bool.and_true, Nat.ble_eq]; omega)]
    cases caE n x != 0 with
    | true => rfl
    | false =>
      rw [cond_false, condT (by rw [Nat.ble_eq]; omega)]
      cases (rsF x n 0 zeroEl).1 with
      | false => rfl
      | true =>
        rw [cond_true, condT (by simp only [Bool.true_and, Nat.zero_add, Bool.and_eq_true, Nat.ble_eq]; omega), condT (by rw [Nat.beq_refl]; rfl)]
        rfl
  · simp [Tr.run] at hh
/-- groups that read alike -/
def gaB (n : Nat) (x : Nat → Nat → Dt) (m : Nat) (y : Nat → Nat → Dt) : Bool := Nat.beq n m && (List.range n).all fun k => Nat.ble (x k 0).len 1000000 && erB (x k 0).len (x k 0).el (y k 0).len (y k 0).el
theorem gaB_get {n m : Nat} {x y : Nat → Nat → Dt} (h : gaB n x m y = true) : n = m ∧ ∀ k, k < n → Nat.ble (x k 0).len 1000000 = true ∧ erB (x k 0).len (x k 0).el (y k 0).len (y k 0).el = true := by
  unfold gaB at h
  rw [Bool.and_eq_true] at h
  exact ⟨by simpa using h.1, fun k hk => by simpa using List.all_eq_true.1 h.2 k (List.mem_range.2 hk)⟩
structure S31 where
  n : Nat
  x : Nat → Nat → Dt
  m : Nat
  y : Nat → Nat → Dt
  z : Bool
  l : Int
  i : Int
abbrev keep31 : List Nat := [1, 2, 6, 15, 16, 17]
abbrev vs31 (s : S31) : List AV := [.isz s.m [.row SS] s.y, .fn (.func 32) [], .bool s.z, .isz s.n [.row SS] s.x, .int .i64 s.l, .int .i64 s.i]
abbrev hp31 (_ : S31) : List Ob := []
def dec31 : List AV → List Ob → Option S31
  | [.isz m [.row [.int .i64, .int .i64, .int .i64, .str, .str, .int .i64, .int .i64, .int .i64, .row [.str, .str], .row [.int .i64, .int .i64]]] y, .fn (.func 32) [], .bool z, .isz n [.row [.int .i64, .int .i64, .int .i64, .str, .str, .int .i64, .int .i64, .int .i64, .row [.str, .str], .row [.int .i64, .int .i64]]] x, .int .i64 l, .int .i64 i], [] => some ⟨n, x, m, y, z, l, i⟩
  | _, _ => none
def dom31 (s : S31) : Bool := decide (0 ≤ s.i) && (decide (s.i ≤ (s.n : Int)) && (decide (s.l = (s.n : Int)) && (Nat.ble s.n 1000000 && gaB s.n s.x s.m s.y)))
def fin31 (s : S31) : Tr (Ex × List AV × List Ob) := .leaf (.exit 0, [.isz s.m [.row SS] s.y, .fn (.func 32) [], .bool s.z, .isz s.n [.row SS] s.x, .int .i64 s.l, .int .i64 (s.n : Int)], [])
abbrev lp31 (_ : Nat) : LT := .sum keep31 (stF dec31 dom31 fin31)
def rnd31 (n : Nat) (x : Nat → Nat → Dt) (m : Nat) (y : Nat → Nat → Dt) (z : Bool) (i : Int) : Option (Ex × List AV × List Ob) := bif decide (i < (n : Int)) then bif decide (0 ≤ i) && decide (i < (n : Int)) then bif decide (0 ≤ i) && decide (i < (m : Int)) then bif (x i.toNat 0).len.ble 1000000 && erB (x i.toNat 0).len (x i.toNat 0).el (y i.toNat 0).len (y i.toNat 0).el then
  some (.normal, [.isz m [.row SS] y, .fn (.func 32) [], .bool z, .isz n [.row SS] x, .int .i64 (n : Int), .int .i64 (IntKind.i64.wrap (i + 1))], []) else none else none else none else some (.exit 0, [.isz m [.row SS] y, .fn (.func 32) [], .bool z, .isz n [.row SS] x, .int .i64 (n : Int), .int .i64 i], [])
theorem loop31 (n : Nat) (x : Nat → Nat → Dt) (m : Nat) (y : Nat → Nat → Dt) (z : Bool) (i : Int) : evC (β := Ex × List AV × List Ob) Try.prog (spOf [t32]) (inlOf []) extD (cKD [t32] []) lp31 (bodyOf Try.prog 31 0) ⟨mkF Try.f31.ntmps keep31 [.isz m [.row SS] y, .fn (.func 32) [], .bool z, .isz n [.row SS] x, .int .i64 (n : Int), .int .i64 i], []⟩ (fun e st => (cutBack keep31 0 st).map fun q => (e, q.1, q.2)) = rnd31 n x m y z i := by kernel_rfl
theorem sum31 : LoopOkT Try.prog (spOf [t32]) (inlOf []) extD (cKD [t32] []) lp31 Try.f31.ntmps (bodyOf Try.prog 31 0) (.sum keep31 (stF dec31 dom31 fin31)) := by
  dsimp only [LoopOkT]
  refine ⟨by decide, by decide, ?_⟩
  refine sum_st dec31 dom31 fin31 vs31 hp31 (fun s => s.n - s.i.toNat) (fun vs H s hs => ?_) (fun s R hd hR => ?_)
  · unfold dec31 at hs
    split at hs
    · obtain rfl := Option.some.inj hs
      exact ⟨rfl, rfl⟩
    · cases hs
  · obtain ⟨n, x, m, y, z, l, i⟩ := s
    simp only [dom31, Bool.and_eq_true, decide_eq_true_eq, Nat.ble_eq] at hd
    obtain ⟨h1, h2, rfl, h4, h5⟩ := hd
    obtain ⟨i, rfl⟩ : ∃ p : Nat, i = (p : Int) := ⟨i.toNat, by omega⟩
    simp only [fin31, Tr.run, Option.some.injEq] at hR
    subst hR
    have ht := loop31 n x m y z (i : Int)
    unfold rnd31 at ht
    rw [Int.toNat_natCast] at ht
    obtain ⟨rfl, hall⟩ := gaB_get h5
    by_cases hi : i < n
    · obtain ⟨a1, a2⟩ := hall i hi
      rw [condT (decide_eq_true (by omega)), condT (by simp only [Bool.and_eq_true, decide_eq_true_eq] <;> omega), condT (by simp only [Bool.and_eq_true, decide_eq_true_eq] <;> omega), condT (by rw [a1, a2]; rfl), wrapI (by omega) (by omega)] at ht
      refine .inl ⟨⟨n, x, n, y, z, (n : Int), (i : Int) + 1⟩, ht, rfl, ?_, rfl, ?_⟩
      · simp only [dom31, Bool.and_eq_true, decide_eq_true_eq, Nat.ble_eq, true_and]
        exact ⟨by omega, by omega, h4, h5⟩
      · simp only [Int.toNat_natCast]; omega
    · rw [condF (decide_eq_false (by omega))] at ht
      obtain rfl : i = n := by omega
      exact .inr ⟨by simp, ht⟩
def t31 : Ent := ⟨31, fun
  | [.isz n [.row [.int .i64, .int .i64, .int .i64, .str, .str, .int .i64, .int .i64, .int .i64, .row [.str, .str], .row [.int .i64, .int .i64]]] x, .isz m [.row [.int .i64, .int .i64, .int .i64, .str, .str, .int .i64, .int .i64, .int .i64, .row [.str, .str], .row [.int .i64, .int .i64]]] y, .fn (.func 32) []] => .chk (Nat.ble n 1000000 && gaB n x m y) (.leaf (.ret (.bool true)))
  | _ => .non⟩
theorem vt31 (n : Nat) (x : Nat → Nat → Dt) (m : Nat) (y : Nat → Nat → Dt) : evFn Try.prog (spOf [t32]) (inlOf []) extD (cKD [t32] []) lp31 Try.f31 [.isz n [.row SS] x, .isz m [.row SS] y, .fn (.func 32) []] [] (fun r _ => some r) =
    (bif (n : Int) != (m : Int) then RB false else bif true && (true && (decide ((n : Int) = (n : Int)) && (Nat.ble n 1000000 && gaB n x m y))) then RB true else none : Option Res) := by kernel_rfl
set_option maxRecDepth 10000 in
theorem t31_ok : SpecHolds Try.prog InvD 31 fun a => (t31.2 a).run := by
  refine specD sx31 Try.func31 (c := codeOf Try.prog 31) (by kernel_rfl) lp31 (fun p hp => by
    have hl : loops (codeOf Try.prog 31) = [(0, bodyOf Try.prog 31 0)] := by kernel_rfl
    rw [hl, List.mem_singleton] at hp
    subst hp
    exact sum31) fun args r hh => ?_
  simp only [t31] at hh
  split at hh
  · rename_i n x m y
    obtain ⟨hg, hh⟩ := chk_run hh
    refine ⟨by kernel_rfl, tr_ok (by rfl) hh, ?_⟩
    refine (vt31 n x m y).trans (Eq.trans ?_ hh)
    have h2 := hg
    rw [Bool.and_eq_true] at h2
    obtain ⟨rfl, _⟩ := gaB_get h2.2
    rw [bne_self_eq_false, cond_false, condT (by rw [hg, decide_eq_true rfl]; rfl)]
    rfl
  · simp [Tr.run] at hh
end Go.Proofs.Ytfgniheefiefjaa

/- SpantreeGroup's walk, and that both groups read alike. Conditions: none beyond the context's. -/
namespace Go.Proofs.Ytfgniheefiefjaa
open Go.Evl Go.RowKit

theorem zF_shift (y : Nat → Nat → Dt) (t : Int) (i : Nat) : ∀ f k, zF (fun j => y (j + i)) t f k + i = zF y t f (k + i)
  | 0, k => rfl
  | f + 1, k => by
    simp only [zF]
    by_cases h : (y (k + i) 0).n = t
    · rw [if_pos h, if_pos h, zF_shift y t i f (k + 1), show k + 1 + i = k + i + 1 by omega]
    · rw [if_neg h, if_neg h]
theorem rg_gr {n : Nat} {y : Nat → Nat → Dt} : ∀ (f i g : Nat) (q : Nat → Nat → Dt), rgF n y f i g q = grF f (n - i) (fun j => y (j + i)) g q
  | 0, i, g, q => rfl
  | f + 1, i, g, q => by
    simp only [rgF, grF]
    by_cases h : i < n
    · rw [if_pos h, if_neg (by omega), rg_gr f]
      have hz : zF y (y i 0).n (n - i) i = zF (fun j => y (j + i)) (y (0 + i) 0).n (n - i - 1) 1 + i := by
        rw [zF_shift, Nat.zero_add]
        obtain ⟨p, hp⟩ : ∃ p, n - i = p + 1 := ⟨n - i - 1, by omega⟩
        rw [hp, Nat.add_sub_cancel, Nat.add_comm 1 i]
        simp only [zF, if_true]
      rw [hz]
      generalize zF (fun j => y (j + i)) (y (0 + i) 0).n (n - i - 1) 1 = z
      rw [show n - (z + i) = n - i - z by omega, Nat.add_sub_cancel]
      have e1 : (fun j => y (j + (z + i))) = fun j => y (j + z + i) := by funext j; rw [Nat.add_assoc]
      rw [e1]
      rfl
    · rw [if_neg h, if_pos (by omega)]
/-- a span whose rows are not too long -/
def smV (v : List Dt) : Prop := (dtF v 8).len ≤ 1000000 ∧ (dtF v 9).len ≤ 1000000
theorem esG_of {x y : Nat → Nat → Dt} {k : Nat} (h : vE x k = vE y k) (hs : smV (vE x k)) : esG x y k = true := by
  obtain ⟨h0, h1, h2, h3, h4, h5, h6, h7, h8, h9, h10, h11⟩ := vE_cell h
  obtain ⟨s1, s2⟩ := hs
  have s1' : (x k 8).len ≤ 1000000 := s1
  have s2' : (x k 9).len ≤ 1000000 := s2
  unfold esG esB
  rw [← h0, ← h1, ← h2, ← h3, ← h4, ← h5, ← h6, ← h7, ← h8, ← h9, ← h10, ← h11, elB_refl, ekB_refl, Nat.ble_eq_true_of_le s1', Nat.ble_eq_true_of_le s2']
  simp
/-- rows of rows that read alike -/
def GA (g : Nat) (q q' : Nat → Nat → Dt) : Prop := ∀ k, k < g → (q k 0).len = (q' k 0).len ∧ (q k 0).len ≤ 1000 ∧ ∀ i, i < (q k 0).len → vE (q k 0).el i = vE (q' k 0).el i ∧ smV (vE (q k 0).el i)
theorem GA_gaB {g : Nat} {q q' : Nat → Nat → Dt} (h : GA g q q') : gaB g q g q' = true := by
  unfold gaB
  rw [Nat.beq_refl, Bool.true_and]
  refine List.all_eq_true.2 fun k hk => ?_
  obtain ⟨h1, h2, h3⟩ := h k (List.mem_range.1 hk)
  rw [Bool.and_eq_true]
  refine ⟨Nat.ble_eq_true_of_le (by omega), ?_⟩
  unfold erB
  rw [← h1, Nat.beq_refl, Bool.true_and]
  exact List.all_eq_true.2 fun i hi => esG_of (h3 i (List.mem_range.1 hi)).1 (h3 i (List.mem_range.1 hi)).2
theorem app_at {el el' : Nat → Nat → Dt} {n i : Nat} : appEl el n el' i = if i < n then el i else el' (i - n) := by
  unfold appEl
  by_cases h : i < n
  · rw [if_pos h, show Nat.blt i n = true by rw [Nat.blt_eq]; exact h]; rfl
  · rw [if_neg h, show Nat.blt i n = false by rw [Bool.eq_false_iff]; simpa using h]; rfl
theorem zF_alike {x y : Nat → Nat → Dt} {t : Int} {r : Nat} (h : ∀ i, i < r → vE x i = vE y i) : ∀ f k, k + f ≤ r → zF x t f k = zF y t f k
  | 0, k, _ => rfl
  | f + 1, k, hk => by
    simp only [zF]
    rw [(vE_cell (h k (by omega))).1, zF_alike h f (k + 1) (by omega)]
theorem grF_alike : ∀ (f r g : Nat) (x y q q' : Nat → Nat → Dt), r ≤ 1000 → (∀ i, i < r → vE x i = vE y i ∧ smV (vE x i)) → GA g q q' → (grF f r x g q).1 = (grF f r y g q').1 ∧ GA (grF f r x g q).1 (grF f r x g q).2 (grF f r y g q').2
  | 0, r, g, x, y, q, q', _, _, hg => ⟨rfl, hg⟩
  | f + 1, r, g, x, y, q, q', hr, hv, hg => by
    simp only [grF]
    by_cases h0 : r = 0
    · rw [if_pos h0, if_pos h0]
      exact ⟨rfl, hg⟩
    · rw [if_neg h0, if_neg h0, (vE_cell (hv 0 (by omega)).1).1, zF_alike (fun i hi => (hv i hi).1) (r - 1) 1 (by omega)]
      have hz := zF_le y (y 0 0).n (r - 1) 1
      generalize zF y (y 0 0).n (r - 1) 1 = z at hz
      refine grF_alike f (r - z) (g + 1) _ _ _ _ (by omega) (fun i hi => hv (i + z) (by omega)) fun k hk => ?_
      rw [app_at, app_at]
      by_cases hkg : k < g
      · rw [if_pos hkg, if_pos hkg]
        exact hg k hkg
      · rw [if_neg hkg, if_neg hkg, show k - g = 0 by omega]
        exact ⟨rfl, by show z ≤ 1000; omega, fun i hi => hv i (by have : i < z := hi; omega)⟩
theorem smV_perm {n : Nat} {x y : Nat → Nat → Dt} (hp : (toL n x).Perm (toL n y)) (h : ∀ i, i < n → smV (vE y i)) : ∀ i, i < n → smV (vE x i) := fun i hi => by
  obtain ⟨k, hk, e⟩ := toL_mem.1 (hp.mem_iff.1 (toL_mem.2 ⟨i, hi, rfl⟩))
  rw [e]; exact h k hk
theorem gp_gq {n : Nat} {x : Nat → Nat → Dt} (hn : n ≤ 1000) (hs : ∀ i, i < n → smV (vE x i)) : gpE n x = gqE n x ∧ (gpG n x).1 = (gqG n x).1 ∧ GA (gpG n x).1 (gpG n x).2 (gqG n x).2 := by
  obtain ⟨h1, h2⟩ := rs_so n x
  unfold gpE gqE gpG gqG
  rw [h1]
  cases caE n x != 0 with
  | true => exact ⟨rfl, rfl, fun k hk => by cases hk⟩
  | false =>
    simp only [cond_false]
    cases hd : dfB n (soF n x) with
    | false => exact ⟨trivial, rfl, fun k hk => by cases hk⟩
    | true =>
      obtain ⟨e1, e2⟩ := h2 hd
      simp only [cond_true]
      rw [e1, Nat.sub_zero, rg_gr, Nat.sub_zero]
      obtain ⟨a, b⟩ := grF_alike n n 0 (soF n x) (rsF x n 0 zeroEl).2.2 zeroEl zeroEl hn (fun i hi => ⟨e2 i hi, smV_perm (soF_ok n x).2 hs i hi⟩) (fun k hk => by cases hk)
      exact ⟨trivial, a, b⟩
/-- what a reading of spans gives -/
def okL (n : Nat) (x : Nat → Nat → Dt) : Bool := Nat.ble n 9223372036854775807 && (lnB n x && (List.range n).all fun k => inI (x k 0).n && inB (x k 9).len (x k 9).el)
theorem gl_sm {n : Nat} {x : Nat → Nat → Dt} (h : glB n x = false) : n ≤ 12 ∧ ∀ k, k < n → gsG x k = false := by
  unfold glB at h
  simp only [Bool.or_eq_false_iff, Bool.not_eq_eq_eq_not, Bool.not_false, decide_eq_false_iff_not] at h
  refine ⟨by omega, fun k hk => ?_⟩
  have hs : scan (g16 n x) (n - 0) 0 = none := by simpa [sc16] using h.1
  have := scan_none hs k (Nat.zero_le _) (by omega)
  unfold g16 at this
  split at this
  · cases this
  · rename_i hh
    exact bnx hh
theorem gs_len {x : Nat → Nat → Dt} {k : Nat} (h : gsG x k = false) : (x k 8).len ≤ 17 ∧ (x k 9).len ≤ 17 := by
  unfold gsG gsB grB at h
  simp only [Bool.or_eq_false_iff, decide_eq_false_iff_not] at h
  omega
theorem okL_ck {n : Nat} {x : Nat → Nat → Dt} (h : okL n x = true) (hg : glB n x = false) : ckB n x = true ∧ ∀ k, k < n → smV (vE x k) := by
  unfold okL at h
  simp only [Bool.and_eq_true] at h
  obtain ⟨h1, h2⟩ := gl_sm hg
  refine ⟨List.all_eq_true.2 fun k hk => ?_, fun k hk => ?_⟩
  · have h3 := List.all_eq_true.1 h.2.2 k hk
    rw [Bool.and_eq_true] at h3
    have h4 := h2 k (List.mem_range.1 hk)
    unfold gsG at h4
    unfold siB
    rw [h3.1, h3.2, gs_sm h4]; rfl
  · obtain ⟨e1, e2⟩ := gs_len (h2 k hk)
    exact ⟨by show (x k 8).len ≤ 1000000; omega, by show (x k 9).len ≤ 1000000; omega⟩
theorem lx8 : (mkCx Try.prog (spOf [t16, t29, t30, t31, iAw]) (inlOf []) extD).Ok InvD := cx_of [] (by kernel_rfl) (by
  intro p hp
  simp only [List.mem_cons, List.not_mem_nil, or_false] at hp
  rcases hp with rfl | rfl | rfl | rfl | rfl
  · exact t16_ok
  · exact t29_ok
  · exact t30_ok
  · exact t31_ok
  · exact iAw_ok)

theorem lt8 (n : Nat) (x : Nat → Nat → Dt) : evFn Try.prog (spOf [t16, t29, t30, t31, iAw]) (inlOf []) extD (cKD [t16, t29, t30, t31, iAw] []) (fun _ => .unroll 0) Try.f8 [.isz n SS x] [] (fun r _ => some r) =
    (bif n.ble 9223372036854775807 && lnB n x then bif glB n x then RB true else bif n.ble 12 then bif n.ble 12 && ckB n x then bif (gpG n x).1.ble 1000000 && gaB (gpG n x).1 (gpG n x).2 (gqG n x).1 (gqG n x).2 then bif gpE n x == gqE n x then RB true else RB false else none else none else none else none : Option Res) := by kernel_rfl
def l8 : Ent := ⟨8, fun
  | [.isz n [.int .i64, .int .i64, .int .i64, .str, .str, .int .i64, .int .i64, .int .i64, .row [.str, .str], .row [.int .i64, .int .i64]] x] => .chk (okL n x) (.leaf (.ret (.bool true)))
  | _ => .non⟩
theorem grF_cnt : ∀ (f r g : Nat) (x q : Nat → Nat → Dt), (grF f r x g q).1 ≤ g + f
  | 0, _, g, _, _ => Nat.le_refl _
  | f + 1, r, g, x, q => by
    simp only [grF]
    split
    · simp only; omega
    · have := grF_cnt f (r - zF x (x 0 0).n (r - 1) 1) (g + 1) (fun i => x (i + zF x (x 0 0).n (r - 1) 1)) (appEl q g (g1 (zF x (x 0 0).n (r - 1) 1) fun i => x (i + 0)))
      omega
theorem gpG_cnt (n : Nat) (x : Nat → Nat → Dt) : (gpG n x).1 ≤ n := by
  unfold gpG
  cases caE n x != 0 with
  | true => exact Nat.zero_le _
  | false =>
    simp only [cond_false]
    cases dfB n (soF n x) with
    | false => exact Nat.zero_le _
    | true => exact Nat.le_trans (grF_cnt n n 0 (soF n x) zeroEl) (by omega)
theorem l8_ok : SpecHolds Try.prog InvD 8 fun a => (l8.2 a).run := by
  refine specD lx8 Try.func8 (c := codeOf Try.prog 8) (by kernel_rfl) (fun _ => .unroll 0) (fun _ _ => trivial) fun args r hh => ?_
  simp only [l8] at hh
  split at hh
  · rename_i n x
    obtain ⟨hg, hh⟩ := chk_run hh
    refine ⟨by kernel_rfl, tr_ok (by rfl) hh, ?_⟩
    refine (lt8 n x).trans (Eq.trans ?_ hh)
    have hg' := hg
    unfold okL at hg'
    simp only [Bool.and_eq_true] at hg'
    rw [condT (by rw [hg'.1, hg'.2.1]; rfl)]
    cases hb : glB n x with
    | true => rfl
    | false =>
      obtain ⟨h1, h2⟩ := okL_ck hg hb
      have h12 := (gl_sm hb).1
      obtain ⟨e1, e2, e3⟩ := gp_gq (n := n) (x := x) (by omega) h2
      have hc := gpG_cnt n x
      rw [cond_false, condT (Nat.ble_eq_true_of_le h12), condT (by rw [h1, Nat.ble_eq_true_of_le h12]; rfl), condT (by rw [← e2, GA_gaB e3, Nat.ble_eq_true_of_le (by omega)]; rfl), e1, beq_self_eq_true]
      rfl
  · simp [Tr.run] at hh
end Go.Proofs.Ytfgniheefiefjaa

/- SpantreeGroup returns true for every input, and its arguments read as they did. No condition. -/
namespace Go.Proofs.Ytfgniheefiefjaa
open Go.ChangeShapes Go.WideShapes Go.ChangeAt Go.RowKit Go.Joins Go.Evl

section
variable {H : Type} {enc : TypeId × Value → H} {w : World} {base b0 : Nat} {spare : Nat → Bool} {held : Bool} {rc : Reach} {v : Value} {d : DataW H} {p : List MemPlace}
set_option maxRecDepth 100000 in
theorem spans_form (hv : Value.okWide Try.prog w rc b0 32 v) (h : DataW.Trod enc Try.prog w base spare held 32 v d p) : ∃ (n : Nat) (x : Nat → Nat → Dt), Rv (Nm.one 0 0) (fun b => b < w.heap.size) w None_ (.isz n SS x) v ∧ okL n x = true := by
  obtain ⟨y, hr, hok⟩ := arg_row (ρ := Nm.one 0 0) (d := 8) (s := SS) (show Try.prog.underlying 32 = some (.slice 25) by kernel_rfl) (by kernel_rfl) (by kernel_rfl) hv h
  refine ⟨y.len, y.el, hr, ?_⟩
  have h1 : y.len ≤ maxLen ∧ ∀ i, i < y.len → ∀ j s, SS[j]? = some s → dtOk 2 s (y.el i j) := hok 3
  unfold okL lnB
  rw [Nat.ble_eq_true_of_le (show y.len ≤ 9223372036854775807 from h1.1), Bool.true_and, Bool.and_eq_true]
  refine ⟨List.all_eq_true.2 fun k hk => ?_, List.all_eq_true.2 fun k hk => ?_⟩
  · have h8 : dtOk 2 (.row SL) (y.el k 8) := h1.2 k (List.mem_range.1 hk) 8 _ rfl
    exact Nat.ble_eq_true_of_le h8.1
  · rw [Bool.and_eq_true]
    have h0 : dtOk 2 (.int .i64) (y.el k 0) := h1.2 k (List.mem_range.1 hk) 0 _ rfl
    have h9 : dtOk 2 (.row SK) (y.el k 9) := h1.2 k (List.mem_range.1 hk) 9 _ rfl
    exact ⟨wf_inI h0, List.all_eq_true.2 fun i hi => wf_inI (h9.2 i (List.mem_range.1 hi) 0 _ rfl)⟩
end
set_option maxRecDepth 100000 in
theorem spantreeGroup_lifted (os : Os) (started : os.Started) (H : Type) (enc : TypeId × Value → H) :
    ReturnsInHanded {} Try.checked os 8 .any (Rows.spantreeGroupSpec.pre6 enc Try.prog Try.f8 Rows.spantreeGroupRow.domain false) (Rows.spantreeGroupSpec.post enc Try.prog Try.f8 false true false false) := by
  refine returnsInHanded_of_change (C := Try.checked) own started (by kernel_rfl) Try.func8
    (ChangeSpec.witness6 (enc := enc) (C := Try.checked) false ⟨#[], #[.slice none 0 0], []⟩ 8 (by kernel_rfl) (by kernel_rfl) (by kernel_rfl) (by kernel_rfl)) ?_
  intro W base args ds gs before hval0 hW _ _
  have hval : ∀ (j : Nat) t v, Try.f8.params[j]? = some t → args[j]? = some v → Value.okWide Try.prog W .any base t v := hval0
  have hW' := hW
  obtain ⟨p, q, hA0, hV, rfl, hfz, hnd⟩ := hW
  have hA : DataW.TrodAll enc Try.prog W 0 (fun _ => true) true Try.f8.params.toList args.toList ds p := hA0
  rw [Try.params8] at hA hval
  obtain ⟨u0, d0, rfl, rfl, h0⟩ := trodAll_one hA
  obtain ⟨rfl, rfl⟩ := trodVars_none hV
  have hlt0 : ∀ x ∈ p, x.block < W.heap.size := fun x hx => by simpa using hW'.lt x (by simp [hx])
  obtain ⟨n, x, rv0, g0⟩ := spans_form (hval 0 32 u0 rfl rfl) h0
  clear hA0 hval0
  have hrun : (l8.2 [.isz n SS x]).run = some (.ret (.bool true)) := by
    show (Tr.chk (okL n x) (Tr.leaf (Res.ret (AV.bool true)))).run = _
    rw [g0]; rfl
  refine (l8_ok _ (.ret (.bool true)) hrun (Nm.one 0 0) (fun b => b < W.heap.size) W [u0] (fun _ h => h) trivial (.cons rv0 .nil)).mono fun e W' ⟨hbel, u, he, hu⟩ => ?_
  subst he
  rw [hu.of_bool]
  refine ⟨_, rfl, _, _, _, [], p, [], hW', ?_, ?_, rfl, hbel.frame _, fun h => by cases h⟩
  · exact trodAll_mk1 (shut_bool Try.underlying4 true)
  · exact trodAll_mk1 (below_trod (by kernel_rfl) (of_decide_eq_true (by kernel_rfl)) h0 hbel hlt0)
theorem spantreeGroup_holds : Rows.SpantreeGroupSaid :=
  OpenClaim.holds_of_wide 8 Try.f8 rfl rfl rfl rfl rfl rfl rfl ⟨rfl, rfl, rfl, rfl, rfl⟩ rfl rfl rfl rfl rfl (by kernel_rfl) Try.func8 (by kernel_rfl)
    (of_decide_eq_true (by kernel_rfl)) (by unfold Func.isWrapper; first | (rw [if_pos (by decide +kernel)]; kernel_rfl) | (rw [if_neg (by decide +kernel)]; exact ⟨rfl, rfl⟩))
    (fun os started H enc _ => spantreeGroup_lifted os started H enc)
#print axioms spantreeGroup_holds
end Go.Proofs.Ytfgniheefiefjaa
