/- Spans in groups: the contracts of both; groups compared. Conditions: none beyond the context's. -/
import Derived.Test.YtfgniheefiefjaaXCore6
/- Trees told by parents: each node is met once. Plain laws; no condition. -/
namespace Go.Proofs.Ytfgniheefiefjaa
open Go.Evl Go.RowKit
/-- the t-th forebear -/
def upO (q : Nat → Option Nat) : Nat → Nat → Option Nat
  | 0, k => some k
  | t + 1, k => (upO q t k).bind q
theorem upO_add (q : Nat → Option Nat) (s : Nat) : ∀ t k, upO q (s + t) k = (upO q s k).bind (upO q t)
  | 0, k => by
    cases h : upO q s k with
    | none => simp [h]
    | some c => simp [upO]
  | t + 1, k => by
    show (upO q (s + t) k).bind q = _
    rw [upO_add q s t k]
    cases upO q s k with
    | none => rfl
    | some c => rfl
theorem upO_one (q : Nat → Option Nat) (t k : Nat) : upO q (t + 1) k = (q k).bind (upO q t) := by
  rw [Nat.add_comm, upO_add]
  rfl
theorem upO_none {q : Nat → Option Nat} {k s : Nat} (h : upO q s k = none) {t : Nat} (ht : s ≤ t) : upO q t k = none := by
  obtain ⟨d, rfl⟩ : ∃ d, t = s + d := ⟨t - s, by omega⟩
  rw [upO_add, h]
  rfl
theorem upO_lt {q : Nat → Option Nat} {n : Nat} (hq : ∀ k c, q k = some c → c < n) {k : Nat} (hk : k < n) : ∀ t c, upO q t k = some c → c < n
  | 0, c, h => by cases h; exact hk
  | t + 1, c, h => by
    obtain ⟨b, _, h2⟩ := Option.bind_eq_some_iff.1 h
    exact hq b c h2
def smN (f : Nat → Nat) : Nat → Nat
  | 0 => 0
  | d + 1 => smN f d + f d
theorem smN_shift (f : Nat → Nat) : ∀ d, smN f (d + 1) = f 0 + smN (fun t => f (t + 1)) d
  | 0 => by simp [smN]
  | d + 1 => by
    show smN f (d + 1) + f (d + 1) = _
    rw [smN_shift f d]
    simp only [smN]
    omega
theorem smN_congr {f g : Nat → Nat} : ∀ {d}, (∀ t, t < d → f t = g t) → smN f d = smN g d
  | 0, _ => rfl
  | d + 1, h => by
    simp only [smN]
    rw [smN_congr fun t ht => h t (by omega), h d (by omega)]
/-- a child of J on the way up from k, at step t -/
def hit (q : Nat → Option Nat) (k : Nat) (J : Option Nat) (t : Nat) : Nat := match upO q t k with
  | some c => if q c = J then 1 else 0
  | none => 0
def subT (ch : Option Nat → List Nat) : Nat → Option Nat → List Nat
  | 0, _ => []
  | d + 1, J => (ch J).flatMap fun c => c :: subT ch d (some c)
theorem sum_one {l : List Nat} (hl : l.Nodup) (o : Option Nat) : (l.map fun c => if o = some c then 1 else 0).sum = (match o with
    | some c => if c ∈ l then 1 else 0
    | none => 0) := by
  induction l with
  | nil => cases o <;> rfl
  | cons a r ih =>
    rw [List.nodup_cons] at hl
    rw [List.map_cons, List.sum_cons, ih hl.2]
    cases o with
    | none => simp
    | some c =>
      by_cases h : c = a
      · subst h
        simp [hl.1]
      · simp [h]
theorem sum_smN {l : List Nat} (F : Nat → Nat → Nat) : ∀ d, (l.map fun c => smN (F c) d).sum = smN (fun t => (l.map fun c => F c t).sum) d
  | 0 => by
    induction l with
    | nil => rfl
    | cons a r ih => rw [List.map_cons, List.sum_cons, ih]; rfl
  | d + 1 => by
    have h := sum_smN (l := l) F d
    simp only [smN]
    rw [← h]
    clear h
    induction l with
    | nil => rfl
    | cons a r ih => simp only [List.map_cons, List.sum_cons, ih]; omega
/-- a tree's families -/
structure Fam (q : Nat → Option Nat) (n : Nat) (ch : Option Nat → List Nat) : Prop where
  q_lt : ∀ k c, q k = some c → c < n
  nodup : ∀ J, (ch J).Nodup
  mem : ∀ J c, c ∈ ch J ↔ c < n ∧ q c = J
theorem subT_count {q : Nat → Option Nat} {n : Nat} {ch : Option Nat → List Nat} (hf : Fam q n ch) {k : Nat} (hk : k < n) : ∀ d J, (subT ch d J).count k = smN (hit q k J) d
  | 0, J => rfl
  | d + 1, J => by
    rw [smN_shift]
    simp only [subT]
    rw [List.count_flatMap]
    have e1 : (List.count k ∘ fun c => c :: subT ch d (some c)) = fun c => (if (some k : Option Nat) = some c then 1 else 0) + smN (hit q k (some c)) d := by
      funext c
      simp only [Function.comp, List.count_cons, subT_count hf hk d (some c)]
      rw [Nat.add_comm]
      congr 1
      by_cases h : c = k
      · subst h; simp
      · rw [if_neg (by simpa using h), if_neg (by simpa using fun z : k = c => h z.symm)]
    rw [e1]
    have e2 : ∀ (l : List Nat) (A B : Nat → Nat), (l.map fun c => A c + B c).sum = (l.map A).sum + (l.map B).sum := by
      intro l A B
      induction l with
      | nil => rfl
      | cons a r ih => simp only [List.map_cons, List.sum_cons, ih]; omega
    rw [e2, sum_one (hf.nodup J), sum_smN]
    congr 1
    · show (if k ∈ ch J then 1 else 0) = hit q k J 0
      simp only [hit, upO, hf.mem]
      by_cases h : q k = J
      · rw [if_pos ⟨hk, h⟩, if_pos h]
      · rw [if_neg fun z => h z.2, if_neg h]
    · refine smN_congr fun t _ => ?_
      have e3 : (fun c => hit q k (some c) t) = fun c => if upO q (t + 1) k = some c then 1 else 0 := by
        funext c
        simp only [hit, upO]
        rcases Option.eq_none_or_eq_some (upO q t k) with h | ⟨b, h⟩
        · simp [h]
        · simp [h]
      rw [e3, sum_one (hf.nodup J)]
      simp only [hit]
      cases h : upO q (t + 1) k with
      | none => rfl
      | some c =>
        have := upO_lt hf.q_lt hk _ _ h
        simp only [hf.mem]
        by_cases e : q c = J
        · rw [if_pos ⟨this, e⟩, if_pos e]
        · rw [if_neg fun z => e z.2, if_neg e]
theorem subT_lt {q : Nat → Option Nat} {n : Nat} {ch : Option Nat → List Nat} (hf : Fam q n ch) : ∀ d J k, k ∈ subT ch d J → k < n
  | 0, _, _, h => by cases h
  | d + 1, J, k, h => by
    simp only [subT, List.mem_flatMap, List.mem_cons] at h
    obtain ⟨c, hc, rfl | h⟩ := h
    · exact ((hf.mem J k).1 hc).1
    · exact subT_lt hf d (some c) k h
/-- going up ends -/
def Ends (q : Nat → Option Nat) (n : Nat) : Prop := ∀ k, k < n → ∃ t, upO q t k = none
theorem nodup_le : ∀ (n : Nat) (l : List Nat), l.Nodup → (∀ k ∈ l, k < n) → l.length ≤ n
  | 0, l, _, h => by
    cases l with
    | nil => exact Nat.le_refl _
    | cons a r => have := h a (List.mem_cons_self ..); omega
  | n + 1, l, hl, h => by
    have h1 : (l.erase n).length ≤ n := nodup_le n _ (hl.erase n) fun k hk => by
      have := h k (List.mem_of_mem_erase hk)
      have : k ≠ n := fun e => by
        subst e
        exact hl.not_mem_erase hk
      omega
    have h2 := List.length_erase (a := n) (l := l)
    rw [h2] at h1
    split at h1 <;> omega
theorem up_inj {q : Nat → Option Nat} {n : Nat} (he : Ends q n) {k : Nat} (hk : k < n) {s t : Nat} (hst : s < t) {c : Nat} (h1 : upO q s k = some c) (h2 : upO q t k = some c) : False := by
  obtain ⟨e, he⟩ := he k hk
  have h3 : ∀ m, upO q (s + m * (t - s)) k = some c := by
    intro m
    induction m with
    | zero => simpa using h1
    | succ m ih =>
      have : s + (m + 1) * (t - s) = s + m * (t - s) + (t - s) := by rw [Nat.add_mul]; omega
      rw [this, upO_add, ih]
      show upO q (t - s) c = some c
      have := upO_add q s (t - s) k
      rw [show s + (t - s) = t by omega, h2, h1] at this
      exact this.symm
  have h4 := h3 (e + 1)
  rw [upO_none he (t := s + (e + 1) * (t - s)) (by
    have : (e + 1) * 1 ≤ (e + 1) * (t - s) := Nat.mul_le_mul_left _ (by omega)
    omega)] at h4
  cases h4
theorem up_bound {q : Nat → Option Nat} {n : Nat} (hq : ∀ k c, q k = some c → c < n) (he : Ends q n) {k : Nat} (hk : k < n) : upO q n k = none := by
  cases h : upO q n k with
  | none => rfl
  | some c =>
    exfalso
    have hs : ∀ t, t ≤ n → ∃ b, upO q t k = some b := by
      intro t ht
      cases e : upO q t k with
      | none => rw [upO_none e ht] at h; cases h
      | some b => exact ⟨b, rfl⟩
    have hl : ((List.range (n + 1)).map fun t => (upO q t k).getD 0).Nodup := by
      rw [List.nodup_iff_pairwise_ne, List.pairwise_map]
      refine List.Pairwise.imp_of_mem ?_ (List.pairwise_lt_range (n := n + 1))
      intro a b ha hb hab e
      rw [List.mem_range] at ha hb
      obtain ⟨u, hu⟩ := hs a (by omega)
      obtain ⟨v, hv⟩ := hs b (by omega)
      rw [hu, hv] at e
      simp only [Option.getD_some] at e
      subst e
      exact up_inj he hk hab hu hv
    have := nodup_le n _ hl (by
      intro j hj
      rw [List.mem_map] at hj
      obtain ⟨t, ht, rfl⟩ := hj
      rw [List.mem_range] at ht
      obtain ⟨u, hu⟩ := hs t (by omega)
      rw [hu]
      exact upO_lt hq hk _ _ hu)
    rw [List.length_map, List.length_range] at this
    omega
/-- exactly one of the nodes on the way up has no parent -/
theorem hit_root {q : Nat → Option Nat} {k : Nat} : ∀ d, upO q d k = none → smN (hit q k none) d = 1
  | 0, h => by cases h
  | d + 1, h => by
    simp only [smN]
    cases e : upO q d k with
    | none => rw [hit_root d e]; simp [hit, e]
    | some c =>
      have h1 : q c = none := by simpa [upO, e] using h
      have h2 : smN (hit q k none) d = 0 := by
        have : ∀ m, m ≤ d → smN (hit q k none) m = 0 := by
          intro m
          induction m with
          | zero => intro _; rfl
          | succ m ih =>
            intro hm
            simp only [smN]
            rw [ih (by omega)]
            simp only [hit]
            cases e2 : upO q m k with
            | none => rfl
            | some b =>
              have : q b ≠ none := by
                intro z
                have : upO q (m + 1) k = none := by simp [upO, e2, z]
                rw [upO_none this hm] at e
                cases e
              simp [this]
        exact this d (Nat.le_refl _)
      rw [h2]
      simp [hit, e, h1]
theorem subT_perm {q : Nat → Option Nat} {n : Nat} {ch : Option Nat → List Nat} (hf : Fam q n ch) (he : Ends q n) {d : Nat} (hd : n ≤ d) : (subT ch d none).Perm (List.range n) := by
  rw [List.perm_iff_count]
  intro k
  by_cases hk : k < n
  · rw [subT_count hf hk, hit_root d (upO_none (up_bound hf.q_lt he hk) hd), List.count_range]
    simp [hk]
  · rw [List.count_eq_zero.2 fun h => hk (subT_lt hf _ _ _ h), List.count_eq_zero.2 (by simpa using hk)]
end Go.Proofs.Ytfgniheefiefjaa

/- Circles of parents cut: what the loops compute. Plain laws; no condition. -/
namespace Go.Proofs.Ytfgniheefiefjaa
open Go.Evl Go.RowKit

/-- a number put in -/
def stS (st : Nat → Nat → Dt) (a : Nat) (v : Int) : Nat → Nat → Dt := setEl st a 0 [.int v]
theorem stS_at (st : Nat → Nat → Dt) (a : Nat) (v : Int) (k : Nat) : (stS st a v k 0).n = if k = a then v else (st k 0).n := by
  unfold stS setEl
  by_cases h : k = a
  · subst h
    rw [Nat.beq_refl, if_pos rfl]; rfl
  · rw [if_neg h, show Nat.beq k a = false by rw [Bool.eq_false_iff]; simp only [ne_eq, Nat.beq_eq]; exact h]; rfl
/-- how many of the first numbers are v -/
def cnt (st : Nat → Nat → Dt) (v : Int) : Nat → Nat
  | 0 => 0
  | n + 1 => cnt st v n + if (st n 0).n = v then 1 else 0
theorem cnt_le (st : Nat → Nat → Dt) (v : Int) : ∀ n, cnt st v n ≤ n
  | 0 => Nat.le_refl _
  | n + 1 => by
    simp only [cnt]
    have := cnt_le st v n
    split <;> omega
theorem cnt_congr {st st' : Nat → Nat → Dt} {v : Int} : ∀ {n : Nat}, (∀ k, k < n → ((st k 0).n = v ↔ (st' k 0).n = v)) → cnt st v n = cnt st' v n
  | 0, _ => rfl
  | n + 1, h => by
    simp only [cnt]
    rw [cnt_congr (fun k hk => h k (by omega))]
    have := h n (by omega)
    by_cases e : (st n 0).n = v
    · rw [if_pos e, if_pos (this.1 e)]
    · rw [if_neg e, if_neg fun z => e (this.2 z)]
theorem cnt_set {st : Nat → Nat → Dt} {u v : Int} {a : Nat} (hu : (st a 0).n = u) (hv : v ≠ u) : ∀ {n : Nat}, a < n → cnt st u n = cnt (stS st a v) u n + 1
  | 0, h => by omega
  | n + 1, h => by
    simp only [cnt]
    by_cases e : a = n
    · subst e
      rw [if_pos hu, stS_at, if_pos rfl, if_neg hv, cnt_congr (st := st) (st' := stS st a v) fun k hk => by rw [stS_at, if_neg (by omega)]]
    · have hs : (stS st a v n 0).n = (st n 0).n := by rw [stS_at, if_neg (fun z => e z.symm)]
      rw [cnt_set hu hv (show a < n by omega), hs]
      omega
/-- a trail followed from u to v -/
def trF (u v : Int) (pa : Nat → Nat → Dt) : Nat → (Nat → Nat → Dt) → Int → (Nat → Nat → Dt) × Int
  | 0, st, a => (st, a)
  | f + 1, st, a => if 0 ≤ a ∧ (st a.toNat 0).n = u then trF u v pa f (stS st a.toNat v) (pa a.toNat 0).n else (st, a)
def tr (u v : Int) (n : Nat) (pa st : Nat → Nat → Dt) (a : Int) : (Nat → Nat → Dt) × Int := trF u v pa (cnt st u n + 1) st a
theorem tr_step {u v : Int} {n : Nat} {pa st : Nat → Nat → Dt} {a : Nat} (ha : a < n) (hs : (st a 0).n = u) (hv : v ≠ u) : tr u v n pa st (a : Int) = tr u v n pa (stS st a v) (pa a 0).n := by
  unfold tr
  rw [cnt_set hs hv ha]
  simp only [trF, Int.toNat_natCast]
  rw [if_pos ⟨by omega, hs⟩]
theorem tr_stop {u v : Int} {n : Nat} {pa st : Nat → Nat → Dt} {a : Int} (h : ¬ (0 ≤ a ∧ (st a.toNat 0).n = u)) : tr u v n pa st a = (st, a) := by
  unfold tr
  simp only [trF]
  rw [if_neg h]
def miI (l x : Int) : Int := bif decide (x < l) then x else l
/-- the least one of a circle, from its second on -/
def mnF (pa : Nat → Nat → Dt) (a : Int) : Nat → Int → Int → Option Int
  | 0, l, x => if x = a then some l else none
  | f + 1, l, x => if x = a then some l else if x < 0 then none else mnF pa a f (miI l x) (pa x.toNat 0).n
theorem mnF_mono {pa : Nat → Nat → Dt} {a : Int} : ∀ {f : Nat} {l x r : Int}, mnF pa a f l x = some r → mnF pa a (f + 1) l x = some r
  | 0, l, x, r, h => by
    simp only [mnF] at h ⊢
    split at h
    · rename_i e; rw [if_pos e]; exact h
    · cases h
  | f + 1, l, x, r, h => by
    rw [mnF] at h ⊢
    split at h
    · rename_i e; rw [if_pos e]; exact h
    · rename_i e
      rw [if_neg e]
      split at h
      · cases h
      · rename_i e2
        rw [if_neg e2]
        exact mnF_mono h
/-- the circle that a walk from i runs into, and what is known behind it -/
def ctS (n : Nat) (pa st : Nat → Nat → Dt) (i : Nat) : Option ((Nat → Nat → Dt) × (Nat → Nat → Dt)) :=
  match (if 0 ≤ (tr 0 1 n pa st i).2 ∧ ((tr 0 1 n pa st i).1 (tr 0 1 n pa st i).2.toNat 0).n = 1 then mnF pa (tr 0 1 n pa st i).2 n (tr 0 1 n pa st i).2 (pa (tr 0 1 n pa st i).2.toNat 0).n else some (-1)) with
  | none => none
  | some l => some (if 0 ≤ l then stS pa l.toNat (-1) else pa, (tr 1 2 n pa (tr 0 1 n pa st i).1 i).1)
def ctO (n : Nat) : Nat → Nat → (Nat → Nat → Dt) → (Nat → Nat → Dt) → Option ((Nat → Nat → Dt) × (Nat → Nat → Dt))
  | 0, _, pa, st => some (pa, st)
  | f + 1, i, pa, st => match ctS n pa st i with
    | none => none
    | some q => ctO n f (i + 1) q.1 q.2
/-- parents are places or none -/
def paB (n : Nat) (pa : Nat → Nat → Dt) : Bool := (List.range n).all fun k => decide (-1 ≤ (pa k 0).n) && decide ((pa k 0).n < (n : Int))
theorem paB_get {n : Nat} {pa : Nat → Nat → Dt} (h : paB n pa = true) {k : Nat} (hk : k < n) : -1 ≤ (pa k 0).n ∧ (pa k 0).n < (n : Int) := by
  have := List.all_eq_true.1 h k (List.mem_range.2 hk)
  simpa using this
theorem paB_set {n : Nat} {pa : Nat → Nat → Dt} (h : paB n pa = true) (a : Nat) : paB n (stS pa a (-1)) = true := by
  refine List.all_eq_true.2 fun k hk => ?_
  have := paB_get h (List.mem_range.1 hk)
  rw [stS_at]
  simp only [Bool.and_eq_true, decide_eq_true_eq]
  split <;> omega
end Go.Proofs.Ytfgniheefiefjaa

/- Circles of parents are cut. Plain laws; no condition. -/
namespace Go.Proofs.Ytfgniheefiefjaa
open Go.Evl Go.RowKit
def oi (a : Int) : Option Nat := if 0 ≤ a then some a.toNat else none
theorem oi_nat (k : Nat) : oi (k : Int) = some k := by unfold oi; rw [if_pos (by omega)]; rfl
theorem oi_neg {a : Int} (h : a < 0) : oi a = none := by unfold oi; rw [if_neg (by omega)]
theorem oi_some {a : Int} {k : Nat} (h : oi a = some k) : a = (k : Int) := by
  unfold oi at h
  split at h
  · have := Option.some.inj h; omega
  · cases h
def parO (pa : Nat → Nat → Dt) (k : Nat) : Option Nat := oi (pa k 0).n
theorem parO_lt {n : Nat} {pa : Nat → Nat → Dt} (hp : paB n pa = true) {k : Nat} (hk : k < n) {c : Nat} (h : parO pa k = some c) : c < n := by
  have := (paB_get hp hk).2
  have := oi_some h
  omega
def upI (pa : Nat → Nat → Dt) (t : Nat) (a : Int) : Option Nat := (oi a).bind (upO (parO pa) t)
theorem upI_succ (pa : Nat → Nat → Dt) (t k : Nat) : upI pa (t + 1) (k : Int) = upI pa t (pa k 0).n := by
  unfold upI
  rw [oi_nat]
  show upO (parO pa) (t + 1) k = _
  rw [upO_one]
  rfl
theorem upI_nat (pa : Nat → Nat → Dt) (t k : Nat) : upI pa t (k : Int) = upO (parO pa) t k := by
  unfold upI
  rw [oi_nat]
  rfl
/-- what a trail marks, and where it stops -/
structure Trail (n : Nat) (pa st st' : Nat → Nat → Dt) (u v a b : Int) (r : Nat) : Prop where
  on : ∀ t, t < r → ∃ k, k < n ∧ upI pa t a = some k ∧ (st k 0).n = u
  ne : ∀ t t', t < t' → t' < r → upI pa t a ≠ upI pa t' a
  hit : ∀ t k, t < r → upI pa t a = some k → (st' k 0).n = v
  off : ∀ k, (∀ t, t < r → upI pa t a ≠ some k) → (st' k 0).n = (st k 0).n
  stop : oi b = upI pa r a
  lt : b < (n : Int)
  no : ¬ (0 ≤ b ∧ (st' b.toNat 0).n = u)
theorem trail_ex {n : Nat} {pa : Nat → Nat → Dt} (hp : paB n pa = true) {u v : Int} (huv : v ≠ u) : ∀ (f : Nat) (st : Nat → Nat → Dt) (a : Int), a < (n : Int) → cnt st u n < f → ∃ r, Trail n pa st (trF u v pa f st a).1 u v a (trF u v pa f st a).2 r
  | 0, _, _, _, h => by omega
  | f + 1, st, a, ha, h => by
    by_cases hc : 0 ≤ a ∧ (st a.toNat 0).n = u
    · obtain ⟨h0, hs⟩ := hc
      obtain ⟨a, rfl⟩ : ∃ k : Nat, a = (k : Int) := ⟨a.toNat, by omega⟩
      rw [Int.toNat_natCast] at hs
      have ha' : a < n := by omega
      have e : trF u v pa (f + 1) st (a : Int) = trF u v pa f (stS st a v) (pa a 0).n := by
        simp only [trF, Int.toNat_natCast]
        rw [if_pos ⟨by omega, hs⟩]
      rw [e]
      have hcn := cnt_set (n := n) hs huv ha'
      obtain ⟨r, hr⟩ := trail_ex hp huv f (stS st a v) (pa a 0).n (paB_get hp ha').2 (by omega)
      have hu0 : upI pa 0 (a : Int) = some a := by rw [upI_nat]; rfl
      refine ⟨r + 1, fun t ht => ?_, fun t t' h1 h2 => ?_, fun t k ht hk => ?_, fun k hk => ?_, ?_, hr.lt, hr.no⟩
      · cases t with
        | zero => exact ⟨a, ha', hu0, hs⟩
        | succ t =>
          obtain ⟨k, k1, k2, k3⟩ := hr.on t (by omega)
          rw [stS_at] at k3
          split at k3
          · exact absurd k3 huv
          · exact ⟨k, k1, by rw [upI_succ]; exact k2, k3⟩
      · cases t' with
        | zero => omega
        | succ t' =>
          rw [upI_succ]
          cases t with
          | zero =>
            rw [hu0]
            intro z
            obtain ⟨k, k1, k2, k3⟩ := hr.on t' (by omega)
            rw [k2] at z
            obtain rfl := Option.some.inj z
            rw [stS_at, if_pos rfl] at k3
            exact huv k3
          | succ t =>
            rw [upI_succ]
            exact hr.ne t t' (by omega) (by omega)
      · cases t with
        | zero =>
          rw [hu0] at hk
          obtain rfl := Option.some.inj hk
          by_cases hx : ∃ t, t < r ∧ upI pa t (pa a 0).n = some a
          · obtain ⟨t, t1, t2⟩ := hx
            exact hr.hit t _ t1 t2
          · rw [hr.off a fun t t1 t2 => hx ⟨t, t1, t2⟩, stS_at, if_pos rfl]
        | succ t =>
          rw [upI_succ] at hk
          exact hr.hit t k (by omega) hk
      · rw [hr.off k fun t t1 t2 => hk (t + 1) (by omega) (by rw [upI_succ]; exact t2), stS_at]
        split
        · rename_i e2
          subst e2
          exact absurd hu0 (hk 0 (by omega))
        · rfl
      · rw [upI_succ]
        exact hr.stop
    · have e : trF u v pa (f + 1) st a = (st, a) := by
        simp only [trF]
        rw [if_neg hc]
      rw [e]
      refine ⟨0, fun t ht => by omega, fun t t' _ ht => by omega, fun t k ht => by omega, fun k _ => rfl, ?_, ha, hc⟩
      show oi a = (oi a).bind (upO (parO pa) 0)
      cases oi a <;> rfl
theorem tr_trail {n : Nat} {pa : Nat → Nat → Dt} (hp : paB n pa = true) {u v : Int} (huv : v ≠ u) (st : Nat → Nat → Dt) {a : Int} (ha : a < (n : Int)) : ∃ r, Trail n pa st (tr u v n pa st a).1 u v a (tr u v n pa st a).2 r :=
  trail_ex hp huv _ st a ha (by omega)
/-- a circle's least -/
theorem mnF_ok {pa : Nat → Nat → Dt} {b p : Nat} (hb : upO (parO pa) p b = some b) (hne : ∀ t, 0 < t → t < p → upO (parO pa) t b ≠ some b) : ∀ (f t : Nat) (l : Int), 0 < t → t ≤ p → p ≤ t + f → ∀ x : Int, oi x = upO (parO pa) t b → ∃ l', mnF pa (b : Int) f l x = some l' ∧ l' ≤ l ∧ (l' = l ∨ ∃ s, t ≤ s ∧ s < p ∧ oi l' = upO (parO pa) s b) ∧ ∀ s k, t ≤ s → s < p → upO (parO pa) s b = some k → l' ≤ (k : Int)
  | f, t, l, h0, h1, h2, x, hx => by
    by_cases ht : t = p
    · subst ht
      have := oi_some (hx.trans hb)
      refine ⟨l, ?_, Int.le_refl _, .inl rfl, fun s k h3 h4 => by omega⟩
      cases f <;> simp only [mnF] <;> rw [if_pos this]
    · obtain ⟨k, hk⟩ : ∃ k, upO (parO pa) t b = some k := by
        cases e : upO (parO pa) t b with
        | none => rw [upO_none e h1] at hb; cases hb
        | some k => exact ⟨k, rfl⟩
      rw [hk] at hx
      obtain rfl := oi_some hx
      have hkb : (k : Int) ≠ (b : Int) := fun z => hne t h0 (by omega) (by rw [hk]; congr 1; omega)
      cases f with
      | zero => omega
      | succ f =>
        simp only [mnF]
        rw [if_neg hkb, if_neg (by omega), Int.toNat_natCast]
        have hx' : oi (pa k 0).n = upO (parO pa) (t + 1) b := by
          show _ = (upO (parO pa) t b).bind (parO pa)
          rw [hk]; rfl
        obtain ⟨l', e1, e2, e3, e4⟩ := mnF_ok hb hne f (t + 1) (miI l k) (by omega) (by omega) (by omega) _ hx'
        have hmi : miI l k ≤ l ∧ miI l k ≤ (k : Int) ∧ (miI l k = l ∨ miI l k = (k : Int)) := by
          unfold miI
          by_cases h : (k : Int) < l
          · rw [decide_eq_true h]; exact ⟨by show (k : Int) ≤ l; omega, Int.le_refl _, .inr rfl⟩
          · rw [decide_eq_false h]; exact ⟨Int.le_refl _, by show l ≤ (k : Int); omega, .inl rfl⟩
        refine ⟨l', e1, by omega, ?_, fun s j h3 h4 h5 => ?_⟩
        · rcases e3 with e3 | ⟨s, s1, s2, s3⟩
          · rcases hmi.2.2 with h | h
            · exact .inl (e3.trans h)
            · exact .inr ⟨t, Nat.le_refl _, by omega, by rw [e3, h, hk, oi_nat]⟩
          · exact .inr ⟨s, by omega, s2, s3⟩
        · by_cases hs : s = t
          · subst hs
            rw [hk] at h5
            obtain rfl := Option.some.inj h5
            omega
          · exact e4 s j (by omega) h4 h5
end Go.Proofs.Ytfgniheefiefjaa

/- Circles of parents are cut: every walk ends then. Plain laws; no condition. -/
namespace Go.Proofs.Ytfgniheefiefjaa
open Go.Evl Go.RowKit
theorem per_mul {q : Nat → Option Nat} {k p : Nat} (h : upO q p k = some k) : ∀ m, upO q (m * p) k = some k
  | 0 => by rw [Nat.zero_mul]; rfl
  | m + 1 => by
    rw [Nat.add_mul, Nat.one_mul, upO_add, per_mul h m]
    exact h
theorem per_some {q : Nat → Option Nat} {k p : Nat} (h : upO q p k = some k) (hp : 0 < p) (t : Nat) : ∃ c, upO q t k = some c := by
  cases e : upO q t k with
  | some c => exact ⟨c, rfl⟩
  | none =>
    have : t * 1 ≤ t * p := Nat.mul_le_mul_left _ hp
    have := upO_none e (t := t * p) (by omega)
    rw [per_mul h] at this
    cases this
theorem per_mod {q : Nat → Option Nat} {k p : Nat} (h : upO q p k = some k) (t : Nat) : upO q t k = upO q (t % p) k := by
  conv => lhs; rw [← Nat.div_add_mod t p, Nat.mul_comm, upO_add, per_mul h]
  rfl
theorem parO_set (pa : Nat → Nat → Dt) (l k : Nat) : parO (stS pa l (-1)) k = if k = l then none else parO pa k := by
  unfold parO
  rw [stS_at]
  split
  · rfl
  · rfl
theorem up_cut {pa : Nat → Nat → Dt} {l : Nat} : ∀ m k, upO (parO pa) m k = some l → ∃ t, upO (parO (stS pa l (-1))) t k = none
  | 0, k, h => by
    cases h
    exact ⟨1, by show parO _ _ = none; rw [parO_set, if_pos rfl]⟩
  | m + 1, k, h => by
    by_cases hk : k = l
    · subst hk
      exact ⟨1, by show parO _ _ = none; rw [parO_set, if_pos rfl]⟩
    · rw [upO_one] at h
      obtain ⟨c, h1, h2⟩ := Option.bind_eq_some_iff.1 h
      obtain ⟨t, ht⟩ := up_cut m c h2
      refine ⟨t + 1, ?_⟩
      rw [upO_one, parO_set, if_neg hk, h1]
      exact ht
theorem up_same {pa : Nat → Nat → Dt} {l k : Nat} (h : ∀ t, upO (parO pa) t k ≠ some l) : ∀ t, upO (parO (stS pa l (-1))) t k = upO (parO pa) t k
  | 0 => rfl
  | t + 1 => by
    show (upO (parO (stS pa l (-1))) t k).bind _ = (upO (parO pa) t k).bind _
    rw [up_same h t]
    cases e : upO (parO pa) t k with
    | none => rfl
    | some c =>
      show parO _ c = parO _ c
      rw [parO_set, if_neg fun z => h t (by rw [e, z])]
/-- what is known between rounds -/
structure CInv (n : Nat) (q0 : Nat → Option Nat) (pa st : Nat → Nat → Dt) : Prop where
  hpa : paB n pa = true
  hst : ∀ k, k < n → (st k 0).n = 0 ∨ (st k 0).n = 2
  hcl : ∀ k, k < n → (st k 0).n = 2 → ∀ c, parO pa k = some c → (st c 0).n = 2
  hen : ∀ k, k < n → (st k 0).n = 2 → ∃ t, upO (parO pa) t k = none
  hcut : ∀ k, k < n → parO pa k = q0 k ∨ (parO pa k = none ∧ (∃ t, upO q0 (t + 1) k = some k) ∧ ∀ s j, upO q0 s k = some j → k ≤ j)
theorem up_lt {n : Nat} {pa : Nat → Nat → Dt} (hp : paB n pa = true) {k : Nat} (hk : k < n) : ∀ t c, upO (parO pa) t k = some c → c < n
  | 0, c, h => by cases h; exact hk
  | t + 1, c, h => by
    obtain ⟨b, h1, h2⟩ := Option.bind_eq_some_iff.1 h
    exact parO_lt hp (up_lt hp hk t b h1) h2
theorem known_up {n : Nat} {q0 : Nat → Option Nat} {pa st : Nat → Nat → Dt} (h : CInv n q0 pa st) {k : Nat} (hk : k < n) (hs : (st k 0).n = 2) : ∀ t c, upO (parO pa) t k = some c → (st c 0).n = 2
  | 0, c, e => by cases e; exact hs
  | t + 1, c, e => by
    obtain ⟨b, h1, h2⟩ := Option.bind_eq_some_iff.1 e
    exact h.hcl b (up_lt h.hpa hk t b h1) (known_up h hk hs t b h1) c h2
theorem ctS_ok {n : Nat} {q0 : Nat → Option Nat} {pa st : Nat → Nat → Dt} (h : CInv n q0 pa st) {i : Nat} (hi : i < n) : ∃ pa' st', ctS n pa st i = some (pa', st') ∧ CInv n q0 pa' st' ∧ (st' i 0).n = 2 ∧ ∀ k, k < n → (st k 0).n = 2 → (st' k 0).n = 2 := by
  obtain ⟨r, h1⟩ := tr_trail h.hpa (u := 0) (v := 1) (by decide) st (a := (i : Int)) (by omega)
  obtain ⟨r2, h2⟩ := tr_trail h.hpa (u := 1) (v := 2) (by decide) (tr 0 1 n pa st i).1 (a := (i : Int)) (by omega)
  unfold ctS
  generalize (tr 0 1 n pa st i).1 = st1 at *
  generalize (tr 0 1 n pa st i).2 = b at *
  generalize (tr 1 2 n pa st1 i).1 = st2 at *
  generalize (tr 1 2 n pa st1 i).2 = b2 at *
  have hT : ∀ k, k < n → (st1 k 0).n = 1 → ∃ t, t < r ∧ upI pa t i = some k := by
    intro k hk e
    by_cases hx : ∃ t, t < r ∧ upI pa t i = some k
    · exact hx
    · have := h1.off k fun t t1 t2 => hx ⟨t, t1, t2⟩
      have := h.hst k hk
      omega
  have hr : r ≤ r2 := by
    by_cases hx : r ≤ r2
    · exact hx
    · exfalso
      obtain ⟨k, k1, k2, k3⟩ := h1.on r2 (by omega)
      have hb2 := oi_some (h2.stop.trans k2)
      refine h2.no ⟨by omega, ?_⟩
      rw [hb2, Int.toNat_natCast, h2.off k fun t t1 t2 => h1.ne t r2 t1 (by omega) (t2.trans k2.symm)]
      exact h1.hit r2 k (by omega) k2
  have hon : ∀ k t, t < r → upI pa t i = some k → (st2 k 0).n = 2 := fun k t ht hk => h2.hit t k (by omega) hk
  have hoff : ∀ k, k < n → (∀ t, t < r → upI pa t i ≠ some k) → (st2 k 0).n = (st k 0).n := by
    intro k hk hx
    rw [h2.off k fun t t1 t2 => ?_, h1.off k hx]
    obtain ⟨k', k1, k2, k3⟩ := h2.on t t1
    rw [t2] at k2
    obtain rfl := Option.some.inj k2
    obtain ⟨t', t1', t2'⟩ := hT k hk k3
    exact hx t' t1' t2'
  have hst2 : ∀ k, k < n → (st2 k 0).n = 2 ∨ ((st2 k 0).n = (st k 0).n ∧ ∀ t, t < r → upI pa t i ≠ some k) := by
    intro k hk
    by_cases hx : ∃ t, t < r ∧ upI pa t i = some k
    · obtain ⟨t, t1, t2⟩ := hx
      exact .inl (hon k t t1 t2)
    · exact .inr ⟨hoff k hk fun t t1 t2 => hx ⟨t, t1, t2⟩, fun t t1 t2 => hx ⟨t, t1, t2⟩⟩
  have hkeep : ∀ k, k < n → (st k 0).n = 2 → (st2 k 0).n = 2 := by
    intro k hk e
    rcases hst2 k hk with h3 | ⟨h3, _⟩ <;> omega
  have hgood : ∀ k, k < n → (st2 k 0).n = 0 ∨ (st2 k 0).n = 2 := by
    intro k hk
    have := h.hst k hk
    rcases hst2 k hk with h3 | ⟨h3, _⟩ <;> omega
  have hi2 : (st2 i 0).n = 2 := by
    have hu0 : upI pa 0 (i : Int) = some i := by rw [upI_nat]; rfl
    cases r with
    | succ r => exact hon i 0 (by omega) hu0
    | zero =>
      have hb : b = (i : Int) := oi_some (h1.stop.trans hu0)
      have h3 := h1.no
      rw [hb, Int.toNat_natCast, h1.off i fun t ht => by omega] at h3
      have := h.hst i hi
      exact hkeep i hi (by
        rcases this with h4 | h4
        · exact absurd ⟨by omega, h4⟩ h3
        · exact h4)
  have hnext : ∀ t k, upI pa t (i : Int) = some k → ∀ c, parO pa k = some c → upI pa (t + 1) (i : Int) = some c := by
    intro t k hk c hc
    rw [upI_nat] at hk ⊢
    show (upO (parO pa) t i).bind (parO pa) = _
    rw [hk]; exact hc
  have hup : ∀ t k, t ≤ r → upI pa t (i : Int) = some k → upO (parO pa) (r - t) k = oi b := by
    intro t k ht hk
    rw [upI_nat] at hk
    rw [h1.stop, upI_nat]
    have := upO_add (parO pa) t (r - t) i
    rw [hk, show t + (r - t) = r by omega] at this
    exact this.symm
  by_cases hb : 0 ≤ b ∧ (st1 b.toNat 0).n = 1
  · rw [if_pos hb]
    obtain ⟨hb0, hb1⟩ := hb
    have hblt := h1.lt
    have hbs := h1.stop
    obtain ⟨b, rfl⟩ : ∃ k : Nat, b = (k : Int) := ⟨b.toNat, by omega⟩
    rw [Int.toNat_natCast] at hb1
    rw [oi_nat] at hbs
    obtain ⟨s, hs1, hs2⟩ := hT b (by omega) hb1
    have hbi : ∀ t, upI pa (s + t) i = upO (parO pa) t b := by
      intro t
      rw [upI_nat, upO_add, ← upI_nat, hs2]
      rfl
    have hper : upO (parO pa) (r - s) b = some b := by
      rw [← hbi, show s + (r - s) = r by omega, ← hbs]
    have hne : ∀ t, 0 < t → t < r - s → upO (parO pa) t b ≠ some b := by
      intro t t0 t1 e
      rw [← hbi] at e
      exact h1.ne s (s + t) (by omega) (by omega) (hs2.trans e.symm)
    have hrn : r ≤ n := by
      have hl : ((List.range r).map fun t => (upI pa t (i : Int)).getD 0).Nodup := by
        rw [List.nodup_iff_pairwise_ne, List.pairwise_map]
        refine List.Pairwise.imp_of_mem ?_ (List.pairwise_lt_range (n := r))
        intro x y hx hy hxy e
        rw [List.mem_range] at hx hy
        obtain ⟨u, _, hu, _⟩ := h1.on x hx
        obtain ⟨v, _, hv, _⟩ := h1.on y hy
        rw [hu, hv] at e
        simp only [Option.getD_some] at e
        exact h1.ne x y hxy hy (by rw [hu, hv, e])
      have := nodup_le n _ hl (by
        intro j hj
        rw [List.mem_map] at hj
        obtain ⟨t, ht, rfl⟩ := hj
        rw [List.mem_range] at ht
        obtain ⟨u, hu1, hu2, _⟩ := h1.on t ht
        rw [hu2]
        exact hu1)
      rw [List.length_map, List.length_range] at this
      exact this
    obtain ⟨l', l1, l2, l3, l4⟩ := mnF_ok hper hne n 1 (b : Int) (by omega) (by omega) (by omega) (pa b 0).n (by rw [upO_one]; show parO pa b = (parO pa b).bind (upO (parO pa) 0); cases parO pa b <;> rfl)
    have hlk : ∃ lk s', s' < r - s ∧ upO (parO pa) s' b = some lk ∧ l' = (lk : Int) := by
      rcases l3 with l3 | ⟨s', s1, s2, s3⟩
      · exact ⟨b, 0, by omega, rfl, l3⟩
      · obtain ⟨c, hc⟩ := per_some hper (by omega) s'
        exact ⟨c, s', s2, hc, oi_some (s3.trans hc)⟩
    obtain ⟨lk, s', s1, s2, rfl⟩ := hlk
    rw [Int.toNat_natCast, l1]
    simp only
    rw [if_pos (by omega), Int.toNat_natCast]
    have hlt : lk < n := up_lt h.hpa (by omega) s' lk s2
    have hlT : upI pa (s + s') i = some lk := by rw [hbi]; exact s2
    have hl0 : (st lk 0).n = 0 := by
      obtain ⟨k, k1, k2, k3⟩ := h1.on (s + s') (by omega)
      rw [hlT] at k2
      obtain rfl := Option.some.inj k2
      exact k3
    refine ⟨_, _, rfl, ⟨paB_set h.hpa lk, hgood, fun k hk e c hc => ?_, fun k hk e => ?_, fun k hk => ?_⟩, hi2, hkeep⟩
    · rw [parO_set] at hc
      split at hc
      · cases hc
      have hcn := parO_lt h.hpa hk hc
      by_cases hx : ∃ t, t < r ∧ upI pa t i = some k
      · obtain ⟨t, t1, t2⟩ := hx
        have h3 := hnext t k t2 c hc
        by_cases ht : t + 1 < r
        · exact hon c (t + 1) ht h3
        · rw [show t + 1 = r by omega, ← hbs] at h3
          obtain rfl := Option.some.inj h3
          exact hon b s hs1 hs2
      · have h3 := hoff k hk fun t t1 t2 => hx ⟨t, t1, t2⟩
        exact hkeep c hcn (h.hcl k hk (by omega) c hc)
    · by_cases hx : ∃ t, t < r ∧ upI pa t i = some k
      · obtain ⟨t, t1, t2⟩ := hx
        refine up_cut (r - t + s') k ?_
        rw [upO_add, hup t k (by omega) t2, oi_nat]
        exact s2
      · have h3 := hoff k hk fun t t1 t2 => hx ⟨t, t1, t2⟩
        obtain ⟨t, ht⟩ := h.hen k hk (by omega)
        refine ⟨t, ?_⟩
        rw [up_same fun t' e' => ?_]
        · exact ht
        · have := known_up h hk (by omega) t' lk e'
          omega
    · rw [parO_set]
      by_cases e : k = lk
      · subst e
        rw [if_pos rfl]
        have hpos : 0 < r - s := Nat.sub_pos_of_lt hs1
        have hp2 : ∀ t, upO (parO pa) t k = upO (parO pa) ((s' + t) % (r - s)) b := by
          intro t
          rw [← per_mod hper, upO_add, s2]
          rfl
        have hpk : upO (parO pa) (r - s) k = some k := by
          rw [hp2, Nat.add_mod_right, Nat.mod_eq_of_lt s1, s2]
        have hq : ∀ t, upO q0 t k = upO (parO pa) t k := by
          intro t
          induction t with
          | zero => rfl
          | succ t ih =>
            show (upO q0 t k).bind q0 = (upO (parO pa) t k).bind (parO pa)
            rw [ih]
            obtain ⟨c, hc⟩ := per_some hpk (by omega) t
            obtain ⟨d, hd⟩ := per_some hpk (by omega) (t + 1)
            rw [hc]
            have hd : parO pa c = some d := by
              have : upO (parO pa) (t + 1) k = (upO (parO pa) t k).bind (parO pa) := rfl
              rw [hd, hc] at this
              exact this.symm
            show q0 c = parO pa c
            rcases h.hcut c (up_lt h.hpa hk t c hc) with h3 | ⟨h3, _⟩
            · exact h3.symm
            · rw [hd] at h3; cases h3
        refine .inr ⟨rfl, ⟨r - s - 1, by rw [hq, Nat.sub_add_cancel hpos]; exact hpk⟩, fun t j hj => ?_⟩
        rw [hq, hp2] at hj
        have hm : (s' + t) % (r - s) < r - s := Nat.mod_lt _ (by omega)
        by_cases h0 : (s' + t) % (r - s) = 0
        · rw [h0] at hj
          cases hj
          omega
        · have := l4 _ j (by omega) hm hj
          omega
      · rw [if_neg e]
        exact h.hcut k hk
  · rw [if_neg hb]
    have hT2 : ∀ c, c < n → oi b = some c → (st c 0).n = 2 := by
      intro c hc e
      have e2 := oi_some e
      subst e2
      have h3 := h1.no
      rw [Int.toNat_natCast] at h3 hb
      have h4 := h1.off c fun t t1 t2 => hb ⟨by omega, h1.hit t c t1 t2⟩
      have := h.hst c hc
      rcases this with h5 | h5
      · exact absurd ⟨by omega, by omega⟩ h3
      · exact h5
    refine ⟨pa, st2, by simp, ⟨h.hpa, hgood, fun k hk e c hc => ?_, fun k hk e => ?_, h.hcut⟩, hi2, hkeep⟩
    · have hcn := parO_lt h.hpa hk hc
      by_cases hx : ∃ t, t < r ∧ upI pa t i = some k
      · obtain ⟨t, t1, t2⟩ := hx
        have h3 := hnext t k t2 c hc
        by_cases ht : t + 1 < r
        · exact hon c (t + 1) ht h3
        · rw [show t + 1 = r by omega, ← h1.stop] at h3
          exact hkeep c hcn (hT2 c hcn h3)
      · have h3 := hoff k hk fun t t1 t2 => hx ⟨t, t1, t2⟩
        exact hkeep c hcn (h.hcl k hk (by omega) c hc)
    · by_cases hx : ∃ t, t < r ∧ upI pa t i = some k
      · obtain ⟨t, t1, t2⟩ := hx
        have h3 := hup t k (by omega) t2
        cases e2 : oi b with
        | none => exact ⟨r - t, by rw [h3, e2]⟩
        | some c =>
          rw [e2] at h3
          have hcn := up_lt h.hpa hk _ _ h3
          obtain ⟨t', ht'⟩ := h.hen c hcn (hT2 c hcn e2)
          refine ⟨r - t + t', ?_⟩
          rw [upO_add, h3]
          exact ht'
      · have h3 := hoff k hk fun t t1 t2 => hx ⟨t, t1, t2⟩
        exact h.hen k hk (by omega)
end Go.Proofs.Ytfgniheefiefjaa

/- Circles of parents are cut: all rounds. Plain laws; no condition. -/
namespace Go.Proofs.Ytfgniheefiefjaa
open Go.Evl Go.RowKit
theorem ctO_ok {n : Nat} {q0 : Nat → Option Nat} : ∀ (f i : Nat) (pa st : Nat → Nat → Dt), i + f = n → CInv n q0 pa st → (∀ k, k < i → (st k 0).n = 2) → ∃ pa' st', ctO n f i pa st = some (pa', st') ∧ CInv n q0 pa' st' ∧ ∀ k, k < n → (st' k 0).n = 2
  | 0, i, pa, st, hi, h, hs => ⟨pa, st, rfl, h, fun k hk => hs k (by omega)⟩
  | f + 1, i, pa, st, hi, h, hs => by
    obtain ⟨pa1, st1, e1, h1, h2, h3⟩ := ctS_ok h (show i < n by omega)
    obtain ⟨pa2, st2, e2, h4, h5⟩ := ctO_ok f (i + 1) pa1 st1 (by omega) h1 fun k hk => by
      by_cases e : k = i
      · subst e; exact h2
      · exact h3 k (by omega) (hs k (by omega))
    refine ⟨pa2, st2, ?_, h4, h5⟩
    simp only [ctO, e1]
    exact e2
/-- the parents' places with circles cut -/
theorem cut_all {n : Nat} {pa : Nat → Nat → Dt} (hp : paB n pa = true) : ∃ pc st, ctO n n 0 pa zeroEl = some (pc, st) ∧ paB n pc = true ∧ (∀ k, k < n → ∃ t, upO (parO pc) t k = none) ∧ ∀ k, k < n → parO pc k = parO pa k ∨ (parO pc k = none ∧ (∃ t, upO (parO pa) (t + 1) k = some k) ∧ ∀ s j, upO (parO pa) s k = some j → k ≤ j) := by
  obtain ⟨pc, st, e, h, h2⟩ := ctO_ok (q0 := parO pa) n 0 pa zeroEl (by omega) ⟨hp, fun k _ => .inl rfl, fun k _ e => absurd (show (0 : Int) = 2 from e) (by decide), fun k _ e => absurd (show (0 : Int) = 2 from e) (by decide), fun k _ => .inl rfl⟩ fun k hk => by omega
  exact ⟨pc, st, e, h.hpa, fun k hk => h.hen k hk (h2 k hk), h.hcut⟩
end Go.Proofs.Ytfgniheefiefjaa

/- Numbers put in order by keys: insertion sort leaves a permutation in order. Plain laws; no condition. -/
namespace Go.Proofs.Ytfgniheefiefjaa
open Go.Evl Go.RowKit

/-- a before b, by a start and an identity -/
def bfL (ks ki : Int → Int) (a b : Int) : Prop := ks a < ks b ∨ (ks a = ks b ∧ ki a < ki b)
def sinkG (lt : Int → Int → Bool) : Nat → (Nat → Int) → (Nat → Int)
  | 0, v => v
  | j + 1, v => if lt (v (j + 1)) (v j) then sinkG lt j (fun i => if i = j then v (j + 1) else if i = j + 1 then v j else v i) else v
def isG (lt : Int → Int → Bool) : Nat → Nat → (Nat → Int) → (Nat → Int)
  | 0, _, v => v
  | k + 1, i, v => isG lt k (i + 1) (sinkG lt i v)
def liG (n : Nat) (v : Nat → Int) : List Int := (List.range n).map v
theorem liG_succ (n : Nat) (v : Nat → Int) : liG (n + 1) v = liG n v ++ [v n] := by simp [liG, List.range_succ]
theorem liG_congr {n : Nat} {x y : Nat → Int} (h : ∀ i, i < n → x i = y i) : liG n x = liG n y := List.map_congr_left fun i hi => h i (List.mem_range.1 hi)
theorem liG_swap (v : Nat → Int) {j n : Nat} (h : j + 1 < n) : (liG n (fun i => if i = j then v (j + 1) else if i = j + 1 then v j else v i)).Perm (liG n v) := by
  obtain ⟨d, rfl⟩ : ∃ d, n = j + 2 + d := ⟨n - j - 2, by omega⟩
  induction d with
  | zero =>
    show (liG (j + 1 + 1) _).Perm (liG (j + 1 + 1) _)
    rw [liG_succ, liG_succ, liG_succ, liG_succ]
    rw [liG_congr (x := fun i => if i = j then v (j + 1) else if i = j + 1 then v j else v i) (y := v) fun i hi => by rw [if_neg (by omega), if_neg (by omega)]]
    simp only [if_true, Nat.succ_ne_self, if_false, List.append_assoc]
    exact (List.Perm.swap _ _ _).append_left _
  | succ d ih =>
    rw [show j + 2 + (d + 1) = j + 2 + d + 1 by omega, liG_succ, liG_succ]
    rw [show (if j + 2 + d = j then v (j + 1) else if j + 2 + d = j + 1 then v j else v (j + 2 + d)) = v (j + 2 + d) by rw [if_neg (by omega), if_neg (by omega)]]
    exact (ih (by omega)).append_right _
theorem sinkG_ok {ks ki : Int → Int} {lt : Int → Int → Bool} (hlt : ∀ a b, lt a b = true ↔ bfL ks ki a b) {m : Nat} : ∀ (j : Nat) (v : Nat → Int), j < m → (∀ a b, a < b → b < m → a ≠ j → b ≠ j → ¬ bfL ks ki (v b) (v a)) → (∀ b, j < b → b < m → ¬ bfL ks ki (v b) (v j)) →
    (∀ a b, a < b → b < m → ¬ bfL ks ki (sinkG lt j v b) (sinkG lt j v a)) ∧ (∀ n, m ≤ n → (liG n (sinkG lt j v)).Perm (liG n v)) ∧ ∀ i, m ≤ i → sinkG lt j v i = v i
  | 0, v, hj, h1, h2 => by
    refine ⟨fun a b hab hb => ?_, fun n _ => List.Perm.refl _, fun i _ => rfl⟩
    simp only [sinkG]
    by_cases e : a = 0
    · subst e; exact h2 b hab hb
    · exact h1 a b hab hb e (by omega)
  | j + 1, v, hj, h1, h2 => by
    simp only [sinkG]
    by_cases hl : lt (v (j + 1)) (v j) = true
    · rw [if_pos hl]
      have hlx := (hlt _ _).1 hl
      obtain ⟨g1, g2, g3⟩ := sinkG_ok hlt (m := m) j (fun i => if i = j then v (j + 1) else if i = j + 1 then v j else v i) (by omega) (fun a b hab hb na nb => by
        rw [if_neg nb, if_neg na]
        by_cases e1 : b = j + 1
        · rw [if_pos e1, if_neg (by omega)]
          exact h1 a j (by omega) (by omega) (by omega) (by omega)
        · rw [if_neg e1]
          by_cases e2 : a = j + 1
          · rw [if_pos e2]
            exact h1 j b (by omega) hb (by omega) (by omega)
          · rw [if_neg e2]
            exact h1 a b hab hb e2 e1) (fun b hjb hb => by
        rw [if_neg (by omega), if_pos rfl]
        by_cases e1 : b = j + 1
        · rw [if_pos e1]
          unfold bfL at hlx ⊢
          omega
        · rw [if_neg e1]
          exact h2 b (by omega) hb)
      refine ⟨g1, fun n hn => (g2 n hn).trans (liG_swap v (by omega)), fun i hi => ?_⟩
      rw [g3 i hi, if_neg (by omega), if_neg (by omega)]
    · rw [if_neg hl]
      have hlx : ¬ bfL ks ki (v (j + 1)) (v j) := fun h => hl ((hlt _ _).2 h)
      refine ⟨fun a b hab hb => ?_, fun n _ => List.Perm.refl _, fun i _ => rfl⟩
      by_cases e1 : a = j + 1
      · subst e1; exact h2 b hab hb
      · by_cases e2 : b = j + 1
        · subst e2
          by_cases e3 : a = j
          · subst e3; exact hlx
          · have := h1 a j (by omega) (by omega) (by omega) (by omega)
            unfold bfL at hlx this ⊢
            omega
        · exact h1 a b hab hb e1 e2
theorem isG_ok {ks ki : Int → Int} {lt : Int → Int → Bool} (hlt : ∀ a b, lt a b = true ↔ bfL ks ki a b) {n : Nat} : ∀ (k i : Nat) (v : Nat → Int), 0 < i → i + k = n → (∀ a b, a < b → b < i → ¬ bfL ks ki (v b) (v a)) →
    (∀ a b, a < b → b < n → ¬ bfL ks ki (isG lt k i v b) (isG lt k i v a)) ∧ (liG n (isG lt k i v)).Perm (liG n v)
  | 0, i, v, _, hn, h => by
    obtain rfl : i = n := by omega
    exact ⟨h, List.Perm.refl _⟩
  | k + 1, i, v, hi, hn, h => by
    obtain ⟨g1, g2, _⟩ := sinkG_ok hlt (m := i + 1) i v (Nat.lt_succ_self i) (fun a b hab hb _ nb => h a b hab (by omega)) (fun b h1 h2 => by omega)
    obtain ⟨f1, f2⟩ := isG_ok hlt (n := n) k (i + 1) (sinkG lt i v) (Nat.succ_pos i) (by omega) g1
    exact ⟨f1, f2.trans (g2 n (by omega))⟩
/-- two numbers exchanged -/
def swI (o : Nat → Nat → Dt) (a b : Nat) : Nat → Nat → Dt := setEl (setEl o a 0 [.int (o b 0).n]) b 0 [.int (o a 0).n]
theorem swI_at (o : Nat → Nat → Dt) (a b k : Nat) : (swI o a b k 0).n = if k = b then (o a 0).n else if k = a then (o b 0).n else (o k 0).n := by
  show (stS (stS o a (o b 0).n) b (o a 0).n k 0).n = _
  rw [stS_at, stS_at]
def sinkI (lt : Int → Int → Bool) : Nat → (Nat → Nat → Dt) → (Nat → Nat → Dt) × Nat
  | 0, o => (o, 0)
  | j + 1, o => if lt (o (j + 1) 0).n (o j 0).n then sinkI lt j (swI o (j + 1) j) else (o, j + 1)
def isI (lt : Int → Int → Bool) : Nat → Nat → (Nat → Nat → Dt) → (Nat → Nat → Dt)
  | 0, _, o => o
  | k + 1, i, o => isI lt k (i + 1) (sinkI lt i o).1
theorem sinkI_G (lt : Int → Int → Bool) : ∀ (j : Nat) (o : Nat → Nat → Dt), (fun k => ((sinkI lt j o).1 k 0).n) = sinkG lt j fun k => (o k 0).n
  | 0, o => rfl
  | j + 1, o => by
    simp only [sinkI, sinkG]
    by_cases h : lt (o (j + 1) 0).n (o j 0).n = true
    · rw [if_pos h, if_pos h, sinkI_G lt j]
      congr 1
      funext k
      exact swI_at o (j + 1) j k
    · rw [if_neg h, if_neg h]
theorem isI_G (lt : Int → Int → Bool) : ∀ (k i : Nat) (o : Nat → Nat → Dt), (fun q => (isI lt k i o q 0).n) = isG lt k i fun q => (o q 0).n
  | 0, _, _ => rfl
  | k + 1, i, o => by
    simp only [isI, isG]
    rw [isI_G lt k, sinkI_G]
end Go.Proofs.Ytfgniheefiefjaa

/- Circles of parents cut: the loops' states. No condition. -/
namespace Go.Proofs.Ytfgniheefiefjaa
open Go.Evl Go.RowKit
noncomputable abbrev cP0 {β : Type} : CallK β := callK Try.prog (spOf []) (inlOf [78]) extD attD uD 20
structure S78a where
  c : Nat
  mf : Ky → Option Dt
  n : Nat
  pa : Nat → Nat → Dt
  m : Nat
  st : Nat → Nat → Dt
  v : Nat
  u : Nat
  i : Int
  a : Int
  l : Int
  x : Int
abbrev keep78a : List Nat := [0, 2, 3, 4, 11, 12]
abbrev vs78a (s : S78a) : List AV := [.own 1 k0 s.v, .own 2 k0 s.u, .int .i64 s.i, .int .i64 s.a, .int .i64 s.l, .int .i64 s.x]
abbrev hp78a (s : S78a) : List Ob := [.mapF (.int .i64) s.c (.dat (.int .i64) s.mf), .own 3 [.int .i64] s.n s.pa, .own 3 [.int .i64] s.m s.st]
def dec78a : List AV → List Ob → Option S78a
  | [.own 1 (.int 0) v, .own 2 (.int 0) u, .int .i64 i, .int .i64 a, .int .i64 l, .int .i64 x], [.mapF (.int .i64) c (.dat (.int .i64) mf), .own 3 [.int .i64] n pa, .own 3 [.int .i64] m st] => some ⟨c, mf, n, pa, m, st, v, u, i, a, l, x⟩
  | _, _ => none
def dom78a (s : S78a) : Bool := Nat.beq s.m s.n && (Nat.beq s.v s.n && (Nat.beq s.u s.n && (Nat.ble s.n 1000 && (decide (s.a < (s.n : Int)) && paB s.n s.pa))))
def fin78a (s : S78a) : Tr (Ex × List AV × List Ob) := .leaf (.exit 2, [.own 1 k0 s.v, .own 2 k0 s.u, .int .i64 s.i, .int .i64 (tr 0 1 s.n s.pa s.st s.a).2, .int .i64 s.l, .int .i64 s.x], [.mapF (.int .i64) s.c (.dat (.int .i64) s.mf), .own 3 [.int .i64] s.n (s.pa), .own 3 [.int .i64] s.m (tr 0 1 s.n s.pa s.st s.a |>.1)])
structure S78b where
  c : Nat
  mf : Ky → Option Dt
  n : Nat
  pa : Nat → Nat → Dt
  m : Nat
  st : Nat → Nat → Dt
  v : Nat
  u : Nat
  i : Int
  a : Int
  e : Int
  y : Int
  l : Int
  x : Int
abbrev keep78b : List Nat := [0, 2, 3, 4, 5, 6, 11, 12]
abbrev vs78b (s : S78b) : List AV := [.own 1 k0 s.v, .own 2 k0 s.u, .int .i64 s.i, .int .i64 s.a, .int .i64 s.e, .int .i64 s.y, .int .i64 s.l, .int .i64 s.x]
abbrev hp78b (s : S78b) : List Ob := [.mapF (.int .i64) s.c (.dat (.int .i64) s.mf), .own 3 [.int .i64] s.n s.pa, .own 3 [.int .i64] s.m s.st]
def dec78b : List AV → List Ob → Option S78b
  | [.own 1 (.int 0) v, .own 2 (.int 0) u, .int .i64 i, .int .i64 a, .int .i64 e, .int .i64 y, .int .i64 l, .int .i64 x], [.mapF (.int .i64) c (.dat (.int .i64) mf), .own 3 [.int .i64] n pa, .own 3 [.int .i64] m st] => some ⟨c, mf, n, pa, m, st, v, u, i, a, e, y, l, x⟩
  | _, _ => none
def dom78b (s : S78b) : Bool := Nat.beq s.m s.n && (Nat.beq s.v s.n && (Nat.beq s.u s.n && (Nat.ble s.n 1000 && (decide (s.y < (s.n : Int)) && (paB s.n s.pa && (mnF s.pa s.a s.n s.e s.y).isSome)))))
def fin78b (s : S78b) : Tr (Ex × List AV × List Ob) := .leaf (.exit 4, [.own 1 k0 s.v, .own 2 k0 s.u, .int .i64 s.i, .int .i64 s.a, .int .i64 ((mnF s.pa s.a s.n s.e s.y).getD 0), .int .i64 s.a, .int .i64 s.l, .int .i64 s.x], [.mapF (.int .i64) s.c (.dat (.int .i64) s.mf), .own 3 [.int .i64] s.n (s.pa), .own 3 [.int .i64] s.m (s.st)])
structure S78c where
  c : Nat
  mf : Ky → Option Dt
  n : Nat
  pa : Nat → Nat → Dt
  m : Nat
  st : Nat → Nat → Dt
  v : Nat
  u : Nat
  i : Int
  a : Int
  e : Int
  l : Int
  x : Int
abbrev keep78c : List Nat := [0, 2, 3, 4, 5, 11, 12]
abbrev vs78c (s : S78c) : List AV := [.own 1 k0 s.v, .own 2 k0 s.u, .int .i64 s.i, .int .i64 s.a, .int .i64 s.e, .int .i64 s.l, .int .i64 s.x]
abbrev hp78c (s : S78c) : List Ob := [.mapF (.int .i64) s.c (.dat (.int .i64) s.mf), .own 3 [.int .i64] s.n s.pa, .own 3 [.int .i64] s.m s.st]
def dec78c : List AV → List Ob → Option S78c
  | [.own 1 (.int 0) v, .own 2 (.int 0) u, .int .i64 i, .int .i64 a, .int .i64 e, .int .i64 l, .int .i64 x], [.mapF (.int .i64) c (.dat (.int .i64) mf), .own 3 [.int .i64] n pa, .own 3 [.int .i64] m st] => some ⟨c, mf, n, pa, m, st, v, u, i, a, e, l, x⟩
  | _, _ => none
def dom78c (s : S78c) : Bool := Nat.beq s.m s.n && (Nat.beq s.v s.n && (Nat.beq s.u s.n && (Nat.ble s.n 1000 && (decide (s.a < (s.n : Int)) && paB s.n s.pa))))
def fin78c (s : S78c) : Tr (Ex × List AV × List Ob) := .leaf (.exit 6, [.own 1 k0 s.v, .own 2 k0 s.u, .int .i64 s.i, .int .i64 (tr 1 2 s.n s.pa s.st s.a).2, .int .i64 s.e, .int .i64 s.l, .int .i64 s.x], [.mapF (.int .i64) s.c (.dat (.int .i64) s.mf), .own 3 [.int .i64] s.n (s.pa), .own 3 [.int .i64] s.m (tr 1 2 s.n s.pa s.st s.a |>.1)])
structure S78 where
  c : Nat
  mf : Ky → Option Dt
  n : Nat
  pa : Nat → Nat → Dt
  m : Nat
  st : Nat → Nat → Dt
  v : Nat
  u : Nat
  l : Int
  x : Int
abbrev keep78 : List Nat := [0, 2, 11, 12]
abbrev vs78 (s : S78) : List AV := [.own 1 k0 s.v, .own 2 k0 s.u, .int .i64 s.l, .int .i64 s.x]
abbrev hp78 (s : S78) : List Ob := [.mapF (.int .i64) s.c (.dat (.int .i64) s.mf), .own 3 [.int .i64] s.n s.pa, .own 3 [.int .i64] s.m s.st]
def dec78 : List AV → List Ob → Option S78
  | [.own 1 (.int 0) v, .own 2 (.int 0) u, .int .i64 l, .int .i64 x], [.mapF (.int .i64) c (.dat (.int .i64) mf), .own 3 [.int .i64] n pa, .own 3 [.int .i64] m st] => some ⟨c, mf, n, pa, m, st, v, u, l, x⟩
  | _, _ => none
def dom78 (s : S78) : Bool := Nat.beq s.m s.n && (Nat.beq s.v s.n && (Nat.beq s.u s.n && (Nat.ble s.n 1000 && (decide (0 ≤ s.x) && (decide (s.x ≤ (s.n : Int)) && (decide (s.l = (s.n : Int)) && (paB s.n s.pa && (ctO s.n (s.n - s.x.toNat) s.x.toNat s.pa s.st).isSome)))))))
def fin78 (s : S78) : Tr (Ex × List AV × List Ob) := .leaf (.exit 0, [.own 1 k0 s.v, .own 2 k0 s.u, .int .i64 s.l, .int .i64 (s.n : Int)], [.mapF (.int .i64) s.c (.dat (.int .i64) s.mf), .own 3 [.int .i64] s.n ((ctO s.n (s.n - s.x.toNat) s.x.toNat s.pa s.st).getD (s.pa, s.st) |>.1), .own 3 [.int .i64] s.m ((ctO s.n (s.n - s.x.toNat) s.x.toNat s.pa s.st).getD (s.pa, s.st) |>.2)])
abbrev lp78 (i : Nat) : LT := bif Nat.beq i 2 then .sum keep78a (stF dec78a dom78a fin78a) else bif Nat.beq i 4 then .sum keep78b (stF dec78b dom78b fin78b) else bif Nat.beq i 6 then .sum keep78c (stF dec78c dom78c fin78c) else .sum keep78 (stF dec78 dom78 fin78)
end Go.Proofs.Ytfgniheefiefjaa

/- Circles of parents cut: the loops' summaries. Conditions: none beyond the context's. -/
namespace Go.Proofs.Ytfgniheefiefjaa
open Go.Evl Go.RowKit
def rnd78a (c : Nat) (mf : Ky → Option Dt) (n : Nat) (pa st : Nat → Nat → Dt) (i a l x : Int) : Option (Ex × List AV × List Ob) := bif decide (a ≥ 0) then bif decide (0 ≤ a) && decide (a < (n : Int)) then bif n.beq n then bif n.beq n && a.toNat.blt n then bif (st a.toNat 0).n == 0 then bif decide (0 ≤ a) && decide (a < (n : Int)) then bif n.beq n then bif n.beq n && a.toNat.blt n then bif decide (0 ≤ a) && decide (a < (n : Int)) then bif n.beq n then bif n.beq n && a.toNat.blt n then some (.normal, [.own 1 k0 n, .own 2 k0 n, .int .i64 i, .int .i64 (pa a.toNat 0).n, .int .i64 l, .int .i64 x], [.mapF (.int .i64) c (.dat (.int .i64) mf), .own 3 [.int .i64] n pa, .own 3 [.int .i64] n (setEl st a.toNat 0 [.int 1])]) else none else none else none else none else none else none else some (.exit 2, [.own 1 k0 n, .own 2 k0 n, .int .i64 i, .int .i64 a, .int .i64 l, .int .i64 x], [.mapF (.int .i64) c (.dat (.int .i64) mf), .own 3 [.int .i64] n pa, .own 3 [.int .i64] n st]) else none else none else none else some (.exit 2, [.own 1 k0 n, .own 2 k0 n, .int .i64 i, .int .i64 a, .int .i64 l, .int .i64 x], [.mapF (.int .i64) c (.dat (.int .i64) mf), .own 3 [.int .i64] n pa, .own 3 [.int .i64] n st])
theorem loop78a (c : Nat) (mf : Ky → Option Dt) (n : Nat) (pa st : Nat → Nat → Dt) (i a l x : Int) : evC (β := Ex × List AV × List Ob) Try.prog (spOf []) (inlOf [78]) extD cP0 lp78 (bodyOf Try.prog 78 2) ⟨mkF Try.f78.ntmps keep78a [.own 1 k0 n, .own 2 k0 n, .int .i64 i, .int .i64 a, .int .i64 l, .int .i64 x], [.mapF (.int .i64) c (.dat (.int .i64) mf), .own 3 [.int .i64] n pa, .own 3 [.int .i64] n st]⟩ (fun e st => (cutBack keep78a 3 st).map fun q => (e, q.1, q.2)) = rnd78a c mf n pa st i a l x := by kernel_rfl
def rnd78b (c : Nat) (mf : Ky → Option Dt) (n : Nat) (pa st : Nat → Nat → Dt) (i a e y l x : Int) : Option (Ex × List AV × List Ob) := bif y != a then bif decide (0 ≤ y) && decide (y < (n : Int)) then bif n.beq n then bif n.beq n && y.toNat.blt n then some (.normal, [.own 1 k0 n, .own 2 k0 n, .int .i64 i, .int .i64 a, .int .i64 (bif decide (y < e) then y else e), .int .i64 (pa y.toNat 0).n, .int .i64 l, .int .i64 x], [.mapF (.int .i64) c (.dat (.int .i64) mf), .own 3 [.int .i64] n pa, .own 3 [.int .i64] n st]) else none else none else none else some (.exit 4, [.own 1 k0 n, .own 2 k0 n, .int .i64 i, .int .i64 a, .int .i64 e, .int .i64 y, .int .i64 l, .int .i64 x], [.mapF (.int .i64) c (.dat (.int .i64) mf), .own 3 [.int .i64] n pa, .own 3 [.int .i64] n st])
theorem loop78b (c : Nat) (mf : Ky → Option Dt) (n : Nat) (pa st : Nat → Nat → Dt) (i a e y l x : Int) : evC (β := Ex × List AV × List Ob) Try.prog (spOf []) (inlOf [78]) extD cP0 lp78 (bodyOf Try.prog 78 4) ⟨mkF Try.f78.ntmps keep78b [.own 1 k0 n, .own 2 k0 n, .int .i64 i, .int .i64 a, .int .i64 e, .int .i64 y, .int .i64 l, .int .i64 x], [.mapF (.int .i64) c (.dat (.int .i64) mf), .own 3 [.int .i64] n pa, .own 3 [.int .i64] n st]⟩ (fun e st => (cutBack keep78b 3 st).map fun q => (e, q.1, q.2)) = rnd78b c mf n pa st i a e y l x := by kernel_rfl
def rnd78c (c : Nat) (mf : Ky → Option Dt) (n : Nat) (pa st : Nat → Nat → Dt) (i a e l x : Int) : Option (Ex × List AV × List Ob) := bif decide (a ≥ 0) then bif decide (0 ≤ a) && decide (a < (n : Int)) then bif n.beq n then bif n.beq n && a.toNat.blt n then bif (st a.toNat 0).n == 1 then bif decide (0 ≤ a) && decide (a < (n : Int)) then bif n.beq n then bif n.beq n && a.toNat.blt n then bif decide (0 ≤ a) && decide (a < (n : Int)) then bif n.beq n then bif n.beq n && a.toNat.blt n then some (.normal, [.own 1 k0 n, .own 2 k0 n, .int .i64 i, .int .i64 (pa a.toNat 0).n, .int .i64 e, .int .i64 l, .int .i64 x], [.mapF (.int .i64) c (.dat (.int .i64) mf), .own 3 [.int .i64] n pa, .own 3 [.int .i64] n (setEl st a.toNat 0 [.int 2])]) else none else none else none else none else none else none else some (.exit 6, [.own 1 k0 n, .own 2 k0 n, .int .i64 i, .int .i64 a, .int .i64 e, .int .i64 l, .int .i64 x], [.mapF (.int .i64) c (.dat (.int .i64) mf), .own 3 [.int .i64] n pa, .own 3 [.int .i64] n st]) else none else none else none else some (.exit 6, [.own 1 k0 n, .own 2 k0 n, .int .i64 i, .int .i64 a, .int .i64 e, .int .i64 l, .int .i64 x], [.mapF (.int .i64) c (.dat (.int .i64) mf), .own 3 [.int .i64] n pa, .own 3 [.int .i64] n st])
theorem loop78c (c : Nat) (mf : Ky → Option Dt) (n : Nat) (pa st : Nat → Nat → Dt) (i a e l x : Int) : evC (β := Ex × List AV × List Ob) Try.prog (spOf []) (inlOf [78]) extD cP0 lp78 (bodyOf Try.prog 78 6) ⟨mkF Try.f78.ntmps keep78c [.own 1 k0 n, .own 2 k0 n, .int .i64 i, .int .i64 a, .int .i64 e, .int .i64 l, .int .i64 x], [.mapF (.int .i64) c (.dat (.int .i64) mf), .own 3 [.int .i64] n pa, .own 3 [.int .i64] n st]⟩ (fun e st => (cutBack keep78c 3 st).map fun q => (e, q.1, q.2)) = rnd78c c mf n pa st i a e l x := by kernel_rfl
set_option maxRecDepth 4000 in
theorem sum78a : LoopOkT Try.prog (spOf []) (inlOf [78]) extD cP0 lp78 Try.f78.ntmps (bodyOf Try.prog 78 2) (.sum keep78a (stF dec78a dom78a fin78a)) := by
  dsimp only [LoopOkT]
  refine ⟨by decide, by decide, ?_⟩
  refine sum_st dec78a dom78a fin78a vs78a hp78a (fun s => cnt s.st 0 s.n) (fun vs H s hs => ?_) (fun s R hd hR => ?_)
  · unfold dec78a at hs
    split at hs
    · obtain rfl := Option.some.inj hs
      exact ⟨rfl, rfl⟩
    · cases hs
  · obtain ⟨c, mf, n, pa, m, st, v, u, i, a, l, x⟩ := s
    simp only [dom78a, Bool.and_eq_true, decide_eq_true_eq, Nat.ble_eq, Nat.beq_eq] at hd
    obtain ⟨e1, e2, e3, h1, h2, h3⟩ := hd
    obtain rfl := e1.symm
    obtain rfl := e2.symm
    obtain rfl := e3.symm
    simp only [fin78a, Tr.run, Option.some.injEq] at hR
    subst hR
    have ht := loop78a c mf n pa st i a l x
    unfold rnd78a at ht
    by_cases ha : 0 ≤ a
    · obtain ⟨a, rfl⟩ : ∃ p : Nat, a = (p : Int) := ⟨a.toNat, by omega⟩
      rw [condT (decide_eq_true (by omega)), Int.toNat_natCast, condT (by simp only [Bool.and_eq_true, decide_eq_true_eq]; omega), condT (Nat.beq_refl n), condT (by simp only [Nat.beq_refl, Bool.true_and, Nat.blt_eq]; omega)] at ht
      by_cases hs : (st a 0).n = 0
      · rw [condT (by simpa using hs), condT (by simp only [Bool.and_eq_true, decide_eq_true_eq]; omega), condT (Nat.beq_refl n), condT (by simp only [Nat.beq_refl, Bool.true_and, Nat.blt_eq]; omega), condT (by simp only [Bool.and_eq_true, decide_eq_true_eq]; omega), condT (Nat.beq_refl n), condT (by simp only [Nat.beq_refl, Bool.true_and, Nat.blt_eq]; omega)] at ht
        have hp := paB_get h3 (show a < n by omega)
        refine .inl ⟨⟨c, mf, n, pa, n, stS st a 1, n, n, i, (pa a 0).n, l, x⟩, ht, rfl, ?_, ?_, ?_⟩
        · simp only [dom78a, Bool.and_eq_true, decide_eq_true_eq, Nat.ble_eq, Nat.beq_eq, true_and]
          exact ⟨h1, hp.2, h3⟩
        · simp only [fin78a, Tr.run]
          rw [tr_step (by omega) hs (by decide)]
        · simp only
          rw [cnt_set (v := 1) hs (by decide) (show a < n by omega)]
          omega
      · rw [condF (by simpa using hs)] at ht
        refine .inr ⟨by simp, ?_⟩
        rw [tr_stop (by simpa using hs)]
        exact ht
    · rw [condF (decide_eq_false (by omega))] at ht
      refine .inr ⟨by simp, ?_⟩
      rw [tr_stop (fun h => ha h.1)]
      exact ht
set_option maxRecDepth 4000 in
theorem sum78c : LoopOkT Try.prog (spOf []) (inlOf [78]) extD cP0 lp78 Try.f78.ntmps (bodyOf Try.prog 78 6) (.sum keep78c (stF dec78c dom78c fin78c)) := by
  dsimp only [LoopOkT]
  refine ⟨by decide, by decide, ?_⟩
  refine sum_st dec78c dom78c fin78c vs78c hp78c (fun s => cnt s.st 1 s.n) (fun vs H s hs => ?_) (fun s R hd hR => ?_)
  · unfold dec78c at hs
    split at hs
    · obtain rfl := Option.some.inj hs
      exact ⟨rfl, rfl⟩
    · cases hs
  · obtain ⟨c, mf, n, pa, m, st, v, u, i, a, e, l, x⟩ := s
    simp only [dom78c, Bool.and_eq_true, decide_eq_true_eq, Nat.ble_eq, Nat.beq_eq] at hd
    obtain ⟨e1, e2, e3, h1, h2, h3⟩ := hd
    obtain rfl := e1.symm
    obtain rfl := e2.symm
    obtain rfl := e3.symm
    simp only [fin78c, Tr.run, Option.some.injEq] at hR
    subst hR
    have ht := loop78c c mf n pa st i a e l x
    unfold rnd78c at ht
    by_cases ha : 0 ≤ a
    · obtain ⟨a, rfl⟩ : ∃ p : Nat, a = (p : Int) := ⟨a.toNat, by omega⟩
      rw [condT (decide_eq_true (by omega)), Int.toNat_natCast, condT (by simp only [Bool.and_eq_true, decide_eq_true_eq]; omega), condT (Nat.beq_refl n), condT (by simp only [Nat.beq_refl, Bool.true_and, Nat.blt_eq]; omega)] at ht
      by_cases hs : (st a 0).n = 1
      · rw [condT (by simpa using hs), condT (by simp only [Bool.and_eq_true, decide_eq_true_eq]; omega), condT (Nat.beq_refl n), condT (by simp only [Nat.beq_refl, Bool.true_and, Nat.blt_eq]; omega), condT (by simp only [Bool.and_eq_true, decide_eq_true_eq]; omega), condT (Nat.beq_refl n), condT (by simp only [Nat.beq_refl, Bool.true_and, Nat.blt_eq]; omega)] at ht
        have hp := paB_get h3 (show a < n by omega)
        refine .inl ⟨⟨c, mf, n, pa, n, stS st a 2, n, n, i, (pa a 0).n, e, l, x⟩, ht, rfl, ?_, ?_, ?_⟩
        · simp only [dom78c, Bool.and_eq_true, decide_eq_true_eq, Nat.ble_eq, Nat.beq_eq, true_and]
          exact ⟨h1, hp.2, h3⟩
        · simp only [fin78c, Tr.run]
          rw [tr_step (by omega) hs (by decide)]
        · simp only
          rw [cnt_set (v := 2) hs (by decide) (show a < n by omega)]
          omega
      · rw [condF (by simpa using hs)] at ht
        refine .inr ⟨by simp, ?_⟩
        rw [tr_stop (by simpa using hs)]
        exact ht
    · rw [condF (decide_eq_false (by omega))] at ht
      refine .inr ⟨by simp, ?_⟩
      rw [tr_stop (fun h => ha h.1)]
      exact ht
theorem mnF_pos {pa : Nat → Nat → Dt} {a : Int} {f : Nat} {l x : Int} (h : (mnF pa a f l x).isSome = true) (hx : x ≠ a) : 0 ≤ x ∧ ∃ g, f = g + 1 ∧ mnF pa a f l x = mnF pa a g (miI l x) (pa x.toNat 0).n := by
  cases f with
  | zero => simp [mnF, hx] at h
  | succ f =>
    rw [mnF, if_neg hx] at h
    by_cases h0 : x < 0
    · rw [if_pos h0] at h; cases h
    · exact ⟨by omega, f, rfl, by rw [mnF, if_neg hx, if_neg h0]⟩
theorem mnF_all {pa : Nat → Nat → Dt} {a : Int} {f l x : _} {r : Int} (h : mnF pa a f l x = some r) : ∀ g, f ≤ g → mnF pa a g l x = some r := by
  intro g hg
  induction hg with
  | refl => exact h
  | step _ ih => exact mnF_mono ih
/-- steps of a circle that are left -/
def mnS (pa : Nat → Nat → Dt) (a : Int) : Nat → Int → Nat
  | 0, _ => 0
  | f + 1, x => if x = a then 0 else mnS pa a f (pa x.toNat 0).n + 1
theorem mnS_mono {pa : Nat → Nat → Dt} {a : Int} : ∀ {f : Nat} {l x r : Int}, mnF pa a f l x = some r → ∀ g, f ≤ g → mnS pa a g x = mnS pa a f x
  | 0, l, x, r, h, g, _ => by
    have : x = a := by
      simp only [mnF] at h
      split at h
      · assumption
      · cases h
    subst this
    cases g <;> simp [mnS]
  | f + 1, l, x, r, h, 0, hg => by omega
  | f + 1, l, x, r, h, g + 1, hg => by
    simp only [mnS]
    by_cases e : x = a
    · rw [if_pos e, if_pos e]
    · rw [if_neg e, if_neg e]
      rw [mnF, if_neg e] at h
      split at h
      · cases h
      · rw [mnS_mono h g (by omega)]
set_option maxRecDepth 4000 in
theorem sum78b : LoopOkT Try.prog (spOf []) (inlOf [78]) extD cP0 lp78 Try.f78.ntmps (bodyOf Try.prog 78 4) (.sum keep78b (stF dec78b dom78b fin78b)) := by
  dsimp only [LoopOkT]
  refine ⟨by decide, by decide, ?_⟩
  refine sum_st dec78b dom78b fin78b vs78b hp78b (fun s => mnS s.pa s.a s.n s.y) (fun vs H s hs => ?_) (fun s R hd hR => ?_)
  · unfold dec78b at hs
    split at hs
    · obtain rfl := Option.some.inj hs
      exact ⟨rfl, rfl⟩
    · cases hs
  · obtain ⟨c, mf, n, pa, m, st, v, u, i, a, e, y, l, x⟩ := s
    simp only [dom78b, Bool.and_eq_true, decide_eq_true_eq, Nat.ble_eq, Nat.beq_eq] at hd
    obtain ⟨e1, e2, e3, h1, h2, h3, h4⟩ := hd
    obtain rfl := e1.symm
    obtain rfl := e2.symm
    obtain rfl := e3.symm
    simp only [fin78b, Tr.run, Option.some.injEq] at hR
    subst hR
    have ht := loop78b c mf n pa st i a e y l x
    unfold rnd78b at ht
    by_cases hy : y = a
    · subst hy
      rw [condF (by simp)] at ht
      refine .inr ⟨by simp, ?_⟩
      have : mnF pa y n e y = some e := by cases n <;> simp [mnF]
      rw [this]
      exact ht
    · obtain ⟨g1, f, rfl, g2⟩ := mnF_pos h4 hy
      obtain ⟨y, rfl⟩ : ∃ p : Nat, y = (p : Int) := ⟨y.toNat, by omega⟩
      rw [condT (by simpa using hy), Int.toNat_natCast, condT (by simp only [Bool.and_eq_true, decide_eq_true_eq]; omega), condT (Nat.beq_refl (f + 1)), condT (by simp only [Nat.beq_refl, Bool.true_and, Nat.blt_eq]; omega)] at ht
      rw [g2, Int.toNat_natCast] at h4
      rw [Int.toNat_natCast] at g2
      have hp := paB_get h3 (show y < f + 1 by omega)
      obtain ⟨r, hr⟩ := Option.isSome_iff_exists.1 h4
      have hr1 := mnF_mono hr
      refine .inl ⟨⟨c, mf, f + 1, pa, f + 1, st, f + 1, f + 1, i, a, miI e (y : Int), (pa y 0).n, l, x⟩, ht, rfl, ?_, ?_, ?_⟩
      · simp only [dom78b, Bool.and_eq_true, decide_eq_true_eq, Nat.ble_eq, Nat.beq_eq, true_and]
        exact ⟨h1, hp.2, h3, by rw [hr1]; rfl⟩
      · simp only [fin78b, Tr.run]
        rw [g2, hr, hr1]
      · simp only
        rw [mnS_mono hr (f + 1) (Nat.le_succ f)]
        simp only [mnS, Int.toNat_natCast, hy, if_false]
        omega
/-- behind the walk and the circle -/
def tl78 (c : Nat) (mf : Ky → Option Dt) (n : Nat) (pa _st : Nat → Nat → Dt) (x : Int) (W : (Nat → Nat → Dt)) (e : Int) : Option (Ex × List AV × List Ob) :=
  bif n.beq n && (n.beq n && (n.beq n && (n.ble 1000 && (decide (x < (n : Int)) && paB n pa)))) then
    bif decide (e ≥ 0) then bif decide (0 ≤ e) && decide (e < (n : Int)) then bif n.beq n then bif n.beq n && e.toNat.blt n then
      some (.normal, [.own 1 k0 n, .own 2 k0 n, .int .i64 (n : Int), .int .i64 (IntKind.i64.wrap (x + 1))], [.mapF (.int .i64) c (.dat (.int .i64) mf), .own 3 [.int .i64] n (stS pa e.toNat (-1)), .own 3 [.int .i64] n (tr 1 2 n pa W x).1]) else none else none else none
    else some (.normal, [.own 1 k0 n, .own 2 k0 n, .int .i64 (n : Int), .int .i64 (IntKind.i64.wrap (x + 1))], [.mapF (.int .i64) c (.dat (.int .i64) mf), .own 3 [.int .i64] n pa, .own 3 [.int .i64] n (tr 1 2 n pa W x).1]) else none
def rnd78 (c : Nat) (mf : Ky → Option Dt) (n : Nat) (pa st : Nat → Nat → Dt) (x : Int) : Option (Ex × List AV × List Ob) :=
  bif decide (x < (n : Int)) then bif n.beq n && (n.beq n && (n.beq n && (n.ble 1000 && (decide (x < (n : Int)) && paB n pa)))) then
    bif decide ((tr 0 1 n pa st x).2 ≥ 0) then bif decide (0 ≤ (tr 0 1 n pa st x).2) && decide ((tr 0 1 n pa st x).2 < (n : Int)) then bif n.beq n then bif n.beq n && (tr 0 1 n pa st x).2.toNat.blt n then
      bif ((tr 0 1 n pa st x).1 (tr 0 1 n pa st x).2.toNat 0).n == 1 then bif decide (0 ≤ (tr 0 1 n pa st x).2) && decide ((tr 0 1 n pa st x).2 < (n : Int)) then bif n.beq n then bif n.beq n && (tr 0 1 n pa st x).2.toNat.blt n then
        bif n.beq n && (n.beq n && (n.beq n && (n.ble 1000 && (decide ((pa (tr 0 1 n pa st x).2.toNat 0).n < (n : Int)) && (paB n pa && (mnF pa (tr 0 1 n pa st x).2 n (tr 0 1 n pa st x).2 (pa (tr 0 1 n pa st x).2.toNat 0).n).isSome))))) then
          tl78 c mf n pa st x (tr 0 1 n pa st x).1 ((mnF pa (tr 0 1 n pa st x).2 n (tr 0 1 n pa st x).2 (pa (tr 0 1 n pa st x).2.toNat 0).n).getD 0) else none else none else none else none
      else tl78 c mf n pa st x (tr 0 1 n pa st x).1 (-1) else none else none else none
    else tl78 c mf n pa st x (tr 0 1 n pa st x).1 (-1) else none
  else some (.exit 0, [.own 1 k0 n, .own 2 k0 n, .int .i64 (n : Int), .int .i64 x], [.mapF (.int .i64) c (.dat (.int .i64) mf), .own 3 [.int .i64] n pa, .own 3 [.int .i64] n st])
theorem loop78 (c : Nat) (mf : Ky → Option Dt) (n : Nat) (pa st : Nat → Nat → Dt) (x : Int) : evC (β := Ex × List AV × List Ob) Try.prog (spOf []) (inlOf [78]) extD cP0 lp78 (bodyOf Try.prog 78 0) ⟨mkF Try.f78.ntmps keep78 [.own 1 k0 n, .own 2 k0 n, .int .i64 (n : Int), .int .i64 x], [.mapF (.int .i64) c (.dat (.int .i64) mf), .own 3 [.int .i64] n pa, .own 3 [.int .i64] n st]⟩ (fun e st => (cutBack keep78 3 st).map fun q => (e, q.1, q.2)) = rnd78 c mf n pa st x := by kernel_rfl
end Go.Proofs.Ytfgniheefiefjaa

/- Circles of parents cut: the outer loop's summary. Conditions: none beyond the context's. -/
namespace Go.Proofs.Ytfgniheefiefjaa
open Go.Evl Go.RowKit
theorem trF_lt {u v : Int} {n : Nat} {pa : Nat → Nat → Dt} (h : paB n pa = true) : ∀ (f : Nat) (st : Nat → Nat → Dt) (a : Int), a < (n : Int) → (trF u v pa f st a).2 < (n : Int)
  | 0, st, a, ha => ha
  | f + 1, st, a, ha => by
    simp only [trF]
    split
    · rename_i h1
      exact trF_lt h f _ _ (paB_get h (show a.toNat < n by omega)).2
    · exact ha
theorem tr_lt {u v : Int} {n : Nat} {pa st : Nat → Nat → Dt} {a : Int} (h : paB n pa = true) (ha : a < (n : Int)) : (tr u v n pa st a).2 < (n : Int) := trF_lt h _ _ _ ha
theorem mnF_rng {n : Nat} {pa : Nat → Nat → Dt} {a : Int} (h : paB n pa = true) : ∀ {f : Nat} {l x r : Int}, 0 ≤ l → l < (n : Int) → x < (n : Int) → mnF pa a f l x = some r → 0 ≤ r ∧ r < (n : Int)
  | 0, l, x, r, h1, h2, _, hr => by
    simp only [mnF] at hr
    split at hr
    · obtain rfl := Option.some.inj hr; exact ⟨h1, h2⟩
    · cases hr
  | f + 1, l, x, r, h1, h2, h3, hr => by
    rw [mnF] at hr
    split at hr
    · obtain rfl := Option.some.inj hr; exact ⟨h1, h2⟩
    · split at hr
      · cases hr
      · have hm : 0 ≤ miI l x ∧ miI l x < (n : Int) := by
          unfold miI
          cases decide (x < l) <;> simp only [cond_true, cond_false] <;> omega
        exact mnF_rng h hm.1 hm.2 (paB_get h (show x.toNat < n by omega)).2 hr
theorem tl78_run {c : Nat} {mf : Ky → Option Dt} {n : Nat} {pa st W : Nat → Nat → Dt} {x : Nat} {e : Int} (hn : n ≤ 1000) (hx : x < n) (hp : paB n pa = true) (he : e < (n : Int)) :
    tl78 c mf n pa st (x : Int) W e = some (.normal, [.own 1 k0 n, .own 2 k0 n, .int .i64 (n : Int), .int .i64 ((x : Int) + 1)], [.mapF (.int .i64) c (.dat (.int .i64) mf), .own 3 [.int .i64] n (if 0 ≤ e then stS pa e.toNat (-1) else pa), .own 3 [.int .i64] n (tr 1 2 n pa W x).1]) := by
  unfold tl78
  rw [condT (by rw [hp, Nat.beq_refl, Nat.ble_eq_true_of_le hn, decide_eq_true (by omega)]; rfl), wrapI (by omega) (by omega)]
  by_cases h0 : 0 ≤ e
  · rw [condT (decide_eq_true (by omega)), condT (by simp only [Bool.and_eq_true, decide_eq_true_eq]; omega), condT (Nat.beq_refl n), condT (by simp only [Nat.beq_refl, Bool.true_and, Nat.blt_eq]; omega), if_pos h0]
  · rw [condF (decide_eq_false (by omega)), if_neg h0]
theorem rnd78_run {c : Nat} {mf : Ky → Option Dt} {n : Nat} {pa st : Nat → Nat → Dt} {x : Nat} {q : (Nat → Nat → Dt) × (Nat → Nat → Dt)} (hn : n ≤ 1000) (hx : x < n) (hp : paB n pa = true) (hq : ctS n pa st x = some q) :
    rnd78 c mf n pa st (x : Int) = some (.normal, [.own 1 k0 n, .own 2 k0 n, .int .i64 (n : Int), .int .i64 ((x : Int) + 1)], [.mapF (.int .i64) c (.dat (.int .i64) mf), .own 3 [.int .i64] n q.1, .own 3 [.int .i64] n q.2]) := by
  have hlt := tr_lt (u := 0) (v := 1) (st := st) hp (show ((x : Int)) < (n : Int) by omega)
  unfold rnd78
  unfold ctS at hq
  generalize hW : tr 0 1 n pa st (x : Int) = W at hlt hq ⊢
  obtain ⟨s1, a⟩ := W
  simp only at hlt hq ⊢
  rw [condT (decide_eq_true (by omega)), condT (by rw [hp, Nat.beq_refl, Nat.ble_eq_true_of_le hn, decide_eq_true (by omega)]; rfl)]
  by_cases ha : 0 ≤ a
  · rw [condT (decide_eq_true (by omega)), condT (by simp only [Bool.and_eq_true, decide_eq_true_eq]; omega), condT (Nat.beq_refl n), condT (by simp only [Nat.beq_refl, Bool.true_and, Nat.blt_eq]; omega)]
    by_cases h1 : (s1 a.toNat 0).n = 1
    · rw [if_pos ⟨ha, h1⟩] at hq
      cases hm : mnF pa a n a (pa a.toNat 0).n with
      | none => rw [hm] at hq; cases hq
      | some l =>
        rw [hm] at hq
        obtain rfl := Option.some.inj hq
        have hpl := (paB_get hp (show a.toNat < n by omega)).2
        obtain ⟨l0, l1⟩ := mnF_rng hp ha hlt hpl hm
        rw [condT (by simpa using h1), condT (by simp only [Bool.and_eq_true, decide_eq_true_eq]; omega), condT (Nat.beq_refl n), condT (by simp only [Nat.beq_refl, Bool.true_and, Nat.blt_eq]; omega), condT (by rw [hp, Nat.beq_refl, Nat.ble_eq_true_of_le hn, decide_eq_true hpl]; rfl)]
        exact tl78_run hn hx hp l1
    · rw [if_neg (fun z => h1 z.2)] at hq
      obtain rfl := Option.some.inj hq
      rw [condF (by simpa using h1)]
      exact tl78_run hn hx hp (by omega)
  · rw [if_neg (fun z => ha z.1)] at hq
    obtain rfl := Option.some.inj hq
    rw [condF (decide_eq_false (by omega))]
    exact tl78_run hn hx hp (by omega)
theorem ctS_pa {n : Nat} {pa st : Nat → Nat → Dt} {x : Nat} {q : (Nat → Nat → Dt) × (Nat → Nat → Dt)} (hp : paB n pa = true) (hq : ctS n pa st x = some q) : paB n q.1 = true := by
  unfold ctS at hq
  split at hq
  · cases hq
  · obtain rfl := Option.some.inj hq
    simp only
    split
    · exact paB_set hp _
    · exact hp
set_option maxRecDepth 10000 in
theorem sum78 : LoopOkT Try.prog (spOf []) (inlOf [78]) extD cP0 lp78 Try.f78.ntmps (bodyOf Try.prog 78 0) (.sum keep78 (stF dec78 dom78 fin78)) := by
  dsimp only [LoopOkT]
  refine ⟨by decide, by decide, ?_⟩
  refine sum_st dec78 dom78 fin78 vs78 hp78 (fun s => s.n - s.x.toNat) (fun vs H s hs => ?_) (fun s R hd hR => ?_)
  · unfold dec78 at hs
    split at hs
    · obtain rfl := Option.some.inj hs
      exact ⟨rfl, rfl⟩
    · cases hs
  · obtain ⟨c, mf, n, pa, m, st, v, u, l, x⟩ := s
    simp only [dom78, Bool.and_eq_true, decide_eq_true_eq, Nat.ble_eq, Nat.beq_eq] at hd
    obtain ⟨e1, e2, e3, h1, h2, h3, rfl, h4, h5⟩ := hd
    obtain rfl := e1.symm
    obtain rfl := e2.symm
    obtain rfl := e3.symm
    obtain ⟨x, rfl⟩ : ∃ p : Nat, x = (p : Int) := ⟨x.toNat, by omega⟩
    simp only [fin78, Int.toNat_natCast, Tr.run, Option.some.injEq] at hR
    rw [Int.toNat_natCast] at h5
    have ht := loop78 c mf n pa st (x : Int)
    by_cases hx : x < n
    · obtain ⟨p, hp⟩ : ∃ p, n - x = p + 1 := ⟨n - x - 1, by omega⟩
      rw [hp] at h5 hR
      simp only [ctO] at h5 hR
      cases hq : ctS n pa st x with
      | none => rw [hq] at h5; cases h5
      | some q =>
        rw [hq] at h5 hR
        rw [rnd78_run h1 hx h4 hq] at ht
        refine .inl ⟨⟨c, mf, n, q.1, n, q.2, n, n, (n : Int), (x : Int) + 1⟩, ht, rfl, ?_, ?_, ?_⟩
        · have e4 : ((x : Int) + 1).toNat = x + 1 := by omega
          simp only [dom78, e4, Bool.and_eq_true, decide_eq_true_eq, Nat.ble_eq, Nat.beq_eq, true_and]
          exact ⟨h1, by omega, by omega, ctS_pa h4 hq, by rw [show n - (x + 1) = p by omega]; exact h5⟩
        · rw [← hR]
          have e4 : ((x : Int) + 1).toNat = x + 1 := by omega
          obtain ⟨r, hr⟩ := Option.isSome_iff_exists.1 h5
          simp only [fin78, Tr.run, e4, show n - (x + 1) = p by omega, hr, Option.getD_some]
        · simp only; omega
    · obtain rfl : x = n := by omega
      unfold rnd78 at ht
      rw [condF (decide_eq_false (by omega))] at ht
      refine .inr ?_
      simp only [Nat.sub_self, ctO, Option.getD_some] at hR
      subst hR
      exact ⟨by simp, ht⟩
end Go.Proofs.Ytfgniheefiefjaa

/- The parents of spans: the loops' states. No condition. -/
namespace Go.Proofs.Ytfgniheefiefjaa
open Go.Evl Go.RowKit
noncomputable abbrev cP1 {β : Type} : CallK β := callLK Try.prog (spOf []) (inlOf [78]) extD cP0 [(78, lp78)]
/-- the places of identities -/
def plF (x : Nat → Nat → Dt) : Nat → Nat → Nat → (Ky → Option Dt) → Nat × (Ky → Option Dt)
  | 0, _, c, mf => (c, mf)
  | f + 1, i, c, mf => plF x f (i + 1) (bif (mf (.int (x i 1).n)).isSome then c else c + 1) (putK mf (.int (x i 1).n) (some (.int (i : Int))))
/-- the parents' places by the identities -/
def pfF (x : Nat → Nat → Dt) (mf : Ky → Option Dt) : Nat → Nat → (Nat → Nat → Dt) → Nat → Nat → Dt
  | 0, _, pa => pa
  | f + 1, i, pa => pfF x mf f (i + 1) (bif (mf (.int (x i 2).n)).isSome then stS (stS pa i (-1)) i ((mf (.int (x i 2).n)).getD (.int 0)).n else stS pa i (-1))
structure S69 where
  n : Nat
  x : Nat → Nat → Dt
  l : Int
  i : Int
  r : Nat
  y : Nat → Nat → Dt
  c : Nat
  mf : Ky → Option Dt
abbrev keep69 : List Nat := [0, 3, 12, 13, 14]
abbrev vs69 (s : S69) : List AV := [.isz s.r SS s.y, .map 0, .isz s.n SS s.x, .int .i64 s.l, .int .i64 s.i]
abbrev hp69 (s : S69) : List Ob := [.mapF (.int .i64) s.c (.dat (.int .i64) s.mf)]
def dec69 : List AV → List Ob → Option S69
  | [.isz r [.int .i64, .int .i64, .int .i64, .str, .str, .int .i64, .int .i64, .int .i64, .row [.str, .str], .row [.int .i64, .int .i64]] y, .map 0, .isz n [.int .i64, .int .i64, .int .i64, .str, .str, .int .i64, .int .i64, .int .i64, .row [.str, .str], .row [.int .i64, .int .i64]] x, .int .i64 l, .int .i64 i], [.mapF (.int .i64) c (.dat (.int .i64) mf)] => some ⟨n, x, l, i, r, y, c, mf⟩
  | _, _ => none
def dom69 (s : S69) : Bool := decide (0 ≤ s.i) && (decide (s.i ≤ (s.n : Int)) && (decide (s.l = (s.n : Int)) && Nat.ble s.n 1000))
def fin69 (s : S69) : Tr (Ex × List AV × List Ob) := .leaf (.exit 0, [.isz s.r SS s.y, .map 0, .isz s.n SS s.x, .int .i64 s.l, .int .i64 (s.n : Int)], [.mapF (.int .i64) (plF s.x (s.n - s.i.toNat) s.i.toNat s.c s.mf).1 (.dat (.int .i64) (plF s.x (s.n - s.i.toNat) s.i.toNat s.c s.mf).2)])
structure S69b where
  n : Nat
  x : Nat → Nat → Dt
  l : Int
  i : Int
  v : Nat
  m : Nat
  pa : Nat → Nat → Dt
  c : Nat
  mf : Ky → Option Dt
abbrev keep69b : List Nat := [3, 6, 27, 28, 29]
abbrev vs69b (s : S69b) : List AV := [.map 0, .own 1 k0 s.v, .isz s.n SS s.x, .int .i64 s.l, .int .i64 s.i]
abbrev hp69b (s : S69b) : List Ob := [.mapF (.int .i64) s.c (.dat (.int .i64) s.mf), .own 3 [.int .i64] s.m s.pa]
def dec69b : List AV → List Ob → Option S69b
  | [.map 0, .own 1 (.int 0) v, .isz n [.int .i64, .int .i64, .int .i64, .str, .str, .int .i64, .int .i64, .int .i64, .row [.str, .str], .row [.int .i64, .int .i64]] x, .int .i64 l, .int .i64 i], [.mapF (.int .i64) c (.dat (.int .i64) mf), .own 3 [.int .i64] m pa] => some ⟨n, x, l, i, v, m, pa, c, mf⟩
  | _, _ => none
def dom69b (s : S69b) : Bool := decide (0 ≤ s.i) && (decide (s.i ≤ (s.n : Int)) && (decide (s.l = (s.n : Int)) && (Nat.beq s.m s.n && (Nat.beq s.v s.n && Nat.ble s.n 1000))))
def fin69b (s : S69b) : Tr (Ex × List AV × List Ob) := .leaf (.exit 2, [.map 0, .own 1 k0 s.v, .isz s.n SS s.x, .int .i64 s.l, .int .i64 (s.n : Int)], [.mapF (.int .i64) s.c (.dat (.int .i64) s.mf), .own 3 [.int .i64] s.m (pfF s.x s.mf (s.n - s.i.toNat) s.i.toNat s.pa)])
abbrev lp69 (i : Nat) : LT := bif Nat.beq i 2000001 then .ghost [.mapD 3 (.int .i64) (.int .i64)] else bif Nat.beq i 2 then .sum keep69b (stF dec69b dom69b fin69b) else .sum keep69 (stF dec69 dom69 fin69)
end Go.Proofs.Ytfgniheefiefjaa

/- The parents of spans: the loops' summaries, the contract. Conditions: none beyond the context's. -/
namespace Go.Proofs.Ytfgniheefiefjaa
open Go.Evl Go.RowKit
noncomputable abbrev cfP0 : CallF := callN (mkCx Try.prog (spOf []) (inlOf [78]) extD) attD uD 20
noncomputable abbrev cfP1 : CallF := callLN (mkCx Try.prog (spOf []) (inlOf [78]) extD) cfP0 [(78, lp78)]
theorem cP1_eq {β : Type} : CallEq (β := β) cP1 cfP1 := callLK_eq _ _ _ _ (callK_eq Try.prog (spOf []) (inlOf [78]) extD attD uD 20) _
theorem sxP : (mkCx Try.prog (spOf []) (inlOf [78]) extD).Ok InvD := cx_of [78] (by kernel_rfl) (by intro p hp; cases hp)
set_option maxRecDepth 10000 in
theorem lpsP1 : LpsOk (mkCx Try.prog (spOf []) (inlOf [78]) extD) cfP0 [(78, lp78)] := by
  intro f lp hf fn c hfn hc
  simp only [List.mem_singleton, Prod.mk.injEq] at hf
  obtain ⟨rfl, rfl⟩ := hf
  have e1 : fn = Try.f78 := Option.some.inj (hfn.symm.trans Try.func78)
  subst e1
  have e2 : c = codeOf Try.prog 78 := Option.some.inj (hc.symm.trans (by kernel_rfl))
  subst e2
  refine loopsOk_of Try.prog (spOf []) (inlOf [78]) extD cP0 (fun {β} => callK_eq (β := β) Try.prog (spOf []) (inlOf [78]) extD attD uD 20) fun p hp => ?_
  have hl : loops (codeOf Try.prog 78) = [(0, bodyOf Try.prog 78 0), (2, bodyOf Try.prog 78 2), (4, bodyOf Try.prog 78 4), (6, bodyOf Try.prog 78 6)] := by kernel_rfl
  rw [hl] at hp
  simp only [List.mem_cons, List.not_mem_nil, or_false] at hp
  rcases hp with rfl | rfl | rfl | rfl
  · exact sum78
  · exact sum78a
  · exact sum78b
  · exact sum78c
theorem sndP1 : CallSound Try.prog InvD cfP1 := callLN_sound sxP stableD mixedD (callN_sound attD_ok sxP stableD mixedD 20) lpsP1
def rnd69 (n : Nat) (x : Nat → Nat → Dt) (i : Int) (r : Nat) (y : Nat → Nat → Dt) (c : Nat) (mf : Ky → Option Dt) : Option (Ex × List AV × List Ob) := bif decide (i < (n : Int)) then bif decide (0 ≤ i) && decide (i < (n : Int)) then some (.normal, [.isz r SS y, .map 0, .isz n SS x, .int .i64 (n : Int), .int .i64 (IntKind.i64.wrap (i + 1))], [.mapF (.int .i64) (bif (mf (.int (x i.toNat 1).n)).isSome then c else c + 1) (.dat (.int .i64) (putK mf (.int (x i.toNat 1).n) (some (.int i))))]) else none else some (.exit 0, [.isz r SS y, .map 0, .isz n SS x, .int .i64 (n : Int), .int .i64 i], [.mapF (.int .i64) c (.dat (.int .i64) mf)])
theorem loop69 (n : Nat) (x : Nat → Nat → Dt) (i : Int) (r : Nat) (y : Nat → Nat → Dt) (c : Nat) (mf : Ky → Option Dt) : evC (β := Ex × List AV × List Ob) Try.prog (spOf []) (inlOf [78]) extD cP1 lp69 (bodyOf Try.prog 69 0) ⟨mkF Try.f69.ntmps keep69 [.isz r SS y, .map 0, .isz n SS x, .int .i64 (n : Int), .int .i64 i], [.mapF (.int .i64) c (.dat (.int .i64) mf)]⟩ (fun e st => (cutBack keep69 1 st).map fun q => (e, q.1, q.2)) = rnd69 n x i r y c mf := by kernel_rfl
def rnd69b (n : Nat) (x : Nat → Nat → Dt) (i : Int) (pa : Nat → Nat → Dt) (c : Nat) (mf : Ky → Option Dt) : Option (Ex × List AV × List Ob) := bif decide (i < (n : Int)) then bif decide (0 ≤ i) && decide (i < (n : Int)) then bif decide (0 ≤ i) && decide (i < (n : Int)) then bif n.beq n then bif n.beq n && i.toNat.blt n then bif (mf (.int (x i.toNat 2).n)).isSome then bif decide (0 ≤ i) && decide (i < (n : Int)) then bif n.beq n then bif n.beq n && i.toNat.blt n then some (.normal, [.map 0, .own 1 k0 n, .isz n SS x, .int .i64 (n : Int), .int .i64 (IntKind.i64.wrap (i + 1))], [.mapF (.int .i64) c (.dat (.int .i64) mf), .own 3 [.int .i64] n (setEl (setEl pa i.toNat 0 [.int (-1)]) i.toNat 0 [.int ((mf (.int (x i.toNat 2).n)).getD (.int 0)).n])]) else none else none else none else some (.normal, [.map 0, .own 1 k0 n, .isz n SS x, .int .i64 (n : Int), .int .i64 (IntKind.i64.wrap (i + 1))], [.mapF (.int .i64) c (.dat (.int .i64) mf), .own 3 [.int .i64] n (setEl pa i.toNat 0 [.int (-1)])]) else none else none else none else none else some (.exit 2, [.map 0, .own 1 k0 n, .isz n SS x, .int .i64 (n : Int), .int .i64 i], [.mapF (.int .i64) c (.dat (.int .i64) mf), .own 3 [.int .i64] n pa])
theorem loop69b (n : Nat) (x : Nat → Nat → Dt) (i : Int) (pa : Nat → Nat → Dt) (c : Nat) (mf : Ky → Option Dt) : evC (β := Ex × List AV × List Ob) Try.prog (spOf []) (inlOf [78]) extD cP1 lp69 (bodyOf Try.prog 69 2) ⟨mkF Try.f69.ntmps keep69b [.map 0, .own 1 k0 n, .isz n SS x, .int .i64 (n : Int), .int .i64 i], [.mapF (.int .i64) c (.dat (.int .i64) mf), .own 3 [.int .i64] n pa]⟩ (fun e st => (cutBack keep69b 2 st).map fun q => (e, q.1, q.2)) = rnd69b n x i pa c mf := by kernel_rfl
theorem sum69 : LoopOkT Try.prog (spOf []) (inlOf [78]) extD cP1 lp69 Try.f69.ntmps (bodyOf Try.prog 69 0) (.sum keep69 (stF dec69 dom69 fin69)) := by
  dsimp only [LoopOkT]
  refine ⟨by decide, by decide, ?_⟩
  refine sum_st dec69 dom69 fin69 vs69 hp69 (fun s => s.n - s.i.toNat) (fun vs H s hs => ?_) (fun s R hd hR => ?_)
  · unfold dec69 at hs
    split at hs
    · obtain rfl := Option.some.inj hs
      exact ⟨rfl, rfl⟩
    · cases hs
  · obtain ⟨n, x, l, i, r, y, c, mf⟩ := s
    simp only [dom69, Bool.and_eq_true, decide_eq_true_eq, Nat.ble_eq] at hd
    obtain ⟨h1, h2, rfl, h3⟩ := hd
    obtain ⟨i, rfl⟩ : ∃ p : Nat, i = (p : Int) := ⟨i.toNat, by omega⟩
    simp only [fin69, Int.toNat_natCast, Tr.run, Option.some.injEq] at hR
    have ht := loop69 n x (i : Int) r y c mf
    unfold rnd69 at ht
    by_cases hi : i < n
    · obtain ⟨p, hp⟩ : ∃ p, n - i = p + 1 := ⟨n - i - 1, by omega⟩
      rw [condT (decide_eq_true (by omega)), condT (by simp only [Bool.and_eq_true, decide_eq_true_eq]; omega), wrapI (by omega) (by omega), Int.toNat_natCast] at ht
      refine .inl ⟨⟨n, x, (n : Int), (i : Int) + 1, r, y, bif (mf (.int (x i 1).n)).isSome then c else c + 1, putK mf (.int (x i 1).n) (some (.int (i : Int)))⟩, ht, rfl, ?_, ?_, ?_⟩
      · simp only [dom69, Bool.and_eq_true, decide_eq_true_eq, Nat.ble_eq, true_and]; omega
      · rw [← hR, hp]
        have e1 : ((i : Int) + 1).toNat = i + 1 := by omega
        simp only [fin69, Tr.run, e1, show n - (i + 1) = p by omega, plF]
      · simp only [Int.toNat_natCast]; omega
    · obtain rfl : i = n := by omega
      rw [condF (decide_eq_false (by omega))] at ht
      refine .inr ?_
      simp only [Nat.sub_self, plF] at hR
      subst hR
      exact ⟨by simp, ht⟩
set_option maxRecDepth 4000 in
theorem sum69b : LoopOkT Try.prog (spOf []) (inlOf [78]) extD cP1 lp69 Try.f69.ntmps (bodyOf Try.prog 69 2) (.sum keep69b (stF dec69b dom69b fin69b)) := by
  dsimp only [LoopOkT]
  refine ⟨by decide, by decide, ?_⟩
  refine sum_st dec69b dom69b fin69b vs69b hp69b (fun s => s.n - s.i.toNat) (fun vs H s hs => ?_) (fun s R hd hR => ?_)
  · unfold dec69b at hs
    split at hs
    · obtain rfl := Option.some.inj hs
      exact ⟨rfl, rfl⟩
    · cases hs
  · obtain ⟨n, x, l, i, v, m, pa, c, mf⟩ := s
    simp only [dom69b, Bool.and_eq_true, decide_eq_true_eq, Nat.ble_eq, Nat.beq_eq] at hd
    obtain ⟨h1, h2, rfl, e1, e2, h3⟩ := hd
    obtain rfl := e1.symm
    obtain rfl := e2.symm
    obtain ⟨i, rfl⟩ : ∃ p : Nat, i = (p : Int) := ⟨i.toNat, by omega⟩
    simp only [fin69b, Int.toNat_natCast, Tr.run, Option.some.injEq] at hR
    have ht := loop69b n x (i : Int) pa c mf
    unfold rnd69b at ht
    by_cases hi : i < n
    · obtain ⟨p, hp⟩ : ∃ p, n - i = p + 1 := ⟨n - i - 1, by omega⟩
      rw [Int.toNat_natCast, condT (decide_eq_true (by omega)), condT (by simp only [Bool.and_eq_true, decide_eq_true_eq]; omega), condT (by simp only [Bool.and_eq_true, decide_eq_true_eq]; omega), condT (Nat.beq_refl n), condT (by simp only [Nat.beq_refl, Bool.true_and, Nat.blt_eq]; omega), wrapI (by omega) (by omega)] at ht
      have e4 : ((i : Int) + 1).toNat = i + 1 := by omega
      by_cases hs : (mf (.int (x i 2).n)).isSome = true
      · rw [condT hs, condT (by simp only [Bool.and_eq_true, decide_eq_true_eq]; omega), condT (Nat.beq_refl n), condT (by simp only [Nat.beq_refl, Bool.true_and, Nat.blt_eq]; omega)] at ht
        refine .inl ⟨⟨n, x, (n : Int), (i : Int) + 1, n, n, _, c, mf⟩, ht, rfl, ?_, ?_, ?_⟩
        · simp only [dom69b, Bool.and_eq_true, decide_eq_true_eq, Nat.ble_eq, Nat.beq_eq, true_and]; omega
        · rw [← hR, hp]
          simp only [fin69b, Tr.run, e4, show n - (i + 1) = p by omega, pfF, hs, cond_true]
          rfl
        · simp only [Int.toNat_natCast]; omega
      · rw [condF (by simpa using hs)] at ht
        refine .inl ⟨⟨n, x, (n : Int), (i : Int) + 1, n, n, _, c, mf⟩, ht, rfl, ?_, ?_, ?_⟩
        · simp only [dom69b, Bool.and_eq_true, decide_eq_true_eq, Nat.ble_eq, Nat.beq_eq, true_and]; omega
        · rw [← hR, hp]
          simp only [fin69b, Tr.run, e4, show n - (i + 1) = p by omega, pfF, bnx hs, cond_false]
          rfl
        · simp only [Int.toNat_natCast]; omega
    · obtain rfl : i = n := by omega
      rw [condF (decide_eq_false (by omega))] at ht
      refine .inr ?_
      simp only [Nat.sub_self, pfF] at hR
      subst hR
      exact ⟨by simp, ht⟩
def plN (n : Nat) (x : Nat → Nat → Dt) : Ky → Option Dt := (plF x (n - 0) 0 0 fun _ => none).2
def p0N (n : Nat) (x : Nat → Nat → Dt) : Nat → Nat → Dt := pfF x (plN n x) (n - 0) 0 zeroEl
/-- the parents' places, circles cut -/
def pcN (n : Nat) (x : Nat → Nat → Dt) : Nat → Nat → Dt := ((ctO n (n - 0) 0 (p0N n x) zeroEl).getD (p0N n x, zeroEl)).1
def okP (n : Nat) (x : Nat → Nat → Dt) : Bool := paB n (p0N n x) && (ctO n (n - 0) 0 (p0N n x) zeroEl).isSome
theorem vt69 (n : Nat) (x : Nat → Nat → Dt) : (evFnT Try.prog (spOf []) (inlOf [78]) extD cP1 lp69 Try.f69 [.isz n SS x] [] (castT (.row [.int .i64]))).run =
    (bif true && (true && (decide ((n : Int) = (n : Int)) && n.ble 1000)) then bif true && (decide ((n : Int) ≤ (n : Int)) && decide ((n : Int) ≤ 1000000)) then bif true && (true && (decide ((n : Int) = (n : Int)) && (n.beq n && (n.beq n && n.ble 1000)))) then bif n.beq n then bif true && (decide ((n : Int) ≤ (n : Int)) && decide ((n : Int) ≤ 1000000)) then bif n.beq n then
      bif n.beq n && (n.beq n && (n.beq n && (n.ble 1000 && (true && (true && (decide ((n : Int) = (n : Int)) && okP n x)))))) then bif n.beq n then some (.ret (.isz n [.int .i64] (pcN n x))) else none else none else none else none else none else none else none else none : Option Res) := by kernel_rfl
def t69 : Ent := ⟨69, fun
  | [.isz n [.int .i64, .int .i64, .int .i64, .str, .str, .int .i64, .int .i64, .int .i64, .row [.str, .str], .row [.int .i64, .int .i64]] x] => .chk (Nat.ble n 1000 && okP n x) (.leaf (.ret (.isz n [.int .i64] (pcN n x))))
  | _ => .non⟩
set_option maxRecDepth 10000 in
theorem t69_ok : SpecHolds Try.prog InvD 69 fun a => (t69.2 a).run := by
  refine spec_of_evC Try.prog (spOf []) (inlOf [78]) extD cP1 (fun {β} => cP1_eq (β := β)) sxP stableD mixedD sndP1 Try.func69 (c := codeOf Try.prog 69) (by kernel_rfl) lp69 (fun p hp => by
    have hl : loops (codeOf Try.prog 69) = [(0, bodyOf Try.prog 69 0), (2, bodyOf Try.prog 69 2)] := by kernel_rfl
    rw [hl] at hp
    simp only [List.mem_cons, List.not_mem_nil, or_false] at hp
    rcases hp with rfl | rfl
    · exact sum69
    · exact sum69b) (.row [.int .i64]) fun args r hh => ?_
  simp only [t69] at hh
  split at hh
  · rename_i n x
    obtain ⟨hg, hh⟩ := chk_run hh
    rw [Bool.and_eq_true, Nat.ble_eq] at hg
    obtain ⟨h1, h2⟩ := hg
    refine ⟨by kernel_rfl, (vt69 n x).trans (Eq.trans ?_ hh)⟩
    rw [h2, Nat.beq_refl, decide_eq_true rfl, Nat.ble_eq_true_of_le h1, decide_eq_true (Int.le_refl _), decide_eq_true (show (n : Int) ≤ 1000000 by omega)]
    rfl
  · simp [Tr.run] at hh
end Go.Proofs.Ytfgniheefiefjaa

/- Places of spans put in order by starts: what is compared, the loops' states. Conditions: none beyond the context's. -/
namespace Go.Proofs.Ytfgniheefiefjaa
open Go.Evl Go.RowKit
def cpX (x : Nat → Nat → Dt) (i j : Nat) : Int := cpI (x i 5).n (x i 1).n (x j 5).n (x j 1).n
def ltX (x : Nat → Nat → Dt) (a b : Int) : Bool := decide (cpX x a.toNat b.toNat < 0)
/-- places -/
def odB (r n : Nat) (o : Nat → Nat → Dt) : Bool := (List.range n).all fun k => decide (0 ≤ (o k 0).n) && decide ((o k 0).n < (r : Int))
theorem odB_get {r n : Nat} {o : Nat → Nat → Dt} (h : odB r n o = true) {k : Nat} (hk : k < n) : 0 ≤ (o k 0).n ∧ (o k 0).n < (r : Int) := by
  have := List.all_eq_true.1 h k (List.mem_range.2 hk)
  simpa using this
theorem odB_swap {r n : Nat} {o : Nat → Nat → Dt} (h : odB r n o = true) {a b : Nat} (ha : a < n) (hb : b < n) : odB r n (swI o a b) = true := by
  refine List.all_eq_true.2 fun k hk => ?_
  have h1 := odB_get h (List.mem_range.1 hk)
  have h2 := odB_get h ha
  have h3 := odB_get h hb
  rw [swI_at]
  simp only [Bool.and_eq_true, decide_eq_true_eq]
  split
  · exact h2
  · split
    · exact h3
    · exact h1
theorem odB_sink {r n : Nat} {lt : Int → Int → Bool} : ∀ (j : Nat) (o : Nat → Nat → Dt), j < n → odB r n o = true → odB r n (sinkI lt j o).1 = true
  | 0, o, _, h => h
  | j + 1, o, hj, h => by
    simp only [sinkI]
    split
    · exact odB_sink j _ (by omega) (odB_swap h hj (by omega))
    · exact h
def t71 : Ent := ⟨71, fun
  | [.int .i64 i, .int .i64 j, .ipt [.isz r [.int .i64, .int .i64, .int .i64, .str, .str, .int .i64, .int .i64, .int .i64, .row [.str, .str], .row [.int .i64, .int .i64]] x]] => .chk (decide (0 ≤ i) && decide (i < (r : Int)) && (decide (0 ≤ j) && decide (j < (r : Int)))) (.leaf (.ret (.int .i64 (cpX x i.toNat j.toNat))))
  | _ => .non⟩
theorem sx71 : (mkCx Try.prog (spOf [t50, t51]) (inlOf []) extD).Ok InvD := cx_of [] (by kernel_rfl) (by
  intro p hp
  simp only [List.mem_cons, List.not_mem_nil, or_false] at hp
  rcases hp with rfl | rfl
  · exact t50_ok
  · exact t51_ok)
theorem vt71 (r : Nat) (x : Nat → Nat → Dt) (i j : Int) : evFn Try.prog (spOf [t50, t51]) (inlOf []) extD (cKD [t50, t51] []) (fun _ => .unroll 3) Try.f71 [.int .i64 i, .int .i64 j, .ipt [.isz r SS x]] [] (fun r _ => some r) =
    (bif decide (0 ≤ i) && decide (i < (r : Int)) then bif decide (0 ≤ j) && decide (j < (r : Int)) then bif decide (0 ≤ i) && decide (i < (r : Int)) then bif decide (0 ≤ j) && decide (j < (r : Int)) then RI (cpX x i.toNat j.toNat) else none else none else none else none : Option Res) := by kernel_rfl
theorem t71_ok : SpecHolds Try.prog InvD 71 fun a => (t71.2 a).run := by
  refine specD sx71 Try.func71 (c := codeOf Try.prog 71) (by kernel_rfl) (fun _ => .unroll 3) (fun _ _ => trivial) fun args r hh => ?_
  simp only [t71] at hh
  split at hh
  · rename_i i j r x
    obtain ⟨hg, hh⟩ := chk_run hh
    rw [Bool.and_eq_true] at hg
    refine ⟨by kernel_rfl, tr_ok (by rfl) hh, ?_⟩
    refine (vt71 r x i j).trans (Eq.trans ?_ hh)
    rw [hg.1, hg.2]; rfl
  · simp [Tr.run] at hh
abbrev spQ : Sp := spOf [t69, t71, t74]
abbrev inQ : FuncId → Bool := inlOf [70, 79, 91]
noncomputable abbrev cQ0 {β : Type} : CallK β := callK Try.prog spQ inQ extD attD uD 20
noncomputable abbrev cfQ0 : CallF := callN (mkCx Try.prog spQ inQ extD) attD uD 20
structure S91j where
  v : Nat
  a : Int
  b : Int
  i : Int
  j : Int
  r : Nat
  x : Nat → Nat → Dt
  n : Nat
  o : Nat → Nat → Dt
abbrev keep91j : List Nat := [0, 1, 2, 3, 8, 9]
abbrev vs91j (s : S91j) : List AV := [.own 1 k0 s.v, .int .i64 s.a, .int .i64 s.b, .fn (.func 71) [.ptr 0 0], .int .i64 s.i, .int .i64 s.j]
abbrev hp91j (s : S91j) : List Ob := [.cells [.isz s.r SS s.x] 32, .own 3 [.int .i64] s.n s.o]
def dec91j : List AV → List Ob → Option S91j
  | [.own 1 (.int 0) v, .int .i64 a, .int .i64 b, .fn (.func 71) [.ptr 0 0], .int .i64 i, .int .i64 j], [.cells [.isz r [.int .i64, .int .i64, .int .i64, .str, .str, .int .i64, .int .i64, .int .i64, .row [.str, .str], .row [.int .i64, .int .i64]] x] 32, .own 3 [.int .i64] n o] => some ⟨v, a, b, i, j, r, x, n, o⟩
  | _, _ => none
def dom91j (s : S91j) : Bool := decide (s.a = 0) && (Nat.beq s.v s.n && (decide (0 ≤ s.j) && (decide (s.j < (s.n : Int)) && (Nat.ble s.n 1000 && odB s.r s.n s.o))))
def fin91j (s : S91j) : Tr (Ex × List AV × List Ob) := .leaf (.exit 2, [.own 1 k0 s.v, .int .i64 0, .int .i64 s.b, .fn (.func 71) [.ptr 0 0], .int .i64 s.i, .int .i64 ((sinkI (ltX s.x) s.j.toNat s.o).2 : Int)], [.cells [.isz s.r SS s.x] 32, .own 3 [.int .i64] s.n (sinkI (ltX s.x) s.j.toNat s.o).1])
structure S91o where
  v : Nat
  a : Int
  b : Int
  i : Int
  r : Nat
  x : Nat → Nat → Dt
  n : Nat
  o : Nat → Nat → Dt
abbrev keep91o : List Nat := [0, 1, 2, 3, 8]
abbrev vs91o (s : S91o) : List AV := [.own 1 k0 s.v, .int .i64 s.a, .int .i64 s.b, .fn (.func 71) [.ptr 0 0], .int .i64 s.i]
abbrev hp91o (s : S91o) : List Ob := [.cells [.isz s.r SS s.x] 32, .own 3 [.int .i64] s.n s.o]
def dec91o : List AV → List Ob → Option S91o
  | [.own 1 (.int 0) v, .int .i64 a, .int .i64 b, .fn (.func 71) [.ptr 0 0], .int .i64 i], [.cells [.isz r [.int .i64, .int .i64, .int .i64, .str, .str, .int .i64, .int .i64, .int .i64, .row [.str, .str], .row [.int .i64, .int .i64]] x] 32, .own 3 [.int .i64] n o] => some ⟨v, a, b, i, r, x, n, o⟩
  | _, _ => none
def dom91o (s : S91o) : Bool := decide (s.a = 0) && (Nat.beq s.v s.n && (decide (s.b = (s.n : Int)) && (decide (0 ≤ s.i) && (decide (s.i ≤ (s.n : Int) + 1) && (Nat.ble s.n 1000 && odB s.r s.n s.o)))))
def fin91o (s : S91o) : Tr (Ex × List AV × List Ob) := .leaf (.exit 0, [.own 1 k0 s.v, .int .i64 0, .int .i64 s.b, .fn (.func 71) [.ptr 0 0], .int .i64 ((max s.i.toNat s.n : Nat) : Int)], [.cells [.isz s.r SS s.x] 32, .own 3 [.int .i64] s.n (isI (ltX s.x) (s.n - s.i.toNat) s.i.toNat s.o)])
abbrev lp91 (i : Nat) : LT := bif Nat.beq i 2 then .sum keep91j (stF dec91j dom91j fin91j) else .sum keep91o (stF dec91o dom91o fin91o)
theorem sxQ : (mkCx Try.prog spQ inQ extD).Ok InvD := cx_of [70, 79, 91] (by kernel_rfl) (by
  intro p hp
  simp only [List.mem_cons, List.not_mem_nil, or_false] at hp
  rcases hp with rfl | rfl | rfl
  · exact t69_ok
  · exact t71_ok
  · exact t74_ok)
end Go.Proofs.Ytfgniheefiefjaa

/- Places of spans put in order by starts: the loops' summaries, the layers of calls. Conditions: none beyond the context's. -/
namespace Go.Proofs.Ytfgniheefiefjaa
open Go.Evl Go.RowKit
def rnd91j (r : Nat) (x : Nat → Nat → Dt) (n : Nat) (o : Nat → Nat → Dt) (a b i j : Int) : Option (Ex × List AV × List Ob) := bif decide (j > a) then bif decide (0 ≤ j) && decide (j < (n : Int)) then bif n.beq n then bif n.beq n && j.toNat.blt n then bif decide (0 ≤ IntKind.i64.wrap (j - 1)) && decide (IntKind.i64.wrap (j - 1) < (n : Int)) then bif n.beq n then bif n.beq n && (IntKind.i64.wrap (j - 1)).toNat.blt n then bif decide (0 ≤ (o j.toNat 0).n) && decide ((o j.toNat 0).n < (r : Int)) && (decide (0 ≤ (o (IntKind.i64.wrap (j - 1)).toNat 0).n) && decide ((o (IntKind.i64.wrap (j - 1)).toNat 0).n < (r : Int))) then bif ltX x (o j.toNat 0).n (o (IntKind.i64.wrap (j - 1)).toNat 0).n then bif decide (0 ≤ IntKind.i64.wrap (j - 1)) && decide (IntKind.i64.wrap (j - 1) < (n : Int)) then bif n.beq n then bif n.beq n && (IntKind.i64.wrap (j - 1)).toNat.blt n then bif decide (0 ≤ j) && decide (j < (n : Int)) then bif n.beq n then bif n.beq n && j.toNat.blt n then bif decide (0 ≤ j) && decide (j < (n : Int)) then bif n.beq n then bif n.beq n && j.toNat.blt n then bif decide (0 ≤ IntKind.i64.wrap (j - 1)) && decide (IntKind.i64.wrap (j - 1) < (n : Int)) then bif n.beq n then bif n.beq n && (IntKind.i64.wrap (j - 1)).toNat.blt n then some (.normal, [.own 1 k0 n, .int .i64 a, .int .i64 b, .fn (.func 71) [.ptr 0 0], .int .i64 i, .int .i64 (IntKind.i64.wrap (j - 1))], [.cells [.isz r SS x] 32, .own 3 [.int .i64] n (setEl (setEl o j.toNat 0 [.int (o (IntKind.i64.wrap (j - 1)).toNat 0).n]) (IntKind.i64.wrap (j - 1)).toNat 0 [.int (o j.toNat 0).n])]) else none else none else none else none else none else none else none else none else none else none else none else none else some (.exit 2, [.own 1 k0 n, .int .i64 a, .int .i64 b, .fn (.func 71) [.ptr 0 0], .int .i64 i, .int .i64 j], [.cells [.isz r SS x] 32, .own 3 [.int .i64] n o]) else none else none else none else none else none else none else none else some (.exit 2, [.own 1 k0 n, .int .i64 a, .int .i64 b, .fn (.func 71) [.ptr 0 0], .int .i64 i, .int .i64 j], [.cells [.isz r SS x] 32, .own 3 [.int .i64] n o])
theorem loop91j (r : Nat) (x : Nat → Nat → Dt) (n : Nat) (o : Nat → Nat → Dt) (a b i j : Int) : evC (β := Ex × List AV × List Ob) Try.prog spQ inQ extD cQ0 lp91 (bodyOf Try.prog 91 2) ⟨mkF Try.f91.ntmps keep91j [.own 1 k0 n, .int .i64 a, .int .i64 b, .fn (.func 71) [.ptr 0 0], .int .i64 i, .int .i64 j], [.cells [.isz r SS x] 32, .own 3 [.int .i64] n o]⟩ (fun e st => (cutBack keep91j 2 st).map fun q => (e, q.1, q.2)) = rnd91j r x n o a b i j := by kernel_rfl
def rnd91o (r : Nat) (x : Nat → Nat → Dt) (n : Nat) (o : Nat → Nat → Dt) (a b i : Int) : Option (Ex × List AV × List Ob) := bif decide (i < b) then bif decide (a = 0) && (n.beq n && (decide (0 ≤ i) && (decide (i < (n : Int)) && (n.ble 1000 && odB r n o)))) then some (.normal, [.own 1 k0 n, .int .i64 0, .int .i64 b, .fn (.func 71) [.ptr 0 0], .int .i64 (IntKind.i64.wrap (i + 1))], [.cells [.isz r SS x] 32, .own 3 [.int .i64] n (sinkI (ltX x) i.toNat o).fst]) else none else some (.exit 0, [.own 1 k0 n, .int .i64 a, .int .i64 b, .fn (.func 71) [.ptr 0 0], .int .i64 i], [.cells [.isz r SS x] 32, .own 3 [.int .i64] n o])
theorem loop91o (r : Nat) (x : Nat → Nat → Dt) (n : Nat) (o : Nat → Nat → Dt) (a b i : Int) : evC (β := Ex × List AV × List Ob) Try.prog spQ inQ extD cQ0 lp91 (bodyOf Try.prog 91 0) ⟨mkF Try.f91.ntmps keep91o [.own 1 k0 n, .int .i64 a, .int .i64 b, .fn (.func 71) [.ptr 0 0], .int .i64 i], [.cells [.isz r SS x] 32, .own 3 [.int .i64] n o]⟩ (fun e st => (cutBack keep91o 2 st).map fun q => (e, q.1, q.2)) = rnd91o r x n o a b i := by kernel_rfl
set_option maxRecDepth 10000 in
theorem sum91j : LoopOkT Try.prog spQ inQ extD cQ0 lp91 Try.f91.ntmps (bodyOf Try.prog 91 2) (.sum keep91j (stF dec91j dom91j fin91j)) := by
  dsimp only [LoopOkT]
  refine ⟨by decide, by decide, ?_⟩
  refine sum_st dec91j dom91j fin91j vs91j hp91j (fun s => s.j.toNat) (fun vs H s hs => ?_) (fun s R hd hR => ?_)
  · unfold dec91j at hs
    split at hs
    · obtain rfl := Option.some.inj hs
      exact ⟨rfl, rfl⟩
    · cases hs
  · obtain ⟨v, a, b, i, j, r, x, n, o⟩ := s
    simp only [dom91j, Bool.and_eq_true, decide_eq_true_eq, Nat.ble_eq, Nat.beq_eq] at hd
    obtain ⟨rfl, e1, h0, h1, h2, h3⟩ := hd
    obtain rfl := e1.symm
    obtain ⟨j, rfl⟩ : ∃ p : Nat, j = (p : Int) := ⟨j.toNat, by omega⟩
    simp only [fin91j, Int.toNat_natCast, Tr.run, Option.some.injEq] at hR
    subst hR
    have ht := loop91j r x n o 0 b i (j : Int)
    unfold rnd91j at ht
    cases j with
    | zero =>
      rw [condF (decide_eq_false (by omega))] at ht
      exact .inr ⟨by simp, ht⟩
    | succ j =>
      have hw : IntKind.i64.wrap (((j + 1 : Nat) : Int) - 1) = (j : Int) := by rw [wrapI (by omega) (by omega)]; omega
      have b1 := odB_get h3 (show j + 1 < n by omega)
      have b2 := odB_get h3 (show j < n by omega)
      rw [hw, Int.toNat_natCast, Int.toNat_natCast, condT (decide_eq_true (by omega)), condT (by simp only [Bool.and_eq_true, decide_eq_true_eq]; omega), condT (Nat.beq_refl n), condT (by simp only [Nat.beq_refl, Bool.true_and, Nat.blt_eq]; omega), condT (by simp only [Bool.and_eq_true, decide_eq_true_eq]; omega), condT (Nat.beq_refl n), condT (by simp only [Nat.beq_refl, Bool.true_and, Nat.blt_eq]; omega), condT (by simp only [Bool.and_eq_true, decide_eq_true_eq]; exact ⟨b1, b2⟩)] at ht
      by_cases hl : ltX x (o (j + 1) 0).n (o j 0).n = true
      · rw [condT hl, condT (by simp only [Bool.and_eq_true, decide_eq_true_eq]; omega), condT (Nat.beq_refl n), condT (by simp only [Nat.beq_refl, Bool.true_and, Nat.blt_eq]; omega), condT (by simp only [Bool.and_eq_true, decide_eq_true_eq]; omega), condT (Nat.beq_refl n), condT (by simp only [Nat.beq_refl, Bool.true_and, Nat.blt_eq]; omega), condT (by simp only [Bool.and_eq_true, decide_eq_true_eq]; omega), condT (Nat.beq_refl n), condT (by simp only [Nat.beq_refl, Bool.true_and, Nat.blt_eq]; omega), condT (by simp only [Bool.and_eq_true, decide_eq_true_eq]; omega), condT (Nat.beq_refl n), condT (by simp only [Nat.beq_refl, Bool.true_and, Nat.blt_eq]; omega)] at ht
        refine .inl ⟨⟨n, 0, b, i, (j : Int), r, x, n, swI o (j + 1) j⟩, ht, rfl, ?_, ?_, ?_⟩
        · simp only [dom91j, Bool.and_eq_true, decide_eq_true_eq, Nat.ble_eq, Nat.beq_eq, true_and]
          exact ⟨by omega, by omega, h2, odB_swap h3 (by omega) (by omega)⟩
        · simp only [fin91j, Int.toNat_natCast, Tr.run, sinkI, hl, if_true]
        · simp only [Int.toNat_natCast]; omega
      · rw [condF (bnx hl)] at ht
        refine .inr ⟨by simp, ?_⟩
        simp only [sinkI]
        rw [if_neg hl]
        exact ht
set_option maxRecDepth 10000 in
theorem sum91o : LoopOkT Try.prog spQ inQ extD cQ0 lp91 Try.f91.ntmps (bodyOf Try.prog 91 0) (.sum keep91o (stF dec91o dom91o fin91o)) := by
  dsimp only [LoopOkT]
  refine ⟨by decide, by decide, ?_⟩
  refine sum_st dec91o dom91o fin91o vs91o hp91o (fun s => s.n + 1 - s.i.toNat) (fun vs H s hs => ?_) (fun s R hd hR => ?_)
  · unfold dec91o at hs
    split at hs
    · obtain rfl := Option.some.inj hs
      exact ⟨rfl, rfl⟩
    · cases hs
  · obtain ⟨v, a, b, i, r, x, n, o⟩ := s
    simp only [dom91o, Bool.and_eq_true, decide_eq_true_eq, Nat.ble_eq, Nat.beq_eq] at hd
    obtain ⟨rfl, e1, rfl, h0, h1, h2, h3⟩ := hd
    obtain rfl := e1.symm
    obtain ⟨i, rfl⟩ : ∃ p : Nat, i = (p : Int) := ⟨i.toNat, by omega⟩
    simp only [fin91o, Int.toNat_natCast, Tr.run, Option.some.injEq] at hR
    have ht := loop91o r x n o 0 (n : Int) (i : Int)
    unfold rnd91o at ht
    by_cases hi : i < n
    · rw [condT (decide_eq_true (by omega)), condT (by rw [h3, Nat.ble_eq_true_of_le h2, Nat.beq_refl, decide_eq_true (show (0 : Int) ≤ (i : Int) by omega), decide_eq_true (show (i : Int) < (n : Int) by omega)]; rfl), wrapI (by omega) (by omega), Int.toNat_natCast] at ht
      refine .inl ⟨⟨n, 0, (n : Int), (i : Int) + 1, r, x, n, (sinkI (ltX x) i o).1⟩, ht, rfl, ?_, ?_, ?_⟩
      · simp only [dom91o, Bool.and_eq_true, decide_eq_true_eq, Nat.ble_eq, Nat.beq_eq, true_and]
        exact ⟨by omega, by omega, h2, odB_sink i o hi h3⟩
      · rw [← hR]
        have e4 : ((i : Int) + 1).toNat = i + 1 := by omega
        obtain ⟨q, hq⟩ : ∃ q, n - i = q + 1 := ⟨n - i - 1, by omega⟩
        simp only [fin91o, Tr.run, e4, hq, isI, show n - (i + 1) = q by omega, show max (i + 1) n = n by omega, show max i n = n by omega]
      · simp only [Int.toNat_natCast]; omega
    · rw [condF (decide_eq_false (by omega))] at ht
      refine .inr ?_
      rw [show n - i = 0 by omega, show max i n = i by omega] at hR
      simp only [isI] at hR
      subst hR
      exact ⟨by simp, ht⟩
noncomputable abbrev cQ1 {β : Type} : CallK β := callLK Try.prog spQ inQ extD cQ0 [(91, lp91)]
noncomputable abbrev cQ2 {β : Type} : CallK β := callLK Try.prog spQ inQ extD cQ1 [(79, fun _ => .unroll 3)]
noncomputable abbrev cQ3 {β : Type} : CallK β := callLK Try.prog spQ inQ extD cQ2 [(70, fun _ => .unroll 3)]
noncomputable abbrev cfQ1 : CallF := callLN (mkCx Try.prog spQ inQ extD) cfQ0 [(91, lp91)]
noncomputable abbrev cfQ2 : CallF := callLN (mkCx Try.prog spQ inQ extD) cfQ1 [(79, fun _ => .unroll 3)]
noncomputable abbrev cfQ3 : CallF := callLN (mkCx Try.prog spQ inQ extD) cfQ2 [(70, fun _ => .unroll 3)]
theorem cQ3_eq {β : Type} : CallEq (β := β) cQ3 cfQ3 := callLK_eq _ _ _ _ (callLK_eq _ _ _ _ (callLK_eq _ _ _ _ (callK_eq Try.prog spQ inQ extD attD uD 20) _) _) _
set_option maxRecDepth 10000 in
theorem lpsQ1 : LpsOk (mkCx Try.prog spQ inQ extD) cfQ0 [(91, lp91)] := by
  intro f lp hf fn c hfn hc
  simp only [List.mem_singleton, Prod.mk.injEq] at hf
  obtain ⟨rfl, rfl⟩ := hf
  have e1 : fn = Try.f91 := Option.some.inj (hfn.symm.trans Try.func91)
  subst e1
  have e2 : c = codeOf Try.prog 91 := Option.some.inj (hc.symm.trans (by kernel_rfl))
  subst e2
  refine loopsOk_of Try.prog spQ inQ extD cQ0 (fun {β} => callK_eq (β := β) Try.prog spQ inQ extD attD uD 20) fun p hp => ?_
  have hl : loops (codeOf Try.prog 91) = [(0, bodyOf Try.prog 91 0), (2, bodyOf Try.prog 91 2)] := by kernel_rfl
  rw [hl] at hp
  simp only [List.mem_cons, List.not_mem_nil, or_false] at hp
  rcases hp with rfl | rfl
  · exact sum91o
  · exact sum91j
theorem lps_unrollQ {cf : CallF} {f : FuncId} {k : Nat} : LpsOk (mkCx Try.prog spQ inQ extD) cf [(f, fun _ => .unroll k)] := by
  intro g lp hf fn c _ _
  simp only [List.mem_singleton, Prod.mk.injEq] at hf
  obtain ⟨rfl, rfl⟩ := hf
  intro p _ keep f' h
  cases h
theorem sndQ3 : CallSound Try.prog InvD cfQ3 := callLN_sound sxQ stableD mixedD (callLN_sound sxQ stableD mixedD (callLN_sound sxQ stableD mixedD (callN_sound attD_ok sxQ stableD mixedD 20) lpsQ1) lps_unrollQ) lps_unrollQ
end Go.Proofs.Ytfgniheefiefjaa

/- Families of spans: the loops' states. No condition. -/
namespace Go.Proofs.Ytfgniheefiefjaa
open Go.Evl Go.RowKit
/-- the places in their order -/
def fiF : Nat → Nat → (Nat → Nat → Dt) → Nat → Nat → Dt
  | 0, _, o => o
  | f + 1, i, o => fiF f (i + 1) (stS o i (i : Int))
/-- the key of a span's family -/
def pkF (x pc : Nat → Nat → Dt) (k : Nat) : Int := bif decide ((pc k 0).n ≥ 0) then (x (pc k 0).n.toNat 1).n else 0
def rwE (x : Nat → Nat → Dt) (k : Nat) : Nat → Nat → Dt := dtFs [nmE (x k)]
/-- families by their keys -/
def chF (x pc o : Nat → Nat → Dt) : Nat → Nat → Nat × (Ky → Option Nat) × (Ky → Nat × (Nat → Nat → Dt)) → Nat × (Ky → Option Nat) × (Ky → Nat × (Nat → Nat → Dt))
  | 0, _, s => s
  | f + 1, i, s => chF x pc o f (i + 1) (bif (s.2.1 (.int (pkF x pc (o i 0).n.toNat))).isSome then s.1 else s.1 + 1, putK s.2.1 (.int (pkF x pc (o i 0).n.toNat)) (some ((s.2.2 (.int (pkF x pc (o i 0).n.toNat))).1 + 1)),
      putK s.2.2 (.int (pkF x pc (o i 0).n.toNat)) ((s.2.2 (.int (pkF x pc (o i 0).n.toNat))).1 + 1, appEl (s.2.2 (.int (pkF x pc (o i 0).n.toNat))).2 (s.2.2 (.int (pkF x pc (o i 0).n.toNat))).1 (rwE x (o i 0).n.toNat)))
/-- versions are lengths, and small -/
def verP (i : Nat) (mf : Ky → Option Nat) (rf : Ky → Nat × (Nat → Nat → Dt)) : Prop := ∀ key, (mf key).getD 0 = (rf key).1 ∧ (rf key).1 ≤ i
noncomputable def verB (i : Nat) (mf : Ky → Option Nat) (rf : Ky → Nat × (Nat → Nat → Dt)) : Bool := @decide (verP i mf rf) (Classical.propDecidable _)
theorem verB_iff {i : Nat} {mf : Ky → Option Nat} {rf : Ky → Nat × (Nat → Nat → Dt)} : verB i mf rf = true ↔ verP i mf rf := @decide_eq_true_iff _ (Classical.propDecidable _)
structure S55a where
  r : Nat
  x : Nat → Nat → Dt
  q : Nat
  pc : Nat → Nat → Dt
  v : Nat
  w : Nat
  l : Int
  i : Int
  n : Nat
  o : Nat → Nat → Dt
abbrev keep55a : List Nat := [1, 3, 4, 15, 16, 17]
abbrev vs55a (s : S55a) : List AV := [.ptr 0 0, .isz s.q [.int .i64] s.pc, .own 1 k0 s.v, .own 1 k0 s.w, .int .i64 s.l, .int .i64 s.i]
abbrev hp55a (s : S55a) : List Ob := [.cells [.isz s.r SS s.x] 32, .own 3 [.int .i64] s.n s.o]
def dec55a : List AV → List Ob → Option S55a
  | [.ptr 0 0, .isz q [.int .i64] pc, .own 1 (.int 0) v, .own 1 (.int 0) w, .int .i64 l, .int .i64 i], [.cells [.isz r [.int .i64, .int .i64, .int .i64, .str, .str, .int .i64, .int .i64, .int .i64, .row [.str, .str], .row [.int .i64, .int .i64]] x] 32, .own 3 [.int .i64] n o] => some ⟨r, x, q, pc, v, w, l, i, n, o⟩
  | _, _ => none
def dom55a (s : S55a) : Bool := decide (0 ≤ s.i) && (decide (s.i ≤ (s.n : Int)) && (decide (s.l = (s.n : Int)) && (Nat.beq s.v s.n && (Nat.beq s.w s.n && Nat.ble s.n 1000))))
def fin55a (s : S55a) : Tr (Ex × List AV × List Ob) := .leaf (.exit 0, [.ptr 0 0, .isz s.q [.int .i64] s.pc, .own 1 k0 s.v, .own 1 k0 s.w, .int .i64 s.l, .int .i64 (s.n : Int)], [.cells [.isz s.r SS s.x] 32, .own 3 [.int .i64] s.n (fiF (s.n - s.i.toNat) s.i.toNat s.o)])
structure S55b where
  r : Nat
  x : Nat → Nat → Dt
  q : Nat
  pc : Nat → Nat → Dt
  v : Nat
  l : Int
  i : Int
  n : Nat
  o : Nat → Nat → Dt
  c : Nat
  mf : Ky → Option Nat
  rf : Ky → Nat × (Nat → Nat → Dt)
abbrev keep55b : List Nat := [1, 3, 6, 29, 30, 31]
abbrev vs55b (s : S55b) : List AV := [.ptr 0 0, .isz s.q [.int .i64] s.pc, .map 2, .own 1 k0 s.v, .int .i64 s.l, .int .i64 s.i]
abbrev hp55b (s : S55b) : List Ob := [.cells [.isz s.r SS s.x] 32, .own 3 [.int .i64] s.n s.o, .mapF (.int .i64) s.c (.own 3 s.mf), .rows 25 SS s.rf]
def dec55b : List AV → List Ob → Option S55b
  | [.ptr 0 0, .isz q [.int .i64] pc, .map 2, .own 1 (.int 0) v, .int .i64 l, .int .i64 i], [.cells [.isz r [.int .i64, .int .i64, .int .i64, .str, .str, .int .i64, .int .i64, .int .i64, .row [.str, .str], .row [.int .i64, .int .i64]] x] 32, .own 3 [.int .i64] n o, .mapF (.int .i64) c (.own 3 mf), .rows 25 [.int .i64, .int .i64, .int .i64, .str, .str, .int .i64, .int .i64, .int .i64, .row [.str, .str], .row [.int .i64, .int .i64]] rf] => some ⟨r, x, q, pc, v, l, i, n, o, c, mf, rf⟩
  | _, _ => none
noncomputable def dom55b (s : S55b) : Bool := decide (0 ≤ s.i) && (decide (s.i ≤ (s.n : Int)) && (decide (s.l = (s.n : Int)) && (Nat.beq s.v s.n && (Nat.beq s.q s.n && (Nat.beq s.r s.n && (Nat.ble s.n 1000 && (odB s.n s.n s.o && (paB s.n s.pc && verB s.i.toNat s.mf s.rf))))))))
def fin55b (s : S55b) : Tr (Ex × List AV × List Ob) := .leaf (.exit 2, [.ptr 0 0, .isz s.q [.int .i64] s.pc, .map 2, .own 1 k0 s.v, .int .i64 s.l, .int .i64 (s.n : Int)], [.cells [.isz s.r SS s.x] 32, .own 3 [.int .i64] s.n s.o, .mapF (.int .i64) (chF s.x s.pc s.o (s.n - s.i.toNat) s.i.toNat (s.c, s.mf, s.rf)).1 (.own 3 (chF s.x s.pc s.o (s.n - s.i.toNat) s.i.toNat (s.c, s.mf, s.rf)).2.1), .rows 25 SS (chF s.x s.pc s.o (s.n - s.i.toNat) s.i.toNat (s.c, s.mf, s.rf)).2.2])
noncomputable abbrev lp55 (i : Nat) : LT := bif Nat.beq i 2000009 then .ghost [.mapR 28 (.int .i64) 25 SS] else bif Nat.beq i 2 then .sum keep55b (stF dec55b dom55b fin55b) else .sum keep55a (stF dec55a dom55a fin55a)
end Go.Proofs.Ytfgniheefiefjaa

/- Families of spans: the loops' summaries, the map that is left. Conditions: none beyond the context's. -/
namespace Go.Proofs.Ytfgniheefiefjaa
open Go.Evl Go.RowKit
def rnd55a (r : Nat) (x : Nat → Nat → Dt) (q : Nat) (pc : Nat → Nat → Dt) (i : Int) (n : Nat) (o : Nat → Nat → Dt) : Option (Ex × List AV × List Ob) := bif decide (i < (n : Int)) then bif decide (0 ≤ i) && decide (i < (n : Int)) then bif n.beq n then bif n.beq n && i.toNat.blt n then some (.normal, [.ptr 0 0, .isz q [.int .i64] pc, .own 1 k0 n, .own 1 k0 n, .int .i64 (n : Int), .int .i64 (IntKind.i64.wrap (i + 1))], [.cells [.isz r SS x] 32, .own 3 [.int .i64] n (setEl o i.toNat 0 [.int i])]) else none else none else none else some (.exit 0, [.ptr 0 0, .isz q [.int .i64] pc, .own 1 k0 n, .own 1 k0 n, .int .i64 (n : Int), .int .i64 i], [.cells [.isz r SS x] 32, .own 3 [.int .i64] n o])
theorem loop55a (r : Nat) (x : Nat → Nat → Dt) (q : Nat) (pc : Nat → Nat → Dt) (i : Int) (n : Nat) (o : Nat → Nat → Dt) : evC (β := Ex × List AV × List Ob) Try.prog spQ inQ extD cQ3 lp55 (bodyOf Try.prog 55 0) ⟨mkF Try.f55.ntmps keep55a [.ptr 0 0, .isz q [.int .i64] pc, .own 1 k0 n, .own 1 k0 n, .int .i64 (n : Int), .int .i64 i], [.cells [.isz r SS x] 32, .own 3 [.int .i64] n o]⟩ (fun e st => (cutBack keep55a 2 st).map fun q => (e, q.1, q.2)) = rnd55a r x q pc i n o := by kernel_rfl
set_option maxRecDepth 4000 in
theorem sum55a : LoopOkT Try.prog spQ inQ extD cQ3 lp55 Try.f55.ntmps (bodyOf Try.prog 55 0) (.sum keep55a (stF dec55a dom55a fin55a)) := by
  dsimp only [LoopOkT]
  refine ⟨by decide, by decide, ?_⟩
  refine sum_st dec55a dom55a fin55a vs55a hp55a (fun s => s.n - s.i.toNat) (fun vs H s hs => ?_) (fun s R hd hR => ?_)
  · unfold dec55a at hs
    split at hs
    · obtain rfl := Option.some.inj hs
      exact ⟨rfl, rfl⟩
    · cases hs
  · obtain ⟨r, x, q, pc, v, w, l, i, n, o⟩ := s
    simp only [dom55a, Bool.and_eq_true, decide_eq_true_eq, Nat.ble_eq, Nat.beq_eq] at hd
    obtain ⟨h1, h2, rfl, e1, e2, h3⟩ := hd
    obtain rfl := e1.symm
    obtain rfl := e2.symm
    obtain ⟨i, rfl⟩ : ∃ p : Nat, i = (p : Int) := ⟨i.toNat, by omega⟩
    simp only [fin55a, Int.toNat_natCast, Tr.run, Option.some.injEq] at hR
    have ht := loop55a r x q pc (i : Int) n o
    unfold rnd55a at ht
    by_cases hi : i < n
    · obtain ⟨p, hp⟩ : ∃ p, n - i = p + 1 := ⟨n - i - 1, by omega⟩
      rw [Int.toNat_natCast, condT (decide_eq_true (by omega)), condT (by simp only [Bool.and_eq_true, decide_eq_true_eq]; omega), condT (Nat.beq_refl n), condT (by simp only [Nat.beq_refl, Bool.true_and, Nat.blt_eq]; omega), wrapI (by omega) (by omega)] at ht
      refine .inl ⟨⟨r, x, q, pc, n, n, (n : Int), (i : Int) + 1, n, stS o i (i : Int)⟩, ht, rfl, ?_, ?_, ?_⟩
      · simp only [dom55a, Bool.and_eq_true, decide_eq_true_eq, Nat.ble_eq, Nat.beq_eq, true_and]; omega
      · rw [← hR, hp]
        have e4 : ((i : Int) + 1).toNat = i + 1 := by omega
        simp only [fin55a, Tr.run, e4, show n - (i + 1) = p by omega, fiF]
      · simp only [Int.toNat_natCast]; omega
    · obtain rfl : i = n := by omega
      rw [condF (decide_eq_false (by omega))] at ht
      refine .inr ?_
      simp only [Nat.sub_self, fiF] at hR
      subst hR
      exact ⟨by simp, ht⟩
def nx55 (n : Nat) (x pc : Nat → Nat → Dt) (i : Int) (o : Nat → Nat → Dt) (c : Nat) (mf : Ky → Option Nat) (rf : Ky → Nat × (Nat → Nat → Dt)) (key : Int) : Option (Ex × List AV × List Ob) :=
  bif decide (0 ≤ (o i.toNat 0).n) && decide ((o i.toNat 0).n < (n : Int)) then bif (rf (.int key)).1.beq ((mf (.int key)).getD 0) && ((rf (.int key)).1.ble 1000000 && true) then bif key == key then some (.normal, [.ptr 0 0, .isz n [.int .i64] pc, .map 2, .own 1 k0 n, .int .i64 (n : Int), .int .i64 (IntKind.i64.wrap (i + 1))], [.cells [.isz n SS x] 32, .own 3 [.int .i64] n o, .mapF (.int .i64) (bif (mf (.int key)).isSome then c else c + 1) (.own 3 (putK mf (.int key) (some ((rf (.int key)).1 + 1)))), .rows 25 SS (putK rf (.int key) ((rf (.int key)).1 + 1, appEl (rf (.int key)).2 (rf (.int key)).1 (rwE x (o i.toNat 0).n.toNat)))]) else none else none else none
def rnd55b (n : Nat) (x pc : Nat → Nat → Dt) (i : Int) (o : Nat → Nat → Dt) (c : Nat) (mf : Ky → Option Nat) (rf : Ky → Nat × (Nat → Nat → Dt)) : Option (Ex × List AV × List Ob) :=
  bif decide (i < (n : Int)) then bif decide (0 ≤ i) && decide (i < (n : Int)) then bif n.beq n then bif n.beq n && i.toNat.blt n then bif decide (0 ≤ (o i.toNat 0).n) && decide ((o i.toNat 0).n < (n : Int)) then bif decide ((pc (o i.toNat 0).n.toNat 0).n ≥ 0) then bif decide (0 ≤ (o i.toNat 0).n) && decide ((o i.toNat 0).n < (n : Int)) then
      bif decide (0 ≤ (pc (o i.toNat 0).n.toNat 0).n) && decide ((pc (o i.toNat 0).n.toNat 0).n < (n : Int)) then nx55 n x pc i o c mf rf (x (pc (o i.toNat 0).n.toNat 0).n.toNat 1).n else none else none
    else nx55 n x pc i o c mf rf 0 else none else none else none else none
  else some (.exit 2, [.ptr 0 0, .isz n [.int .i64] pc, .map 2, .own 1 k0 n, .int .i64 (n : Int), .int .i64 i], [.cells [.isz n SS x] 32, .own 3 [.int .i64] n o, .mapF (.int .i64) c (.own 3 mf), .rows 25 SS rf])
theorem loop55b (n : Nat) (x pc : Nat → Nat → Dt) (i : Int) (o : Nat → Nat → Dt) (c : Nat) (mf : Ky → Option Nat) (rf : Ky → Nat × (Nat → Nat → Dt)) : evC (β := Ex × List AV × List Ob) Try.prog spQ inQ extD cQ3 lp55 (bodyOf Try.prog 55 2) ⟨mkF Try.f55.ntmps keep55b [.ptr 0 0, .isz n [.int .i64] pc, .map 2, .own 1 k0 n, .int .i64 (n : Int), .int .i64 i], [.cells [.isz n SS x] 32, .own 3 [.int .i64] n o, .mapF (.int .i64) c (.own 3 mf), .rows 25 SS rf]⟩ (fun e st => (cutBack keep55b 4 st).map fun q => (e, q.1, q.2)) = rnd55b n x pc i o c mf rf := by kernel_rfl
theorem nx55_run {n : Nat} {x pc o : Nat → Nat → Dt} {i : Nat} {c : Nat} {mf : Ky → Option Nat} {rf : Ky → Nat × (Nat → Nat → Dt)} {key : Int} (hi : i < n) (hn : n ≤ 1000) (ho : odB n n o = true) (hv : verP i mf rf) :
    nx55 n x pc (i : Int) o c mf rf key = some (.normal, [.ptr 0 0, .isz n [.int .i64] pc, .map 2, .own 1 k0 n, .int .i64 (n : Int), .int .i64 ((i : Int) + 1)], [.cells [.isz n SS x] 32, .own 3 [.int .i64] n o, .mapF (.int .i64) (bif (mf (.int key)).isSome then c else c + 1) (.own 3 (putK mf (.int key) (some ((rf (.int key)).1 + 1)))), .rows 25 SS (putK rf (.int key) ((rf (.int key)).1 + 1, appEl (rf (.int key)).2 (rf (.int key)).1 (rwE x (o i 0).n.toNat)))]) := by
  unfold nx55
  obtain ⟨v1, v2⟩ := hv (.int key)
  have h1 := odB_get ho hi
  rw [Int.toNat_natCast, wrapI (by omega) (by omega), condT (by simpa using h1), v1, condT (by rw [Nat.beq_refl, Nat.ble_eq_true_of_le (by omega)]; rfl), beq_self_eq_true]
  rfl
theorem rnd55b_run {n : Nat} {x pc o : Nat → Nat → Dt} {i : Nat} {c : Nat} {mf : Ky → Option Nat} {rf : Ky → Nat × (Nat → Nat → Dt)} (hi : i < n) (hn : n ≤ 1000) (ho : odB n n o = true) (hp : paB n pc = true) (hv : verP i mf rf) :
    rnd55b n x pc (i : Int) o c mf rf = some (.normal, [.ptr 0 0, .isz n [.int .i64] pc, .map 2, .own 1 k0 n, .int .i64 (n : Int), .int .i64 ((i : Int) + 1)], [.cells [.isz n SS x] 32, .own 3 [.int .i64] n o, .mapF (.int .i64) (bif (mf (.int (pkF x pc (o i 0).n.toNat))).isSome then c else c + 1) (.own 3 (putK mf (.int (pkF x pc (o i 0).n.toNat)) (some ((rf (.int (pkF x pc (o i 0).n.toNat))).1 + 1)))), .rows 25 SS (putK rf (.int (pkF x pc (o i 0).n.toNat)) ((rf (.int (pkF x pc (o i 0).n.toNat))).1 + 1, appEl (rf (.int (pkF x pc (o i 0).n.toNat))).2 (rf (.int (pkF x pc (o i 0).n.toNat))).1 (rwE x (o i 0).n.toNat)))]) := by
  have h1 := odB_get ho hi
  have h2 := paB_get hp (show (o i 0).n.toNat < n by omega)
  unfold rnd55b pkF
  rw [Int.toNat_natCast, condT (decide_eq_true (by omega)), condT (by simp only [Bool.and_eq_true, decide_eq_true_eq]; omega), condT (Nat.beq_refl n), condT (by simp only [Nat.beq_refl, Bool.true_and, Nat.blt_eq]; omega), condT (by simpa using h1)]
  by_cases h0 : (pc (o i 0).n.toNat 0).n ≥ 0
  · rw [condT (decide_eq_true h0), condT (by simpa using h1), condT (by simp only [Bool.and_eq_true, decide_eq_true_eq]; omega), nx55_run hi hn ho hv, decide_eq_true h0]
    rfl
  · rw [condF (decide_eq_false h0), nx55_run hi hn ho hv, decide_eq_false h0]
    rfl
theorem verP_put {i : Nat} {mf : Ky → Option Nat} {rf : Ky → Nat × (Nat → Nat → Dt)} (h : verP i mf rf) (key : Ky) (el : Nat → Nat → Dt) : verP (i + 1) (putK mf key (some ((rf key).1 + 1))) (putK rf key ((rf key).1 + 1, el)) := by
  intro k
  by_cases e : k = key
  · subst e
    rw [putK_at, putK_at]
    have := h k
    exact ⟨rfl, by simp only; omega⟩
  · rw [putK_ne _ _ e, putK_ne _ _ e]
    have := h k
    exact ⟨this.1, by omega⟩
set_option maxRecDepth 10000 in
theorem sum55b : LoopOkT Try.prog spQ inQ extD cQ3 lp55 Try.f55.ntmps (bodyOf Try.prog 55 2) (.sum keep55b (stF dec55b dom55b fin55b)) := by
  dsimp only [LoopOkT]
  refine ⟨by decide, by decide, ?_⟩
  refine sum_st dec55b dom55b fin55b vs55b hp55b (fun s => s.n - s.i.toNat) (fun vs H s hs => ?_) (fun s R hd hR => ?_)
  · unfold dec55b at hs
    split at hs
    · obtain rfl := Option.some.inj hs
      exact ⟨rfl, rfl⟩
    · cases hs
  · obtain ⟨r, x, q, pc, v, l, i, n, o, c, mf, rf⟩ := s
    simp only [dom55b, Bool.and_eq_true, decide_eq_true_eq, Nat.ble_eq, Nat.beq_eq] at hd
    obtain ⟨h1, h2, rfl, e1, e2, e3, h3, h4, h5, h6⟩ := hd
    obtain rfl := e1.symm
    obtain rfl := e2.symm
    obtain rfl := e3.symm
    obtain ⟨i, rfl⟩ : ∃ p : Nat, i = (p : Int) := ⟨i.toNat, by omega⟩
    rw [Int.toNat_natCast, verB_iff] at h6
    simp only [fin55b, Int.toNat_natCast, Tr.run, Option.some.injEq] at hR
    have ht := loop55b n x pc (i : Int) o c mf rf
    by_cases hi : i < n
    · obtain ⟨p, hp⟩ : ∃ p, n - i = p + 1 := ⟨n - i - 1, by omega⟩
      rw [rnd55b_run hi h3 h4 h5 h6] at ht
      refine .inl ⟨⟨n, x, n, pc, n, (n : Int), (i : Int) + 1, n, o, _, _, _⟩, ht, rfl, ?_, ?_, ?_⟩
      · have e4 : ((i : Int) + 1).toNat = i + 1 := by omega
        simp only [dom55b, e4, Bool.and_eq_true, decide_eq_true_eq, Nat.ble_eq, Nat.beq_eq, true_and]
        exact ⟨by omega, by omega, h3, h4, h5, verB_iff.2 (verP_put h6 _ _)⟩
      · rw [← hR, hp]
        have e4 : ((i : Int) + 1).toNat = i + 1 := by omega
        simp only [fin55b, Tr.run, e4, show n - (i + 1) = p by omega, chF]
        rfl
      · simp only [Int.toNat_natCast]; omega
    · obtain rfl : i = n := by omega
      unfold rnd55b at ht
      rw [condF (decide_eq_false (by omega))] at ht
      refine .inr ?_
      simp only [Nat.sub_self, chF] at hR
      subst hR
      exact ⟨by simp, ht⟩
end Go.Proofs.Ytfgniheefiefjaa

/- Families of spans: what the call leaves. Conditions: none beyond the context's. -/
namespace Go.Proofs.Ytfgniheefiefjaa
open Go.Evl Go.RowKit
/-- the places in order -/
def orN (n : Nat) (x : Nat → Nat → Dt) : Nat → Nat → Dt := isI (ltX x) (n - (IntKind.i64.wrap 1).toNat) (IntKind.i64.wrap 1).toNat (fiF (n - 0) 0 zeroEl)
/-- the families -/
def faN (n : Nat) (x : Nat → Nat → Dt) : Nat × (Ky → Option Nat) × (Ky → Nat × (Nat → Nat → Dt)) := chF x (pcN n x) (orN n x) (n - 0) 0 (0, (fun _ => none), fun _ => (0, zeroEl))
noncomputable def okF (n : Nat) (x : Nat → Nat → Dt) : Bool := okP n x && (odB n n (fiF (n - 0) 0 zeroEl) && (odB n n (orN n x) && (paB n (pcN n x) && verB 0 (fun _ => none) (fun _ => (0, zeroEl)))))
theorem vt55 (n : Nat) (x : Nat → Nat → Dt) : evFn (β := Res × List Ob) Try.prog spQ inQ extD cQ3 lp55 Try.f55 [.isz n SS x] [] (fun r H => some (r, H)) =
    (bif n.ble 1000 && okP n x then bif true && (decide ((n : Int) ≤ (n : Int)) && decide ((n : Int) ≤ 1000000)) then bif n.beq n then bif true && (true && (decide ((n : Int) = (n : Int)) && (n.beq n && (n.beq n && n.ble 1000)))) then bif n.beq n then bif true && decide (IntKind.u64.wrap (n : Int) < 13) then bif decide (IntKind.i64.wrap ((n : Int) - 0) ≤ 12) then
      bif true && (n.beq n && (decide ((n : Int) = (n : Int)) && (true && (decide (IntKind.i64.wrap 1 ≤ (n : Int) + 1) && (n.ble 1000 && odB n n (fiF (n - 0) 0 zeroEl)))))) then bif n.beq n then bif true && (true && (decide ((n : Int) = (n : Int)) && (n.beq n && (n.beq n && (n.beq n && (n.ble 1000 && (odB n n (orN n x) && (paB n (pcN n x) && verB 0 (fun _ => none) (fun _ => (0, zeroEl)))))))))) then
        some (.ret (.map 2), [.cells [.isz n SS x] 32, .own 3 [.int .i64] n (orN n x), .mapF (.int .i64) (faN n x).1 (.own 3 (faN n x).2.1), .rows 25 SS (faN n x).2.2]) else none else none else none
      else bif lnI (IntKind.u64.wrap (n : Int)) == 0 then none else none else none else none else none else none else none else none : Option (Res × List Ob)) := by kernel_rfl
/-- the families as a call leaves them -/
noncomputable def h55 : HEnt := ⟨55, fun
  | [.isz n [.int .i64, .int .i64, .int .i64, .str, .str, .int .i64, .int .i64, .int .i64, .row [.str, .str], .row [.int .i64, .int .i64]] x] => .chk (Nat.ble n 12 && okF n x) (.leaf (.map 2, [.cells [.isz n SS x] 32, .own 3 [.int .i64] n (orN n x), .mapF (.int .i64) (faN n x).1 (.own 3 (faN n x).2.1), .rows 25 SS (faN n x).2.2]))
  | _ => .non⟩
set_option maxRecDepth 10000 in
theorem h55_ok : FrsHolds Try.prog InvD 55 fun a => (h55.2 a).run := by
  intro args v obs h
  unfold h55 at h
  simp only at h
  split at h
  · rename_i n x
    obtain ⟨hg, hh⟩ := chk_run h
    obtain ⟨rfl, rfl⟩ := Prod.mk.inj (Option.some.inj hh)
    rw [Bool.and_eq_true, Nat.ble_eq] at hg
    obtain ⟨h1, h2⟩ := hg
    unfold okF at h2
    simp only [Bool.and_eq_true] at h2
    obtain ⟨g1, g2, g3, g4, g5⟩ := h2
    refine frsAt_of_ev Try.prog spQ inQ extD cQ3 (fun {β} => cQ3_eq (β := β)) sxQ stableD mixedD sndQ3 Try.func55 (c := codeOf Try.prog 55) (by kernel_rfl) lp55 (fun p hp => by
      have hl : loops (codeOf Try.prog 55) = [(0, bodyOf Try.prog 55 0), (2, bodyOf Try.prog 55 2)] := by kernel_rfl
      rw [hl] at hp
      simp only [List.mem_cons, List.not_mem_nil, or_false] at hp
      rcases hp with rfl | rfl
      · exact sum55a
      · exact sum55b) (by kernel_rfl) ((vt55 n x).trans ?_)
    have w1 : IntKind.i64.wrap 1 = 1 := by rw [wrapI (by omega) (by omega)]
    have w2 : IntKind.i64.wrap ((n : Int) - 0) = (n : Int) := by rw [wrapI (by omega) (by omega)]; omega
    have w3 : IntKind.u64.wrap (n : Int) = (n : Int) := by show (n : Int) % 18446744073709551616 = (n : Int); omega
    rw [g1, g2, g3, g4, g5, w1, w2, w3, Nat.beq_refl, Nat.ble_eq_true_of_le (show n ≤ 1000 by omega), decide_eq_true rfl, decide_eq_true (Int.le_refl _), decide_eq_true (show (n : Int) ≤ 1000000 by omega), decide_eq_true (show (n : Int) < 13 by omega), decide_eq_true (show (n : Int) ≤ 12 by omega), decide_eq_true (show (1 : Int) ≤ (n : Int) + 1 by omega)]
    rfl
  · cases h
end Go.Proofs.Ytfgniheefiefjaa

/- The parents' places. Plain laws; no condition. -/
namespace Go.Proofs.Ytfgniheefiefjaa
open Go.Evl Go.RowKit
def PlI (x : Nat → Nat → Dt) (i : Nat) (mf : Ky → Option Dt) : Prop := ∀ v : Int, (mf (.int v) = none ∧ ∀ j, j < i → (x j 1).n ≠ v) ∨ ∃ j, j < i ∧ mf (.int v) = some (.int (j : Int)) ∧ (x j 1).n = v
theorem plF_ok (x : Nat → Nat → Dt) : ∀ f i c mf, PlI x i mf → PlI x (i + f) (plF x f i c mf).2
  | 0, _, _, _, h => h
  | f + 1, i, c, mf, h => by
    simp only [plF]
    rw [show i + (f + 1) = i + 1 + f by omega]
    refine plF_ok x f (i + 1) _ _ fun v => ?_
    by_cases e : v = (x i 1).n
    · subst e
      exact .inr ⟨i, by omega, putK_at _ _ _, rfl⟩
    · rw [putK_ne _ _ (show Ky.int v ≠ Ky.int (x i 1).n from fun z => e (Ky.int.inj z))]
      rcases h v with ⟨h1, h2⟩ | ⟨j, h1, h2, h3⟩
      · refine .inl ⟨h1, fun j hj z => ?_⟩
        by_cases ej : j = i
        · subst ej; exact e z.symm
        · exact h2 j (by omega) z
      · exact .inr ⟨j, by omega, h2, h3⟩
theorem pfF_at (x : Nat → Nat → Dt) (mf : Ky → Option Dt) : ∀ f i pa k, (pfF x mf f i pa k 0).n = if i ≤ k ∧ k < i + f then ((mf (.int (x k 2).n)).map Dt.n).getD (-1) else (pa k 0).n
  | 0, i, pa, k => by rw [if_neg (by omega)]; rfl
  | f + 1, i, pa, k => by
    simp only [pfF]
    rw [pfF_at x mf f (i + 1)]
    by_cases h : i + 1 ≤ k ∧ k < i + 1 + f
    · rw [if_pos h, if_pos (by omega)]
    · rw [if_neg h]
      by_cases e : k = i
      · subst e
        rw [if_pos (by omega)]
        cases hm : mf (.int (x k 2).n) with
        | none => simp [stS_at]
        | some d => simp [stS_at]
      · rw [if_neg (by omega)]
        cases hm : (mf (.int (x i 2).n)).isSome with
        | false => simp [stS_at, e]
        | true => simp [stS_at, e]
/-- parents' places before circles are cut -/
theorem p0_ok (n : Nat) (x : Nat → Nat → Dt) : paB n (p0N n x) = true ∧ ∀ k, k < n → (parO (p0N n x) k = none ∧ ∀ j, j < n → (x j 1).n ≠ (x k 2).n) ∨ ∃ j, j < n ∧ parO (p0N n x) k = some j ∧ (x j 1).n = (x k 2).n := by
  have h := plF_ok x n 0 0 (fun _ => none) fun v => .inl ⟨rfl, fun j hj => by omega⟩
  rw [Nat.zero_add] at h
  have hv : ∀ k, k < n → (p0N n x k 0).n = ((plN n x (.int (x k 2).n)).map Dt.n).getD (-1) := by
    intro k hk
    unfold p0N
    rw [pfF_at, if_pos (by omega)]
  have h2 : ∀ k, k < n → (p0N n x k 0).n = -1 ∧ (∀ j, j < n → (x j 1).n ≠ (x k 2).n) ∨ ∃ j, j < n ∧ (p0N n x k 0).n = (j : Int) ∧ (x j 1).n = (x k 2).n := by
    intro k hk
    rw [hv k hk]
    rcases h (x k 2).n with ⟨e1, e2⟩ | ⟨j, e1, e2, e3⟩
    · left
      refine ⟨?_, e2⟩
      show ((plN n x (.int (x k 2).n)).map Dt.n).getD (-1) = -1
      rw [show plN n x (.int (x k 2).n) = none from e1]; rfl
    · right
      refine ⟨j, e1, ?_, e3⟩
      rw [show plN n x (.int (x k 2).n) = some (.int (j : Int)) from e2]; rfl
  constructor
  · refine List.all_eq_true.2 fun k hk => ?_
    rcases h2 k (List.mem_range.1 hk) with ⟨e, _⟩ | ⟨j, e1, e2, _⟩
    · rw [e]; simp; omega
    · rw [e2]; simp; omega
  · intro k hk
    rcases h2 k hk with ⟨e, e'⟩ | ⟨j, e1, e2, e3⟩
    · exact .inl ⟨by unfold parO; rw [e]; rfl, e'⟩
    · exact .inr ⟨j, e1, by unfold parO; rw [e2, oi_nat], e3⟩
theorem okP_true (n : Nat) (x : Nat → Nat → Dt) : okP n x = true ∧ paB n (pcN n x) = true ∧ (∀ k, k < n → ∃ t, upO (parO (pcN n x)) t k = none) ∧ ∀ k, k < n → parO (pcN n x) k = parO (p0N n x) k ∨ (parO (pcN n x) k = none ∧ (∃ t, upO (parO (p0N n x)) (t + 1) k = some k) ∧ ∀ s j, upO (parO (p0N n x)) s k = some j → k ≤ j) := by
  obtain ⟨hp, _⟩ := p0_ok n x
  obtain ⟨pc, st, e, h1, h2, h3⟩ := cut_all hp
  have e2 : pcN n x = pc := by unfold pcN; rw [Nat.sub_zero, e]; rfl
  rw [e2]
  refine ⟨?_, h1, h2, h3⟩
  unfold okP
  rw [hp, Nat.sub_zero, e]
  rfl
end Go.Proofs.Ytfgniheefiefjaa

/- Spans' places in order: a permutation. Plain laws; no condition. -/
namespace Go.Proofs.Ytfgniheefiefjaa
open Go.Evl Go.RowKit
theorem fiF_at : ∀ f i o k, (fiF f i o k 0).n = if i ≤ k ∧ k < i + f then (k : Int) else (o k 0).n
  | 0, i, o, k => by rw [if_neg (by omega)]; rfl
  | f + 1, i, o, k => by
    simp only [fiF]
    rw [fiF_at f (i + 1), stS_at]
    by_cases h : i + 1 ≤ k ∧ k < i + 1 + f
    · rw [if_pos h, if_pos (by omega)]
    · rw [if_neg h]
      by_cases e : k = i
      · rw [if_pos e, if_pos (by omega), e]
      · rw [if_neg e, if_neg (by omega)]
theorem ltX_iff (x : Nat → Nat → Dt) (a b : Int) : ltX x a b = true ↔ bfL (fun k => (x k.toNat 5).n) (fun k => (x k.toNat 1).n) a b := by
  unfold ltX cpX cpI orI bfL
  rw [decide_eq_true_eq]
  unfold cmI
  simp only
  repeat' split
  all_goals omega
def olN (n : Nat) (x : Nat → Nat → Dt) : List Nat := (List.range n).map fun i => (orN n x i 0).n.toNat
theorem orN_ok (n : Nat) (x : Nat → Nat → Dt) : (liG n fun i => (orN n x i 0).n).Perm ((List.range n).map fun (k : Nat) => (k : Int)) ∧ ∀ a b, a < b → b < n → ¬ bfL (fun k => (x k.toNat 5).n) (fun k => (x k.toNat 1).n) (orN n x b 0).n (orN n x a 0).n := by
  by_cases h0 : n = 0
  · subst h0
    exact ⟨List.Perm.refl _, fun a b _ h => by omega⟩
  · have w : (IntKind.i64.wrap 1).toNat = 1 := by rw [wrapI (by omega) (by omega)]; rfl
    have hv : (fun q => (orN n x q 0).n) = isG (ltX x) (n - 1) 1 fun q => (fiF n 0 zeroEl q 0).n := by
      unfold orN
      rw [w, Nat.sub_zero]
      exact isI_G (ltX x) (n - 1) 1 (fiF n 0 zeroEl)
    obtain ⟨h1, h2⟩ := isG_ok (ltX_iff x) (n := n) (n - 1) 1 (fun q => (fiF n 0 zeroEl q 0).n) (by omega) (by omega) fun a b hab hb => by omega
    rw [← hv] at h1 h2
    refine ⟨h2.trans ?_, fun a b hab hb => h1 a b hab hb⟩
    rw [show (liG n fun q => (fiF n 0 zeroEl q 0).n) = (List.range n).map fun (k : Nat) => (k : Int) from liG_congr fun k hk => by rw [fiF_at, if_pos (by omega)]]
theorem orN_mem {n : Nat} {x : Nat → Nat → Dt} {i : Nat} (hi : i < n) : ∃ k, k < n ∧ (orN n x i 0).n = (k : Int) := by
  have h1 : (orN n x i 0).n ∈ (liG n fun i => (orN n x i 0).n) := List.mem_map_of_mem (List.mem_range.2 hi)
  have h2 := (orN_ok n x).1.mem_iff.1 h1
  rw [List.mem_map] at h2
  obtain ⟨k, hk, e⟩ := h2
  exact ⟨k, List.mem_range.1 hk, e.symm⟩
theorem olN_perm (n : Nat) (x : Nat → Nat → Dt) : (olN n x).Perm (List.range n) := by
  have h := (orN_ok n x).1.map Int.toNat
  unfold liG at h
  rw [List.map_map, List.map_map] at h
  have e : (List.range n).map (Int.toNat ∘ fun (k : Nat) => (k : Int)) = List.range n := by
    rw [show (Int.toNat ∘ fun (k : Nat) => (k : Int)) = id from by funext k; rfl, List.map_id]
  rw [e] at h
  exact h
theorem odB_ord (n : Nat) (x : Nat → Nat → Dt) : odB n n (orN n x) = true ∧ odB n n (fiF (n - 0) 0 zeroEl) = true := by
  constructor
  · refine List.all_eq_true.2 fun i hi => ?_
    obtain ⟨k, hk, e⟩ := orN_mem (x := x) (List.mem_range.1 hi)
    rw [e]; simp; omega
  · refine List.all_eq_true.2 fun i hi => ?_
    have := List.mem_range.1 hi
    rw [fiF_at, if_pos (by omega)]; simp; omega
theorem okF_true (n : Nat) (x : Nat → Nat → Dt) : okF n x = true := by
  obtain ⟨h1, h2, _⟩ := okP_true n x
  obtain ⟨h3, h4⟩ := odB_ord n x
  unfold okF
  rw [h1, h2, h3, h4, verB_iff.2 (show verP 0 (fun _ => none) (fun _ => (0, zeroEl)) from fun key => ⟨rfl, Nat.le_refl _⟩)]
  rfl
end Go.Proofs.Ytfgniheefiefjaa

/- Spans in groups: the loops of both. Conditions: none beyond the context's. -/
namespace Go.Proofs.Ytfgniheefiefjaa
open Go.Evl Go.RowKit
/-- where a run of spans of one trace ends -/
def zF (y : Nat → Nat → Dt) (t : Int) : Nat → Nat → Nat
  | 0, k => k
  | f + 1, k => if (y k 0).n = t then zF y t f (k + 1) else k
theorem zF_le (y : Nat → Nat → Dt) (t : Int) : ∀ f k, k ≤ zF y t f k ∧ zF y t f k ≤ k + f
  | 0, k => ⟨Nat.le_refl _, Nat.le_refl _⟩
  | f + 1, k => by
    simp only [zF]
    have := zF_le y t f (k + 1)
    split <;> omega
theorem zF_gt (y : Nat → Nat → Dt) (i : Nat) : ∀ f, 0 < f → i < zF y (y i 0).n f i
  | f + 1, _ => by
    simp only [zF, if_true]
    have := (zF_le y (y i 0).n f (i + 1)).1
    omega
/-- one group -/
def g1 (k : Nat) (y : Nat → Nat → Dt) : Nat → Nat → Dt := dtFs [[.row k y]]
/-- the groups of spans in order -/
def grF : Nat → Nat → (Nat → Nat → Dt) → Nat → (Nat → Nat → Dt) → Nat × (Nat → Nat → Dt)
  | 0, _, _, g, q => (g, q)
  | f + 1, r, y, g, q => if r = 0 then (g, q) else grF f (r - zF y (y 0 0).n (r - 1) 1) (fun i => y (i + zF y (y 0 0).n (r - 1) 1)) (g + 1) (appEl q g (g1 (zF y (y 0 0).n (r - 1) 1) fun i => y (i + 0)))
theorem grF_fuel : ∀ {f f' r : Nat} {y : Nat → Nat → Dt} {g : Nat} {q : Nat → Nat → Dt}, r ≤ f → r ≤ f' → grF f r y g q = grF f' r y g q
  | 0, f', r, y, g, q, h, _ => by
    obtain rfl : r = 0 := by omega
    cases f' <;> simp [grF]
  | f + 1, 0, r, y, g, q, _, h => by
    obtain rfl : r = 0 := by omega
    simp [grF]
  | f + 1, f' + 1, r, y, g, q, h, h' => by
    simp only [grF]
    split
    · rfl
    · have := (zF_le y (y 0 0).n (r - 1) 1).1
      exact grF_fuel (by omega) (by omega)
/-- the same by the place in the whole row -/
def rgF (n : Nat) (y : Nat → Nat → Dt) : Nat → Nat → Nat → (Nat → Nat → Dt) → Nat × (Nat → Nat → Dt)
  | 0, _, g, q => (g, q)
  | f + 1, i, g, q => if i < n then rgF n y f (zF y (y i 0).n (n - i) i) (g + 1) (appEl q g (g1 (zF y (y i 0).n (n - i) i - i) fun j => y (j + i))) else (g, q)
/-- what is left behind all groups -/
def lastF : Nat → Nat → (Nat → Nat → Dt) → (Nat → Nat → Dt)
  | 0, _, y => y
  | f + 1, r, y => if r = 0 then y else lastF f (r - zF y (y 0 0).n (r - 1) 1) (fun i => y (i + zF y (y 0 0).n (r - 1) 1))
theorem lastF_fuel : ∀ {f f' r : Nat} {y : Nat → Nat → Dt}, r ≤ f → r ≤ f' → lastF f r y = lastF f' r y
  | 0, f', r, y, h, _ => by
    obtain rfl : r = 0 := by omega
    cases f' <;> simp [lastF]
  | f + 1, 0, r, y, _, h => by
    obtain rfl : r = 0 := by omega
    simp [lastF]
  | f + 1, f' + 1, r, y, h, h' => by
    simp only [lastF]
    split
    · rfl
    · have := (zF_le y (y 0 0).n (r - 1) 1).1
      exact lastF_fuel (by omega) (by omega)
theorem rgF_fuel {n : Nat} {y : Nat → Nat → Dt} : ∀ {f f' i g : Nat} {q : Nat → Nat → Dt}, n - i ≤ f → n - i ≤ f' → rgF n y f i g q = rgF n y f' i g q
  | 0, f', i, g, q, h, _ => by
    have : ¬ i < n := by omega
    cases f' <;> simp [rgF, this]
  | f + 1, 0, i, g, q, _, h => by
    have : ¬ i < n := by omega
    simp [rgF, this]
  | f + 1, f' + 1, i, g, q, h, h' => by
    simp only [rgF]
    split
    · have := zF_gt y i (n - i) (by omega)
      exact rgF_fuel (by omega) (by omega)
    · rfl
structure S29i where
  r : Nat
  y : Nat → Nat → Dt
  h : Nat
  tr : Int
  k : Int
  g : Nat
  q : Nat → Nat → Dt
abbrev keep29i : List Nat := [5, 7, 8, 9]
abbrev vs29i (s : S29i) : List AV := [.isz s.r SS s.y, .own 0 k0 s.h, .int .i64 s.tr, .int .i64 s.k]
abbrev hp29i (s : S29i) : List Ob := [.own 32 [.row SS] s.g s.q]
def dec29i : List AV → List Ob → Option S29i
  | [.isz r [.int .i64, .int .i64, .int .i64, .str, .str, .int .i64, .int .i64, .int .i64, .row [.str, .str], .row [.int .i64, .int .i64]] y, .own 0 (.int 0) h, .int .i64 tr, .int .i64 k], [.own 32 [.row [.int .i64, .int .i64, .int .i64, .str, .str, .int .i64, .int .i64, .int .i64, .row [.str, .str], .row [.int .i64, .int .i64]]] g q] => some ⟨r, y, h, tr, k, g, q⟩
  | _, _ => none
def dom29i (s : S29i) : Bool := decide (0 ≤ s.k) && (decide (s.k ≤ (s.r : Int)) && Nat.ble s.r 1000)
def fin29i (s : S29i) : Tr (Ex × List AV × List Ob) := .leaf (.exit 2, [.isz s.r SS s.y, .own 0 k0 s.h, .int .i64 s.tr, .int .i64 ((zF s.y s.tr (s.r - s.k.toNat) s.k.toNat : Nat) : Int)], [.own 32 [.row SS] s.g s.q])
structure S29 where
  r : Nat
  y : Nat → Nat → Dt
  h : Nat
  g : Nat
  q : Nat → Nat → Dt
abbrev keep29 : List Nat := [5, 7]
abbrev vs29 (s : S29) : List AV := [.isz s.r SS s.y, .own 0 k0 s.h]
abbrev hp29 (s : S29) : List Ob := [.own 32 [.row SS] s.g s.q]
def dec29 : List AV → List Ob → Option S29
  | [.isz r [.int .i64, .int .i64, .int .i64, .str, .str, .int .i64, .int .i64, .int .i64, .row [.str, .str], .row [.int .i64, .int .i64]] y, .own 0 (.int 0) h], [.own 32 [.row [.int .i64, .int .i64, .int .i64, .str, .str, .int .i64, .int .i64, .int .i64, .row [.str, .str], .row [.int .i64, .int .i64]]] g q] => some ⟨r, y, h, g, q⟩
  | _, _ => none
def dom29 (s : S29) : Bool := Nat.beq s.h s.g && (Nat.ble s.r 100 && Nat.ble (s.g + s.r) 1000)
def fin29 (s : S29) : Tr (Ex × List AV × List Ob) := .leaf (.exit 0, [.isz 0 SS (lastF s.r s.r s.y), .own 0 k0 (grF s.r s.r s.y s.g s.q).1], [.own 32 [.row SS] (grF s.r s.r s.y s.g s.q).1 (grF s.r s.r s.y s.g s.q).2])
abbrev lp29 (i : Nat) : LT := bif Nat.beq i 2 then .sum keep29i (stF dec29i dom29i fin29i) else bif Nat.beq i 2000007 then .ghost [.nil 7 32 [.row SS]] else .sum keep29 (stF dec29 dom29 fin29)
structure S30i where
  n : Nat
  y : Nat → Nat → Dt
  h : Nat
  i : Int
  k : Int
  g : Nat
  q : Nat → Nat → Dt
abbrev keep30i : List Nat := [5, 7, 8, 9]
abbrev vs30i (s : S30i) : List AV := [.isz s.n SS s.y, .own 0 k0 s.h, .int .i64 s.i, .int .i64 s.k]
abbrev hp30i (s : S30i) : List Ob := [.own 32 [.row SS] s.g s.q]
def dec30i : List AV → List Ob → Option S30i
  | [.isz n [.int .i64, .int .i64, .int .i64, .str, .str, .int .i64, .int .i64, .int .i64, .row [.str, .str], .row [.int .i64, .int .i64]] y, .own 0 (.int 0) h, .int .i64 i, .int .i64 k], [.own 32 [.row [.int .i64, .int .i64, .int .i64, .str, .str, .int .i64, .int .i64, .int .i64, .row [.str, .str], .row [.int .i64, .int .i64]]] g q] => some ⟨n, y, h, i, k, g, q⟩
  | _, _ => none
def dom30i (s : S30i) : Bool := decide (0 ≤ s.i) && (decide (s.i < (s.n : Int)) && (decide (0 ≤ s.k) && (decide (s.k ≤ (s.n : Int)) && Nat.ble s.n 1000)))
def fin30i (s : S30i) : Tr (Ex × List AV × List Ob) := .leaf (.exit 2, [.isz s.n SS s.y, .own 0 k0 s.h, .int .i64 s.i, .int .i64 ((zF s.y (s.y s.i.toNat 0).n (s.n - s.k.toNat) s.k.toNat : Nat) : Int)], [.own 32 [.row SS] s.g s.q])
structure S30 where
  n : Nat
  y : Nat → Nat → Dt
  h : Nat
  i : Int
  g : Nat
  q : Nat → Nat → Dt
abbrev keep30 : List Nat := [5, 7, 8]
abbrev vs30 (s : S30) : List AV := [.isz s.n SS s.y, .own 0 k0 s.h, .int .i64 s.i]
abbrev hp30 (s : S30) : List Ob := [.own 32 [.row SS] s.g s.q]
def dec30 : List AV → List Ob → Option S30
  | [.isz n [.int .i64, .int .i64, .int .i64, .str, .str, .int .i64, .int .i64, .int .i64, .row [.str, .str], .row [.int .i64, .int .i64]] y, .own 0 (.int 0) h, .int .i64 i], [.own 32 [.row [.int .i64, .int .i64, .int .i64, .str, .str, .int .i64, .int .i64, .int .i64, .row [.str, .str], .row [.int .i64, .int .i64]]] g q] => some ⟨n, y, h, i, g, q⟩
  | _, _ => none
def dom30 (s : S30) : Bool := Nat.beq s.h s.g && (decide (0 ≤ s.i) && (decide (s.i ≤ (s.n : Int)) && (Nat.ble s.n 100 && Nat.ble (s.g + (s.n - s.i.toNat)) 1000)))
def fin30 (s : S30) : Tr (Ex × List AV × List Ob) := .leaf (.exit 0, [.isz s.n SS s.y, .own 0 k0 (rgF s.n s.y (s.n - s.i.toNat) s.i.toNat s.g s.q).1, .int .i64 (s.n : Int)], [.own 32 [.row SS] (rgF s.n s.y (s.n - s.i.toNat) s.i.toNat s.g s.q).1 (rgF s.n s.y (s.n - s.i.toNat) s.i.toNat s.g s.q).2])
abbrev lp30 (i : Nat) : LT := bif Nat.beq i 2 then .sum keep30i (stF dec30i dom30i fin30i) else .sum keep30 (stF dec30 dom30 fin30)
end Go.Proofs.Ytfgniheefiefjaa

/- Spans in groups: the loops' summaries. Conditions: none beyond the context's. -/
namespace Go.Proofs.Ytfgniheefiefjaa
open Go.Evl Go.RowKit
def rnd29i (r : Nat) (y : Nat → Nat → Dt) (h : Nat) (tr k : Int) (g : Nat) (q : Nat → Nat → Dt) : Option (Ex × List AV × List Ob) := bif decide (k < ↑r) then bif decide (0 ≤ k) && decide (k < ↑r) then bif (y k.toNat 0).n == tr then some (.normal, [.isz r SS y, .own 0 k0 h, .int .i64 tr, .int .i64 (IntKind.i64.wrap (k + 1))], [.own 32 [.row SS] g q]) else some (.exit 2, [.isz r SS y, .own 0 k0 h, .int .i64 tr, .int .i64 k], [.own 32 [.row SS] g q]) else none else some (.exit 2, [.isz r SS y, .own 0 k0 h, .int .i64 tr, .int .i64 k], [.own 32 [.row SS] g q])
theorem loop29i (r : Nat) (y : Nat → Nat → Dt) (h : Nat) (tr k : Int) (g : Nat) (q : Nat → Nat → Dt) : evC (β := Ex × List AV × List Ob) Try.prog (spOf [t33, t52, t53]) (inlOf []) extD (cKD [t33, t52, t53] []) lp29 (bodyOf Try.prog 29 2) ⟨mkF Try.f29.ntmps keep29i [.isz r SS y, .own 0 k0 h, .int .i64 tr, .int .i64 k], [.own 32 [.row SS] g q]⟩ (fun e st => (cutBack keep29i 1 st).map fun q => (e, q.1, q.2)) = rnd29i r y h tr k g q := by kernel_rfl
def rnd30i (n : Nat) (y : Nat → Nat → Dt) (h : Nat) (i k : Int) (g : Nat) (q : Nat → Nat → Dt) : Option (Ex × List AV × List Ob) := bif decide (k < ↑n) then bif decide (0 ≤ k) && decide (k < ↑n) then bif decide (0 ≤ i) && decide (i < ↑n) then bif (y k.toNat 0).n == (y i.toNat 0).n then some (.normal, [.isz n SS y, .own 0 k0 h, .int .i64 i, .int .i64 (IntKind.i64.wrap (k + 1))], [.own 32 [.row SS] g q]) else some (.exit 2, [.isz n SS y, .own 0 k0 h, .int .i64 i, .int .i64 k], [.own 32 [.row SS] g q]) else none else none else some (.exit 2, [.isz n SS y, .own 0 k0 h, .int .i64 i, .int .i64 k], [.own 32 [.row SS] g q])
theorem loop30i (n : Nat) (y : Nat → Nat → Dt) (h : Nat) (i k : Int) (g : Nat) (q : Nat → Nat → Dt) : evC (β := Ex × List AV × List Ob) Try.prog (spOf [t61, t62]) (inlOf []) extD (cKD [t61, t62] []) lp30 (bodyOf Try.prog 30 2) ⟨mkF Try.f30.ntmps keep30i [.isz n SS y, .own 0 k0 h, .int .i64 i, .int .i64 k], [.own 32 [.row SS] g q]⟩ (fun e st => (cutBack keep30i 1 st).map fun q => (e, q.1, q.2)) = rnd30i n y h i k g q := by kernel_rfl
def nx29 (r : Nat) (y : Nat → Nat → Dt) (g : Nat) (q : Nat → Nat → Dt) (K : Nat) : Option (Ex × List AV × List Ob) :=
  bif decide ((K : Int) > 500) then some (.ret, [.isz r SS y, .own 0 k0 g], [.own 32 [.row SS] g q]) else bif true && (true && decide ((K : Int) ≤ (r : Int))) then bif (K - 0).ble 1000000 then bif g.beq g && (g.ble 1000000 && true) then bif true && (decide ((K : Int) ≤ (r : Int)) && decide ((r : Int) ≤ (r : Int))) then
    some (.normal, [.isz (r - K) SS fun i => y (i + K), .own 0 k0 (g + 1)], [.own 32 [.row SS] (g + 1) (appEl q g (g1 (K - 0) fun i => y (i + 0)))]) else none else none else none else none
def rnd29 (r : Nat) (y : Nat → Nat → Dt) (g : Nat) (q : Nat → Nat → Dt) : Option (Ex × List AV × List Ob) := bif decide ((r : Int) > 0) then bif true && decide (0 < (r : Int)) then bif true && (decide (1 ≤ (r : Int)) && r.ble 1000) then nx29 r y g q (zF y (y 0 0).n (r - 1) 1) else none else none else some (.exit 0, [.isz r SS y, .own 0 k0 g], [.own 32 [.row SS] g q])
theorem loop29 (r : Nat) (y : Nat → Nat → Dt) (g : Nat) (q : Nat → Nat → Dt) : evC (β := Ex × List AV × List Ob) Try.prog (spOf [t33, t52, t53]) (inlOf []) extD (cKD [t33, t52, t53] []) lp29 (bodyOf Try.prog 29 0) ⟨mkF Try.f29.ntmps keep29 [.isz r SS y, .own 0 k0 g], [.own 32 [.row SS] g q]⟩ (fun e st => (cutBack keep29 1 st).map fun q => (e, q.1, q.2)) = rnd29 r y g q := by kernel_rfl
def nx30 (n : Nat) (y : Nat → Nat → Dt) (i : Int) (g : Nat) (q : Nat → Nat → Dt) (K : Nat) : Option (Ex × List AV × List Ob) :=
  bif decide (IntKind.i64.wrap ((K : Int) - i) > 500) then some (.ret, [.isz n SS y, .own 0 k0 g, .int .i64 i], [.own 32 [.row SS] g q]) else bif decide (0 ≤ i) && (decide (i ≤ (K : Int)) && decide ((K : Int) ≤ (n : Int))) then bif g.beq g && (g.ble 1000000 && true) then
    some (.normal, [.isz n SS y, .own 0 k0 (g + 1), .int .i64 (K : Int)], [.own 32 [.row SS] (g + 1) (appEl q g (g1 (K - i.toNat) fun j => y (j + i.toNat)))]) else none else none
def rnd30 (n : Nat) (y : Nat → Nat → Dt) (i : Int) (g : Nat) (q : Nat → Nat → Dt) : Option (Ex × List AV × List Ob) :=
  bif decide (i < (n : Int)) then bif decide (0 ≤ i) && (decide (i < (n : Int)) && (decide (0 ≤ i) && (decide (i ≤ (n : Int)) && n.ble 1000))) then nx30 n y i g q (zF y (y i.toNat 0).n (n - i.toNat) i.toNat) else none else some (.exit 0, [.isz n SS y, .own 0 k0 g, .int .i64 i], [.own 32 [.row SS] g q])
theorem loop30 (n : Nat) (y : Nat → Nat → Dt) (i : Int) (g : Nat) (q : Nat → Nat → Dt) : evC (β := Ex × List AV × List Ob) Try.prog (spOf [t61, t62]) (inlOf []) extD (cKD [t61, t62] []) lp30 (bodyOf Try.prog 30 0) ⟨mkF Try.f30.ntmps keep30 [.isz n SS y, .own 0 k0 g, .int .i64 i], [.own 32 [.row SS] g q]⟩ (fun e st => (cutBack keep30 1 st).map fun q => (e, q.1, q.2)) = rnd30 n y i g q := by kernel_rfl
theorem sum29i : LoopOkT Try.prog (spOf [t33, t52, t53]) (inlOf []) extD (cKD [t33, t52, t53] []) lp29 Try.f29.ntmps (bodyOf Try.prog 29 2) (.sum keep29i (stF dec29i dom29i fin29i)) := by
  dsimp only [LoopOkT]
  refine ⟨by decide, by decide, ?_⟩
  refine sum_st dec29i dom29i fin29i vs29i hp29i (fun s => s.r - s.k.toNat) (fun vs H s hs => ?_) (fun s R hd hR => ?_)
  · unfold dec29i at hs
    split at hs
    · obtain rfl := Option.some.inj hs
      exact ⟨rfl, rfl⟩
    · cases hs
  · obtain ⟨r, y, h, tr, k, g, q⟩ := s
    simp only [dom29i, Bool.and_eq_true, decide_eq_true_eq, Nat.ble_eq] at hd
    obtain ⟨h1, h2, h3⟩ := hd
    obtain ⟨k, rfl⟩ : ∃ p : Nat, k = (p : Int) := ⟨k.toNat, by omega⟩
    simp only [fin29i, Int.toNat_natCast, Tr.run, Option.some.injEq] at hR
    subst hR
    have ht := loop29i r y h tr (k : Int) g q
    unfold rnd29i at ht
    rw [Int.toNat_natCast] at ht
    by_cases hk : k < r
    · obtain ⟨p, hp⟩ : ∃ p, r - k = p + 1 := ⟨r - k - 1, by omega⟩
      rw [condT (decide_eq_true (by omega)), condT (by simp only [Bool.and_eq_true, decide_eq_true_eq] <;> omega)] at ht
      by_cases hc : (y k 0).n = tr
      · rw [condT (by simpa using hc), wrapI (by omega) (by omega)] at ht
        refine .inl ⟨⟨r, y, h, tr, (k : Int) + 1, g, q⟩, ht, rfl, ?_, ?_, ?_⟩
        · simp only [dom29i, Bool.and_eq_true, decide_eq_true_eq, Nat.ble_eq]; omega
        · have e1 : ((k : Int) + 1).toNat = k + 1 := by omega
          simp only [fin29i, Tr.run, e1, hp, zF, hc, if_true, show r - (k + 1) = p by omega]
        · simp only; omega
      · rw [condF (by simpa using hc)] at ht
        refine .inr ⟨by simp, ?_⟩
        rw [hp]
        simp only [zF, hc, if_false]
        exact ht
    · rw [condF (decide_eq_false (by omega))] at ht
      refine .inr ⟨by simp, ?_⟩
      rw [show r - k = 0 by omega]
      exact ht
theorem sum30i : LoopOkT Try.prog (spOf [t61, t62]) (inlOf []) extD (cKD [t61, t62] []) lp30 Try.f30.ntmps (bodyOf Try.prog 30 2) (.sum keep30i (stF dec30i dom30i fin30i)) := by
  dsimp only [LoopOkT]
  refine ⟨by decide, by decide, ?_⟩
  refine sum_st dec30i dom30i fin30i vs30i hp30i (fun s => s.n - s.k.toNat) (fun vs H s hs => ?_) (fun s R hd hR => ?_)
  · unfold dec30i at hs
    split at hs
    · obtain rfl := Option.some.inj hs
      exact ⟨rfl, rfl⟩
    · cases hs
  · obtain ⟨n, y, h, i, k, g, q⟩ := s
    simp only [dom30i, Bool.and_eq_true, decide_eq_true_eq, Nat.ble_eq] at hd
    obtain ⟨h1, h2, h3, h4, h5⟩ := hd
    obtain ⟨k, rfl⟩ : ∃ p : Nat, k = (p : Int) := ⟨k.toNat, by omega⟩
    obtain ⟨i, rfl⟩ : ∃ p : Nat, i = (p : Int) := ⟨i.toNat, by omega⟩
    simp only [fin30i, Int.toNat_natCast, Tr.run, Option.some.injEq] at hR
    subst hR
    have ht := loop30i n y h (i : Int) (k : Int) g q
    unfold rnd30i at ht
    rw [Int.toNat_natCast, Int.toNat_natCast] at ht
    by_cases hk : k < n
    · obtain ⟨p, hp⟩ : ∃ p, n - k = p + 1 := ⟨n - k - 1, by omega⟩
      rw [condT (decide_eq_true (by omega)), condT (by simp only [Bool.and_eq_true, decide_eq_true_eq] <;> omega), condT (by simp only [Bool.and_eq_true, decide_eq_true_eq] <;> omega)] at ht
      by_cases hc : (y k 0).n = (y i 0).n
      · rw [condT (by simpa using hc), wrapI (by omega) (by omega)] at ht
        refine .inl ⟨⟨n, y, h, (i : Int), (k : Int) + 1, g, q⟩, ht, rfl, ?_, ?_, ?_⟩
        · simp only [dom30i, Bool.and_eq_true, decide_eq_true_eq, Nat.ble_eq]; omega
        · have e1 : ((k : Int) + 1).toNat = k + 1 := by omega
          simp only [fin30i, Tr.run, e1, Int.toNat_natCast, hp, zF, hc, if_true, show n - (k + 1) = p by omega]
        · simp only; omega
      · rw [condF (by simpa using hc)] at ht
        refine .inr ⟨by simp, ?_⟩
        rw [hp]
        simp only [zF, hc, if_false]
        exact ht
    · rw [condF (decide_eq_false (by omega))] at ht
      refine .inr ⟨by simp, ?_⟩
      rw [show n - k = 0 by omega]
      exact ht
theorem sum29 : LoopOkT Try.prog (spOf [t33, t52, t53]) (inlOf []) extD (cKD [t33, t52, t53] []) lp29 Try.f29.ntmps (bodyOf Try.prog 29 0) (.sum keep29 (stF dec29 dom29 fin29)) := by
  dsimp only [LoopOkT]
  refine ⟨by decide, by decide, ?_⟩
  refine sum_st dec29 dom29 fin29 vs29 hp29 (fun s => s.r) (fun vs H s hs => ?_) (fun s R hd hR => ?_)
  · unfold dec29 at hs
    split at hs
    · obtain rfl := Option.some.inj hs
      exact ⟨rfl, rfl⟩
    · cases hs
  · obtain ⟨r, y, h, g, q⟩ := s
    simp only [dom29, Bool.and_eq_true, Nat.ble_eq, Nat.beq_eq] at hd
    obtain ⟨rfl, h1, h2⟩ := hd
    simp only [fin29, Tr.run, Option.some.injEq] at hR
    have ht := loop29 r y h q
    unfold rnd29 at ht
    by_cases hr : 0 < r
    · obtain ⟨p, rfl⟩ : ∃ p, r = p + 1 := ⟨r - 1, by omega⟩
      obtain ⟨z1, z2⟩ := zF_le y (y 0 0).n (p + 1 - 1) 1
      rw [condT (decide_eq_true (by omega)), condT (by simp only [Bool.true_and, decide_eq_true_eq] <;> omega), condT (by simp only [Bool.and_eq_true, Bool.true_and, decide_eq_true_eq, Nat.ble_eq] <;> omega)] at ht
      generalize hK : zF y (y 0 0).n (p + 1 - 1) 1 = K at ht z1 z2
      unfold nx29 at ht
      rw [condF (decide_eq_false (by omega)), condT (by simp only [Bool.true_and, decide_eq_true_eq] <;> omega), condT (by simp only [Nat.ble_eq] <;> omega), condT (by simp only [Bool.true_and, Bool.and_true, Nat.ble_eq, Nat.beq_refl] <;> omega), condT (by simp only [Bool.and_eq_true, Bool.true_and, decide_eq_true_eq] <;> omega)] at ht
      refine .inl ⟨⟨p + 1 - K, fun i => y (i + K), h + 1, h + 1, appEl q h (g1 (K - 0) fun i => y (i + 0))⟩, ht, rfl, ?_, ?_, ?_⟩
      · simp only [dom29, Bool.and_eq_true, Nat.ble_eq, Nat.beq_eq, true_and]; omega
      · rw [← hR]
        simp only [fin29, Tr.run]
        simp only [grF, lastF, hK, Nat.sub_zero]
        rw [if_neg (by omega), if_neg (by omega), grF_fuel (f := p) (f' := p + 1 - K) (by omega) (Nat.le_refl _), lastF_fuel (f := p) (f' := p + 1 - K) (by omega) (Nat.le_refl _)]
      · simp only; omega
    · obtain rfl : r = 0 := by omega
      rw [condF (decide_eq_false (by omega))] at ht
      refine .inr ?_
      simp only [grF, lastF] at hR
      subst hR
      exact ⟨by simp, ht⟩
theorem sum30 : LoopOkT Try.prog (spOf [t61, t62]) (inlOf []) extD (cKD [t61, t62] []) lp30 Try.f30.ntmps (bodyOf Try.prog 30 0) (.sum keep30 (stF dec30 dom30 fin30)) := by
  dsimp only [LoopOkT]
  refine ⟨by decide, by decide, ?_⟩
  refine sum_st dec30 dom30 fin30 vs30 hp30 (fun s => s.n - s.i.toNat) (fun vs H s hs => ?_) (fun s R hd hR => ?_)
  · unfold dec30 at hs
    split at hs
    · obtain rfl := Option.some.inj hs
      exact ⟨rfl, rfl⟩
    · cases hs
  · obtain ⟨n, y, h, i, g, q⟩ := s
    simp only [dom30, Bool.and_eq_true, decide_eq_true_eq, Nat.ble_eq, Nat.beq_eq] at hd
    obtain ⟨rfl, h1, h2, h3, h4⟩ := hd
    obtain ⟨i, rfl⟩ : ∃ p : Nat, i = (p : Int) := ⟨i.toNat, by omega⟩
    rw [Int.toNat_natCast] at h4
    simp only [fin30, Int.toNat_natCast, Tr.run, Option.some.injEq] at hR
    have ht := loop30 n y (i : Int) h q
    unfold rnd30 at ht
    rw [Int.toNat_natCast] at ht
    by_cases hi : i < n
    · obtain ⟨p, hp⟩ : ∃ p, n - i = p + 1 := ⟨n - i - 1, by omega⟩
      obtain ⟨z1, z2⟩ := zF_le y (y i 0).n (n - i) i
      have z3 := zF_gt y i (n - i) (by omega)
      rw [condT (decide_eq_true (by omega)), condT (by simp only [Bool.and_eq_true, decide_eq_true_eq, Nat.ble_eq] <;> omega)] at ht
      generalize hK : zF y (y i 0).n (n - i) i = K at ht z1 z2 z3
      unfold nx30 at ht
      rw [wrapI (by omega) (by omega), condF (decide_eq_false (by omega)), condT (by simp only [Bool.and_eq_true, decide_eq_true_eq] <;> omega), condT (by simp only [Bool.true_and, Bool.and_true, Nat.ble_eq, Nat.beq_refl] <;> omega), Int.toNat_natCast] at ht
      refine .inl ⟨⟨n, y, h + 1, (K : Int), h + 1, appEl q h (g1 (K - i) fun j => y (j + i))⟩, ht, rfl, ?_, ?_, ?_⟩
      · simp only [dom30, Int.toNat_natCast, Bool.and_eq_true, decide_eq_true_eq, Nat.ble_eq, Nat.beq_eq, true_and]; omega
      · rw [← hR]
        simp only [fin30, Tr.run, Int.toNat_natCast]
        rw [show rgF n y (n - i) i h q = rgF n y (p + 1) i h q by rw [hp]]
        simp only [rgF, hK]
        rw [if_pos hi, rgF_fuel (f := p) (f' := n - K) (by omega) (Nat.le_refl _)]
      · simp only [Int.toNat_natCast]; omega
    · rw [condF (decide_eq_false (by omega))] at ht
      obtain rfl : i = n := by omega
      refine .inr ?_
      simp only [Nat.sub_self, rgF] at hR
      subst hR
      exact ⟨by simp, ht⟩
end Go.Proofs.Ytfgniheefiefjaa

/- Spans in groups: the contracts of both; groups compared. Conditions: none beyond the context's. -/
namespace Go.Proofs.Ytfgniheefiefjaa
open Go.Evl Go.RowKit
theorem sx29 : (mkCx Try.prog (spOf [t33, t52, t53]) (inlOf []) extD).Ok InvD := cx_of [] (by kernel_rfl) (by
  intro p hp
  simp only [List.mem_cons, List.not_mem_nil, or_false] at hp
  rcases hp with rfl | rfl | rfl
  · exact t33_ok
  · exact t52_ok
  · exact t53_ok)
theorem sx30 : (mkCx Try.prog (spOf [t61, t62]) (inlOf []) extD).Ok InvD := cx_of [] (by kernel_rfl) (by
  intro p hp
  simp only [List.mem_cons, List.not_mem_nil, or_false] at hp
  rcases hp with rfl | rfl
  · exact t61_ok
  · exact t62_ok)
theorem sx31 : (mkCx Try.prog (spOf [t32]) (inlOf []) extD).Ok InvD := cx_of [] (by kernel_rfl) (by
  intro p hp
  simp only [List.mem_cons, List.not_mem_nil, or_false] at hp
  rcases hp with rfl
  · exact t32_ok)

def zR : Nat → Nat → Dt := fun _ _ => .int 0
/-- the program's: error, number of groups, groups -/
def gpE (n : Nat) (x : Nat → Nat → Dt) : Int := bif caE n x != 0 then caE n x else bif dfB n (soF n x) then 0 else 6
def gpG (n : Nat) (x : Nat → Nat → Dt) : Nat × (Nat → Nat → Dt) := bif caE n x != 0 then (0, zR) else bif dfB n (soF n x) then grF n n (soF n x) 0 zeroEl else (0, zR)
/-- the reference's -/
def gqE (n : Nat) (x : Nat → Nat → Dt) : Int := bif caE n x != 0 then caE n x else bif (rsF x n 0 zeroEl).1 then 0 else 6
def gqG (n : Nat) (x : Nat → Nat → Dt) : Nat × (Nat → Nat → Dt) := bif caE n x != 0 then (0, zR) else bif (rsF x n 0 zeroEl).1 then rgF (rsF x n 0 zeroEl).2.1 (rsF x n 0 zeroEl).2.2 ((rsF x n 0 zeroEl).2.1 - 0) 0 0 zeroEl else (0, zR)
theorem vt29 (n : Nat) (x : Nat → Nat → Dt) : (evFnT Try.prog (spOf [t33, t52, t53]) (inlOf []) extD (cKD [t33, t52, t53] []) lp29 Try.f29 [.isz n SS x] [] (castT (.tup [.row [.row SS], .any]))).run =
    (bif n.ble 9223372036854775807 then bif caE n x != 0 then some (.ret (.tup [.isz 0 [.row SS] zR, .int .i64 (caE n x)])) else bif n.ble 12 then bif dfB n (soF n x) then bif true && (n.ble 100 && (0 + n).ble 1000) then
      bif (grF n n (soF n x) 0 zeroEl).1.beq (grF n n (soF n x) 0 zeroEl).1 && true then some (.ret (.tup [.isz (grF n n (soF n x) 0 zeroEl).1 [.row SS] (grF n n (soF n x) 0 zeroEl).2, .int .i64 0])) else none else none
      else some (.ret (.tup [.isz 0 [.row SS] zR, .int .i64 6])) else none else none : Option Res) := by kernel_rfl
theorem vt30 (n : Nat) (x : Nat → Nat → Dt) : (evFnT Try.prog (spOf [t61, t62]) (inlOf []) extD (cKD [t61, t62] []) lp30 Try.f30 [.isz n SS x] [] (castT (.tup [.row [.row SS], .any]))).run =
    (bif n.ble 9223372036854775807 && ckB n x then bif caE n x != 0 then some (.ret (.tup [.isz 0 [.row SS] zR, .int .i64 (caE n x)])) else bif n.ble 100 then bif (rsF x n 0 zeroEl).1 then bif true && (true && (true && ((rsF x n 0 zeroEl).2.1.ble 100 && (0 + ((rsF x n 0 zeroEl).2.1 - 0)).ble 1000))) then
      bif (rgF (rsF x n 0 zeroEl).2.1 (rsF x n 0 zeroEl).2.2 ((rsF x n 0 zeroEl).2.1 - 0) 0 0 zeroEl).1.beq (rgF (rsF x n 0 zeroEl).2.1 (rsF x n 0 zeroEl).2.2 ((rsF x n 0 zeroEl).2.1 - 0) 0 0 zeroEl).1 && true then
        some (.ret (.tup [.isz (rgF (rsF x n 0 zeroEl).2.1 (rsF x n 0 zeroEl).2.2 ((rsF x n 0 zeroEl).2.1 - 0) 0 0 zeroEl).1 [.row SS] (rgF (rsF x n 0 zeroEl).2.1 (rsF x n 0 zeroEl).2.2 ((rsF x n 0 zeroEl).2.1 - 0) 0 0 zeroEl).2, .int .i64 0])) else none else none
      else some (.ret (.tup [.isz 0 [.row SS] zR, .int .i64 6])) else none else none : Option Res) := by kernel_rfl
def t29 : Ent := ⟨29, fun
  | [.isz n [.int .i64, .int .i64, .int .i64, .str, .str, .int .i64, .int .i64, .int .i64, .row [.str, .str], .row [.int .i64, .int .i64]] x] => .chk (Nat.ble n 12) (.leaf (.ret (.tup [.isz (gpG n x).1 [.row SS] (gpG n x).2, .int .i64 (gpE n x)])))
  | _ => .non⟩
def t30 : Ent := ⟨30, fun
  | [.isz n [.int .i64, .int .i64, .int .i64, .str, .str, .int .i64, .int .i64, .int .i64, .row [.str, .str], .row [.int .i64, .int .i64]] x] => .chk (Nat.ble n 12 && ckB n x) (.leaf (.ret (.tup [.isz (gqG n x).1 [.row SS] (gqG n x).2, .int .i64 (gqE n x)])))
  | _ => .non⟩
theorem rs_len {x : Nat → Nat → Dt} : ∀ (f i : Nat) (y : Nat → Nat → Dt), (rsF x f i y).2.1 ≤ i + f
  | 0, i, y => Nat.le_refl _
  | f + 1, i, y => by
    simp only [rsF]
    split
    · simp only; omega
    · have := rs_len (x := x) f (i + 1) (insR y (skF y x i i 0) (x i))
      omega
set_option maxRecDepth 10000 in
theorem t29_ok : SpecHolds Try.prog InvD 29 fun a => (t29.2 a).run := by
  refine spec_of_evC Try.prog (spOf [t33, t52, t53]) (inlOf []) extD (cKD [t33, t52, t53] []) (fun {β} => callK_eq (β := β) Try.prog _ _ extD attD uD 20) sx29 stableD mixedD (callN_sound attD_ok sx29 stableD mixedD 20) Try.func29 (c := codeOf Try.prog 29) (by kernel_rfl) lp29 (fun p hp => by
    have hl : loops (codeOf Try.prog 29) = [(0, bodyOf Try.prog 29 0), (2, bodyOf Try.prog 29 2)] := by kernel_rfl
    rw [hl] at hp
    simp only [List.mem_cons, List.not_mem_nil, or_false] at hp
    rcases hp with rfl | rfl
    · exact sum29
    · exact sum29i) (.tup [.row [.row SS], .any]) fun args r hh => ?_
  simp only [t29] at hh
  split at hh
  · rename_i n x
    obtain ⟨hg, hh⟩ := chk_run hh
    rw [Nat.ble_eq] at hg
    refine ⟨by kernel_rfl, (vt29 n x).trans (Eq.trans ?_ hh)⟩
    unfold gpG gpE
    rw [condT (by rw [Nat.ble_eq]; omega)]
    cases caE n x != 0 with
    | true => rfl
    | false =>
      rw [cond_false, condT (by rw [Nat.ble_eq]; omega)]
      cases dfB n (soF n x) with
      | false => rfl
      | true =>
        rw [cond_true, condT (by simp only [Bool.true_and, Nat.zero_add, Bool.and_eq_true, Nat.ble_eq]; omega), condT (by rw [Nat.beq_refl]; rfl)]
        rfl
  · simp [Tr.run] at hh
set_option maxRecDepth 10000 in
theorem t30_ok : SpecHolds Try.prog InvD 30 fun a => (t30.2 a).run := by
  refine spec_of_evC Try.prog (spOf [t61, t62]) (inlOf []) extD (cKD [t61, t62] []) (fun {β} => callK_eq (β := β) Try.prog _ _ extD attD uD 20) sx30 stableD mixedD (callN_sound attD_ok sx30 stableD mixedD 20) Try.func30 (c := codeOf Try.prog 30) (by kernel_rfl) lp30 (fun p hp => by
    have hl : loops (codeOf Try.prog 30) = [(0, bodyOf Try.prog 30 0), (2, bodyOf Try.prog 30 2)] := by kernel_rfl
    rw [hl] at hp
    simp only [List.mem_cons, List.not_mem_nil, or_false] at hp
    rcases hp with rfl | rfl
    · exact sum30
    · exact sum30i) (.tup [.row [.row SS], .any]) fun args r hh => ?_
  simp only [t30] at hh
  split at hh
  · rename_i n x
    obtain ⟨hg, hh⟩ := chk_run hh
    rw [Bool.and_eq_true, Nat.ble_eq] at hg
    refine ⟨by kernel_rfl, (vt30 n x).trans (Eq.trans ?_ hh)⟩
    have hle := rs_len (x := x) n 0 zeroEl
    unfold gqG gqE
    rw [condT (by rw [hg.2, Bool.and_true, Nat.ble_eq]; omega)]
    cases caE n x != 0 with
    | true => rfl
    | false =>
      rw [cond_false, condT (by rw [Nat.ble_eq]; omega)]
      cases (rsF x n 0 zeroEl).1 with
      | false => rfl
      | true =>
        rw [cond_true, condT (by simp only [Bool.true_and, Nat.zero_add, Bool.and_eq_true, Nat.ble_eq]; omega), condT (by rw [Nat.beq_refl]; rfl)]
        rfl
  · simp [Tr.run] at hh
/-- groups that read alike -/
def gaB (n : Nat) (x : Nat → Nat → Dt) (m : Nat) (y : Nat → Nat → Dt) : Bool := Nat.beq n m && (List.range n).all fun k => Nat.ble (x k 0).len 1000000 && erB (x k 0).len (x k 0).el (y k 0).len (y k 0).el
theorem gaB_get {n m : Nat} {x y : Nat → Nat → Dt} (h : gaB n x m y = true) : n = m ∧ ∀ k, k < n → Nat.ble (x k 0).len 1000000 = true ∧ erB (x k 0).len (x k 0).el (y k 0).len (y k 0).el = true := by
  unfold gaB at h
  rw [Bool.and_eq_true] at h
  exact ⟨by simpa using h.1, fun k hk => by simpa using List.all_eq_true.1 h.2 k (List.mem_range.2 hk)⟩
structure S31 where
  n : Nat
  x : Nat → Nat → Dt
  m : Nat
  y : Nat → Nat → Dt
  z : Bool
  l : Int
  i : Int
abbrev keep31 : List Nat := [1, 2, 6, 15, 16, 17]
abbrev vs31 (s : S31) : List AV := [.isz s.m [.row SS] s.y, .fn (.func 32) [], .bool s.z, .isz s.n [.row SS] s.x, .int .i64 s.l, .int .i64 s.i]
abbrev hp31 (_ : S31) : List Ob := []
def dec31 : List AV → List Ob → Option S31
  | [.isz m [.row [.int .i64, .int .i64, .int .i64, .str, .str, .int .i64, .int .i64, .int .i64, .row [.str, .str], .row [.int .i64, .int .i64]]] y, .fn (.func 32) [], .bool z, .isz n [.row [.int .i64, .int .i64, .int .i64, .str, .str, .int .i64, .int .i64, .int .i64, .row [.str, .str], .row [.int .i64, .int .i64]]] x, .int .i64 l, .int .i64 i], [] => some ⟨n, x, m, y, z, l, i⟩
  | _, _ => none
def dom31 (s : S31) : Bool := decide (0 ≤ s.i) && (decide (s.i ≤ (s.n : Int)) && (decide (s.l = (s.n : Int)) && (Nat.ble s.n 1000000 && gaB s.n s.x s.m s.y)))
def fin31 (s : S31) : Tr (Ex × List AV × List Ob) := .leaf (.exit 0, [.isz s.m [.row SS] s.y, .fn (.func 32) [], .bool s.z, .isz s.n [.row SS] s.x, .int .i64 s.l, .int .i64 (s.n : Int)], [])
abbrev lp31 (_ : Nat) : LT := .sum keep31 (stF dec31 dom31 fin31)
def rnd31 (n : Nat) (x : Nat → Nat → Dt) (m : Nat) (y : Nat → Nat → Dt) (z : Bool) (i : Int) : Option (Ex × List AV × List Ob) := bif decide (i < (n : Int)) then bif decide (0 ≤ i) && decide (i < (n : Int)) then bif decide (0 ≤ i) && decide (i < (m : Int)) then bif (x i.toNat 0).len.ble 1000000 && erB (x i.toNat 0).len (x i.toNat 0).el (y i.toNat 0).len (y i.toNat 0).el then
  some (.normal, [.isz m [.row SS] y, .fn (.func 32) [], .bool z, .isz n [.row SS] x, .int .i64 (n : Int), .int .i64 (IntKind.i64.wrap (i + 1))], []) else none else none else none else some (.exit 0, [.isz m [.row SS] y, .fn (.func 32) [], .bool z, .isz n [.row SS] x, .int .i64 (n : Int), .int .i64 i], [])
theorem loop31 (n : Nat) (x : Nat → Nat → Dt) (m : Nat) (y : Nat → Nat → Dt) (z : Bool) (i : Int) : evC (β := Ex × List AV × List Ob) Try.prog (spOf [t32]) (inlOf []) extD (cKD [t32] []) lp31 (bodyOf Try.prog 31 0) ⟨mkF Try.f31.ntmps keep31 [.isz m [.row SS] y, .fn (.func 32) [], .bool z, .isz n [.row SS] x, .int .i64 (n : Int), .int .i64 i], []⟩ (fun e st => (cutBack keep31 0 st).map fun q => (e, q.1, q.2)) = rnd31 n x m y z i := by kernel_rfl
theorem sum31 : LoopOkT Try.prog (spOf [t32]) (inlOf []) extD (cKD [t32] []) lp31 Try.f31.ntmps (bodyOf Try.prog 31 0) (.sum keep31 (stF dec31 dom31 fin31)) := by
  dsimp only [LoopOkT]
  refine ⟨by decide, by decide, ?_⟩
  refine sum_st dec31 dom31 fin31 vs31 hp31 (fun s => s.n - s.i.toNat) (fun vs H s hs => ?_) (fun s R hd hR => ?_)
  · unfold dec31 at hs
    split at hs
    · obtain rfl := Option.some.inj hs
      exact ⟨rfl, rfl⟩
    · cases hs
  · obtain ⟨n, x, m, y, z, l, i⟩ := s
    simp only [dom31, Bool.and_eq_true, decide_eq_true_eq, Nat.ble_eq] at hd
    obtain ⟨h1, h2, rfl, h4, h5⟩ := hd
    obtain ⟨i, rfl⟩ : ∃ p : Nat, i = (p : Int) := ⟨i.toNat, by omega⟩
    simp only [fin31, Tr.run, Option.some.injEq] at hR
    subst hR
    have ht := loop31 n x m y z (i : Int)
    unfold rnd31 at ht
    rw [Int.toNat_natCast] at ht
    obtain ⟨rfl, hall⟩ := gaB_get h5
    by_cases hi : i < n
    · obtain ⟨a1, a2⟩ := hall i hi
      rw [condT (decide_eq_true (by omega)), condT (by simp only [Bool.and_eq_true, decide_eq_true_eq] <;> omega), condT (by simp only [Bool.and_eq_true, decide_eq_true_eq] <;> omega), condT (by rw [a1, a2]; rfl), wrapI (by omega) (by omega)] at ht
      refine .inl ⟨⟨n, x, n, y, z, (n : Int), (i : Int) + 1⟩, ht, rfl, ?_, rfl, ?_⟩
      · simp only [dom31, Bool.and_eq_true, decide_eq_true_eq, Nat.ble_eq, true_and]
        exact ⟨by omega, by omega, h4, h5⟩
      · simp only [Int.toNat_natCast]; omega
    · rw [condF (decide_eq_false (by omega))] at ht
      obtain rfl : i = n := by omega
      exact .inr ⟨by simp, ht⟩
def t31 : Ent := ⟨31, fun
  | [.isz n [.row [.int .i64, .int .i64, .int .i64, .str, .str, .int .i64, .int .i64, .int .i64, .row [.str, .str], .row [.int .i64, .int .i64]]] x, .isz m [.row [.int .i64, .int .i64, .int .i64, .str, .str, .int .i64, .int .i64, .int .i64, .row [.str, .str], .row [.int .i64, .int .i64]]] y, .fn (.func 32) []] => .chk (Nat.ble n 1000000 && gaB n x m y) (.leaf (.ret (.bool true)))
  | _ => .non⟩
theorem vt31 (n : Nat) (x : Nat → Nat → Dt) (m : Nat) (y : Nat → Nat → Dt) : evFn Try.prog (spOf [t32]) (inlOf []) extD (cKD [t32] []) lp31 Try.f31 [.isz n [.row SS] x, .isz m [.row SS] y, .fn (.func 32) []] [] (fun r _ => some r) =
    (bif (n : Int) != (m : Int) then RB false else bif true && (true && (decide ((n : Int) = (n : Int)) && (Nat.ble n 1000000 && gaB n x m y))) then RB true else none : Option Res) := by kernel_rfl
set_option maxRecDepth 10000 in
theorem t31_ok : SpecHolds Try.prog InvD 31 fun a => (t31.2 a).run := by
  refine specD sx31 Try.func31 (c := codeOf Try.prog 31) (by kernel_rfl) lp31 (fun p hp => by
    have hl : loops (codeOf Try.prog 31) = [(0, bodyOf Try.prog 31 0)] := by kernel_rfl
    rw [hl, List.mem_singleton] at hp
    subst hp
    exact sum31) fun args r hh => ?_
  simp only [t31] at hh
  split at hh
  · rename_i n x m y
    obtain ⟨hg, hh⟩ := chk_run hh
    refine ⟨by kernel_rfl, tr_ok (by rfl) hh, ?_⟩
    refine (vt31 n x m y).trans (Eq.trans ?_ hh)
    have h2 := hg
    rw [Bool.and_eq_true] at h2
    obtain ⟨rfl, _⟩ := gaB_get h2.2
    rw [bne_self_eq_false, cond_false, condT (by rw [hg, decide_eq_true rfl]; rfl)]
    rfl
  · simp [Tr.run] at hh
end Go.Proofs.Ytfgniheefiefjaa
