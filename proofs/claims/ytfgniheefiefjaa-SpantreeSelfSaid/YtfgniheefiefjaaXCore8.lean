/- SpantreeParents' walk. Conditions: none beyond the context's. -/
import Derived.Test.YtfgniheefiefjaaXCore7
/- A tree's spans visited: what the visits leave, the loop's states. Conditions: none beyond the context's. -/
namespace Go.Proofs.Ytfgniheefiefjaa
open Go.Evl Go.RowKit
/-- spans and parents so far -/
structure VS where
  m : Nat
  sp : Nat → Nat → Dt
  pa : Nat → Nat → Dt
def rwI (a : Int) : Nat → Nat → Dt := dtFs [[.int a]]
def VS.push (s : VS) (e : Nat → Dt) (ix : Int) : VS := ⟨s.m + 1, appEl s.sp s.m (dtFs [nmE e]), appEl s.pa s.m (rwI ix)⟩
def visL (rec_ : Int → Int → VS → Option VS) (el : Nat → Nat → Dt) (ix : Int) : Nat → Nat → VS → Option VS
  | 0, _, s => some s
  | f + 1, i, s => if s.m < 1000 then match rec_ (el i 1).n (s.m : Int) (s.push (el i) ix) with
    | none => none
    | some s' => visL rec_ el ix f (i + 1) s' else none
def visK (rf : Ky → Nat × (Nat → Nat → Dt)) : Nat → Int → Int → VS → Option VS
  | 0, _, _, _ => none
  | d + 1, key, ix, s => visL (visK rf d) (rf (.int key)).2 ix (rf (.int key)).1 0 s
noncomputable def rfB : Operand × Array Tmp × Code × Code := ((rfs (codeOf Try.prog 17))[0]?).getD (.tmp 0, #[], .skip, .skip)
/-- Build's slots as its loop is entered -/
def tmB (n : Nat) (x : Nat → Nat → Dt) : List AV := (((mkF 72 [2, 7, 9] [.ptr 0 0, .isz n SS x, .ptr 1 0]).set 54 (.isz n SS x)).set 55 (.map 6)).set 56 (.fn (.func 67) [.ptr 8 0])
def ctxP (n : Nat) (x : Nat → Nat → Dt) (tm : List AV) (ps : Array Tmp) (asg bd : Code) : Prop := tm = tmB n x ∧ ps = rfB.2.1 ∧ asg = rfB.2.2.1 ∧ bd = rfB.2.2.2
noncomputable def ctxB (n : Nat) (x : Nat → Nat → Dt) (tm : List AV) (ps : Array Tmp) (asg bd : Code) : Bool := @decide (ctxP n x tm ps asg bd) (Classical.propDecidable _)
theorem ctxB_iff {n : Nat} {x : Nat → Nat → Dt} {tm : List AV} {ps : Array Tmp} {asg bd : Code} : ctxB n x tm ps asg bd = true ↔ ctxP n x tm ps asg bd := @decide_eq_true_iff _ (Classical.propDecidable _)
/-- a span held by an open visit -/
def obT (g : Nat → Dt) : Ob := .cells (shA g SS 0) 25
def obTs : List (Nat → Dt) → List Ob
  | [] => []
  | g :: r => obT g :: obTs r
def deT : Ob → Option (Nat → Dt)
  | .cells [.int .i64 a0, .int .i64 a1, .int .i64 a2, .str a3, .str a4, .int .i64 a5, .int .i64 a6, .int .i64 a7, .isz n8 [.str, .str] x8, .isz n9 [.int .i64, .int .i64] x9] 25 => some (dtFs [[.int a0, .int a1, .int a2, .str a3, .str a4, .int a5, .int a6, .int a7, .row n8 x8, .row n9 x9]] 0)
  | _ => none
def deTs : List Ob → Option (List (Nat → Dt))
  | [] => some []
  | o :: r => match deT o with
    | none => none
    | some g => match deTs r with
      | none => none
      | some gs => some (g :: gs)
theorem deT_eq {o : Ob} {g : Nat → Dt} (h : deT o = some g) : o = obT g := by
  unfold deT at h
  split at h
  · cases h; rfl
  · cases h
theorem deTs_eq : ∀ (l : List Ob) (gs : List (Nat → Dt)), deTs l = some gs → l = obTs gs := by
  intro l
  induction l with
  | nil => intro gs h; cases h; rfl
  | cons o r ih =>
    intro gs h
    unfold deTs at h
    cases e1 : deT o with
    | none => rw [e1] at h; cases h
    | some g =>
      rw [e1] at h
      cases e2 : deTs r with
      | none => rw [e2] at h; cases h
      | some gs' =>
        rw [e2] at h
        cases h
        rw [deT_eq e1, ih _ e2]
        rfl
def nmT (e : Nat → Dt) : Nat → Dt := dtFs [nmE e] 0
def nmTs : List (Nat → Dt) → List (Nat → Dt)
  | [] => []
  | g :: r => nmT g :: nmTs r
noncomputable def tlB (l : List (Nat → Dt)) : Bool := @decide (nmTs l = l) (Classical.propDecidable _)
theorem tlB_iff {l : List (Nat → Dt)} : tlB l = true ↔ nmTs l = l := @decide_eq_true_iff _ (Classical.propDecidable _)
theorem deTs_ob : ∀ (l : List (Nat → Dt)), deTs (obTs l) = some (nmTs l) := by
  intro l
  induction l with
  | nil => rfl
  | cons g r ih =>
    show (match deT (obT g) with
      | none => none
      | some g => match deTs (obTs r) with
        | none => none
        | some gs => some (g :: gs)) = _
    rw [ih]
    rfl
theorem nmTs_app : ∀ (l r : List (Nat → Dt)), nmTs (l ++ r) = nmTs l ++ nmTs r := by
  intro l r
  induction l with
  | nil => rfl
  | cons g q ih => show nmT g :: nmTs (q ++ r) = _; rw [ih]; rfl
theorem nmTs_len : ∀ (l : List (Nat → Dt)), (nmTs l).length = l.length := by
  intro l
  induction l with
  | nil => rfl
  | cons g q ih => show (nmTs q).length + 1 = _; rw [ih]; rfl
theorem nmTs_nm : ∀ (l : List (Nat → Dt)), nmTs (nmTs l) = nmTs l := by
  intro l
  induction l with
  | nil => rfl
  | cons g q ih => show nmT (nmT g) :: nmTs (nmTs q) = _; rw [ih]; rfl
structure S68 where
  z0 : Int
  ti : Int
  v : Nat
  w : Nat
  m : Nat
  sp : Nat → Nat → Dt
  m2 : Nat
  pa : Nat → Nat → Dt
  n : Nat
  x : Nat → Nat → Dt
  n2 : Nat
  od : Nat → Nat → Dt
  c : Nat
  mf : Ky → Option Nat
  rf : Ky → Nat × (Nat → Nat → Dt)
  tm : List AV
  ps : Array Tmp
  asg : Code
  bd : Code
  ct : Int
  ix : Int
  rs : Bool
  key : Ky
  ver : Nat
  ln : Int
  i : Int
  tl : List (Nat → Dt)
abbrev keep68 : List Nat := [1, 3, 4, 5, 8, 14, 15, 16]
abbrev vs68 (s : S68) : List AV := [.int .i64 s.ix, .ptr 11 0, .ptr 12 0, .ptr 13 0, .bool s.rs, .own 7 s.key s.ver, .int .i64 s.ln, .int .i64 s.i]
abbrev hp68 (s : S68) : List Ob := (.cells [.int .i64 s.z0, .nsl, .nsl] 36 :: .cells [.int .i64 s.ti, .own 2 (.int 0) s.v, .own 3 (.int 0) s.w] 36 :: .own 25 SS s.m s.sp :: .own 3 [.int .i64] s.m2 s.pa :: .cells [.isz s.n SS s.x] 32 :: .own 3 [.int .i64] s.n2 s.od :: .mapF (.int .i64) s.c (.own 7 s.mf) :: .rows 25 SS s.rf :: .cells [.map 6] 74 :: .dfr :: .loop s.tm s.ps s.asg s.bd 9 .ready :: .cells [.yld 10] 86 :: .cells [.int .i64 s.ct] 3 :: .cells [.fn (.func 68) [.ptr 8 0, .ptr 11 0, .ptr 12 0, .ptr 13 0]] 87 :: obTs s.tl)
def dA : List AV → Option (Int × Bool × Ky × Nat × Int × Int)
  | [.int .i64 ix, .ptr 11 0, .ptr 12 0, .ptr 13 0, .bool rs, .own 7 key ver, .int .i64 ln, .int .i64 i] => some (ix, rs, key, ver, ln, i)
  | _ => none
theorem dA_eq {l : List AV} {ix : Int} {rs : Bool} {key : Ky} {ver : Nat} {ln : Int} {i : Int} (h : dA l = some (ix, rs, key, ver, ln, i)) : l = [.int .i64 ix, .ptr 11 0, .ptr 12 0, .ptr 13 0, .bool rs, .own 7 key ver, .int .i64 ln, .int .i64 i] := by
  unfold dA at h
  split at h
  · cases h; rfl
  · cases h
def dB : List Ob → Option ((Int × Int × Nat × Nat × Nat × (Nat → Nat → Dt) × Nat × (Nat → Nat → Dt)) × List Ob)
  | .cells [.int .i64 z0, .nsl, .nsl] 36 :: .cells [.int .i64 ti, .own 2 (.int 0) v, .own 3 (.int 0) w] 36 :: .own 25 [.int .i64, .int .i64, .int .i64, .str, .str, .int .i64, .int .i64, .int .i64, .row [.str, .str], .row [.int .i64, .int .i64]] m sp :: .own 3 [.int .i64] m2 pa :: r => some ((z0, ti, v, w, m, sp, m2, pa), r)
  | _ => none
theorem dB_eq {l r : List Ob} {z0 : Int} {ti : Int} {v : Nat} {w : Nat} {m : Nat} {sp : (Nat → Nat → Dt)} {m2 : Nat} {pa : (Nat → Nat → Dt)} (h : dB l = some ((z0, ti, v, w, m, sp, m2, pa), r)) : l = .cells [.int .i64 z0, .nsl, .nsl] 36 :: .cells [.int .i64 ti, .own 2 (.int 0) v, .own 3 (.int 0) w] 36 :: .own 25 [.int .i64, .int .i64, .int .i64, .str, .str, .int .i64, .int .i64, .int .i64, .row [.str, .str], .row [.int .i64, .int .i64]] m sp :: .own 3 [.int .i64] m2 pa :: r := by
  unfold dB at h
  split at h
  · cases h; rfl
  · cases h
def dC : List Ob → Option ((Nat × (Nat → Nat → Dt) × Nat × (Nat → Nat → Dt) × Nat × (Ky → Option Nat) × (Ky → Nat × (Nat → Nat → Dt))) × List Ob)
  | .cells [.isz n [.int .i64, .int .i64, .int .i64, .str, .str, .int .i64, .int .i64, .int .i64, .row [.str, .str], .row [.int .i64, .int .i64]] x] 32 :: .own 3 [.int .i64] n2 od :: .mapF (.int .i64) c (.own 7 mf) :: .rows 25 [.int .i64, .int .i64, .int .i64, .str, .str, .int .i64, .int .i64, .int .i64, .row [.str, .str], .row [.int .i64, .int .i64]] rf :: .cells [.map 6] 74 :: r => some ((n, x, n2, od, c, mf, rf), r)
  | _ => none
theorem dC_eq {l r : List Ob} {n : Nat} {x : (Nat → Nat → Dt)} {n2 : Nat} {od : (Nat → Nat → Dt)} {c : Nat} {mf : (Ky → Option Nat)} {rf : (Ky → Nat × (Nat → Nat → Dt))} (h : dC l = some ((n, x, n2, od, c, mf, rf), r)) : l = .cells [.isz n [.int .i64, .int .i64, .int .i64, .str, .str, .int .i64, .int .i64, .int .i64, .row [.str, .str], .row [.int .i64, .int .i64]] x] 32 :: .own 3 [.int .i64] n2 od :: .mapF (.int .i64) c (.own 7 mf) :: .rows 25 [.int .i64, .int .i64, .int .i64, .str, .str, .int .i64, .int .i64, .int .i64, .row [.str, .str], .row [.int .i64, .int .i64]] rf :: .cells [.map 6] 74 :: r := by
  unfold dC at h
  split at h
  · cases h; rfl
  · cases h
def dD : List Ob → Option (((List AV) × (Array Tmp) × Code × Code × Int) × List Ob)
  | .dfr :: .loop tm ps asg bd 9 .ready :: .cells [.yld 10] 86 :: .cells [.int .i64 ct] 3 :: .cells [.fn (.func 68) [.ptr 8 0, .ptr 11 0, .ptr 12 0, .ptr 13 0]] 87 :: r => some ((tm, ps, asg, bd, ct), r)
  | _ => none
theorem dD_eq {l r : List Ob} {tm : (List AV)} {ps : (Array Tmp)} {asg : Code} {bd : Code} {ct : Int} (h : dD l = some ((tm, ps, asg, bd, ct), r)) : l = .dfr :: .loop tm ps asg bd 9 .ready :: .cells [.yld 10] 86 :: .cells [.int .i64 ct] 3 :: .cells [.fn (.func 68) [.ptr 8 0, .ptr 11 0, .ptr 12 0, .ptr 13 0]] 87 :: r := by
  unfold dD at h
  split at h
  · cases h; rfl
  · cases h
def dec68 (vs : List AV) (H : List Ob) : Option S68 := match dA vs with
  | none => none
  | some (ix, rs, key, ver, ln, i) => match dB H with
    | none => none
    | some ((z0, ti, v, w, m, sp, m2, pa), H1) => match dC H1 with
      | none => none
      | some ((n, x, n2, od, c, mf, rf), H2) => match dD H2 with
        | none => none
        | some ((tm, ps, asg, bd, ct), H3) => match deTs H3 with
          | none => none
          | some tl => some ⟨z0, ti, v, w, m, sp, m2, pa, n, x, n2, od, c, mf, rf, tm, ps, asg, bd, ct, ix, rs, key, ver, ln, i, tl⟩
theorem dec68_eq {vs : List AV} {H : List Ob} {s : S68} (h : dec68 vs H = some s) : vs = vs68 s ∧ H = hp68 s := by
  unfold dec68 at h
  split at h
  · cases h
  rename_i hA
  split at h
  · cases h
  rename_i hB
  split at h
  · cases h
  rename_i hC
  split at h
  · cases h
  rename_i hD
  split at h
  · cases h
  rename_i hT
  obtain rfl := Option.some.inj h
  rw [dA_eq hA, dB_eq hB, dC_eq hC, dD_eq hD, deTs_eq _ _ hT]
  exact ⟨rfl, rfl⟩
noncomputable def dom68 (D : Nat) (s : S68) : Bool := Nat.beq (s.tl.length + 2 * D) 24 && (ctxB s.n s.x s.tm s.ps s.asg s.bd && (verB 1000 s.mf s.rf && (tlB s.tl && (Nat.beq s.v s.m && (Nat.beq s.w s.m && (Nat.beq s.m2 s.m && (decide (s.ct = (s.m : Int)) && (Nat.beq (s.rf s.key).1 s.ver && (decide (s.ln = (s.ver : Int)) && (decide (0 ≤ s.i) && (decide (s.i ≤ (s.ver : Int)) && (Nat.ble s.ver 1000 && (visL (visK s.rf D) (s.rf s.key).2 s.ix (s.ver - s.i.toNat) s.i.toNat ⟨s.m, s.sp, s.pa⟩).isSome))))))))))))
noncomputable def out68 (D : Nat) (s : S68) : VS := (visL (visK s.rf D) (s.rf s.key).2 s.ix (s.ver - s.i.toNat) s.i.toNat ⟨s.m, s.sp, s.pa⟩).getD ⟨s.m, s.sp, s.pa⟩
noncomputable def fin68 (D : Nat) (s : S68) : Tr (Ex × List AV × List Ob) := .leaf (.exit 0, [.int .i64 s.ix, .ptr 11 0, .ptr 12 0, .ptr 13 0, .bool s.rs, .own 7 s.key s.ver, .int .i64 s.ln, .int .i64 (s.ver : Int)], (.cells [.int .i64 s.z0, .nsl, .nsl] 36 :: .cells [.int .i64 s.ti, .own 2 k0 (out68 D s).m, .own 3 k0 (out68 D s).m] 36 :: .own 25 SS (out68 D s).m (out68 D s).sp :: .own 3 [.int .i64] (out68 D s).m (out68 D s).pa :: .cells [.isz s.n SS s.x] 32 :: .own 3 [.int .i64] s.n2 s.od :: .mapF (.int .i64) s.c (.own 7 s.mf) :: .rows 25 SS s.rf :: .cells [.map 6] 74 :: .dfr :: .loop s.tm s.ps s.asg s.bd 9 .ready :: .cells [.yld 10] 86 :: .cells [.int .i64 ((out68 D s).m : Int)] 3 :: .cells [.fn (.func 68) [.ptr 8 0, .ptr 11 0, .ptr 12 0, .ptr 13 0]] 87 :: obTs s.tl))
noncomputable def domV : Nat → S68 → Bool
  | 0, _ => false
  | D + 1, s => dom68 D s
noncomputable def finV : Nat → S68 → Tr (Ex × List AV × List Ob)
  | 0, _ => .non
  | D + 1, s => fin68 D s
noncomputable abbrev lp68 (E : Nat) (_ : Nat) : LT := .sum keep68 (stF dec68 (domV E) (finV E))
abbrev spV : Sp := spOf [t52, t53]
abbrev inV : FuncId → Bool := inlOf [54, 55, 67, 68]
noncomputable abbrev cVb {β : Type} : CallK β := callHK (callK Try.prog spV inV extD attD uD 20) [h55]
noncomputable def cVf {β : Type} : Nat → FuncId → List AV → List Ob → (Res → List Ob → Tr β) → Tr β
  | 0 => cVb.fn
  | D + 1 => (callLK Try.prog spV inV extD ⟨cVf D, cVb.rnd⟩ [(68, lp68 D)]).fn
noncomputable def cV {β : Type} (D : Nat) : CallK β := ⟨cVf D, cVb.rnd⟩
theorem cVf_succ {β : Type} (D : Nat) : (cVf (D + 1) : FuncId → List AV → List Ob → (Res → List Ob → Tr β) → Tr β) = (callLK Try.prog spV inV extD ⟨cVf D, cVb.rnd⟩ [(68, lp68 D)]).fn := by rw [cVf]
theorem callLK_mk {β : Type} (cK : CallK β) (X : List (Nat × (Nat → LT))) {g : FuncId → List AV → List Ob → (Res → List Ob → Tr β) → Tr β} (h : g = (callLK Try.prog spV inV extD cK X).fn) : (⟨g, cK.rnd⟩ : CallK β) = callLK Try.prog spV inV extD cK X := by
  subst h; rfl
theorem cV_succ {β : Type} (D : Nat) : (cV (D + 1) : CallK β) = callLK Try.prog spV inV extD (cV D) [(68, lp68 D)] := callLK_mk (cV D) [(68, lp68 D)] (cVf_succ D)
end Go.Proofs.Ytfgniheefiefjaa

/- A round of a visit, at each depth. No condition. -/
namespace Go.Proofs.Ytfgniheefiefjaa
open Go.Evl Go.RowKit
/-- the state in which a nested visit's loop is entered -/
noncomputable def inW (z0 ti : Int) (m : Nat) (sp pa : Nat → Nat → Dt) (n : Nat) (x : Nat → Nat → Dt) (n2 : Nat) (od : Nat → Nat → Dt) (c : Nat) (mf : Ky → Option Nat) (rf : Ky → Nat × (Nat → Nat → Dt)) (ix0 : Int) (key : Ky) (i : Int) (tl : List (Nat → Dt)) : S68 := ⟨z0, ti, m + 1, m + 1, m + 1, appEl sp m (dtFs [nmE ((rf key).2 i.toNat)]), m + 1, appEl pa m (rwI ix0), n, x, n2, od, c, mf, rf, tmB n x, rfB.2.1, rfB.2.2.1, rfB.2.2.2, IntKind.i64.wrap ((m : Int) + 1), (m : Int), false, (.int ((rf key).2 i.toNat 1).n), (mf (.int ((rf key).2 i.toNat 1).n)).getD 0, (((mf (.int ((rf key).2 i.toNat 1).n)).getD 0 : Nat) : Int), 0, nmTs tl ++ [nmT ((rf key).2 i.toNat), nmT ((rf key).2 i.toNat)]⟩
noncomputable def rndV (D : Nat) (z0 ti : Int) (m : Nat) (sp pa : Nat → Nat → Dt) (n : Nat) (x : Nat → Nat → Dt) (n2 : Nat) (od : Nat → Nat → Dt) (c : Nat) (mf : Ky → Option Nat) (rf : Ky → Nat × (Nat → Nat → Dt)) (ix : Int) (rs : Bool) (key : Ky) (ver : Nat) (i : Int) (tl : List (Nat → Dt)) : Option (Ex × List AV × List Ob) :=
  bif decide (i < (ver : Int)) then bif decide (0 ≤ i) && decide (i < (ver : Int)) then bif (rf key).1.beq ver then bif (rf key).1.beq ver && i.toNat.blt (rf key).1 then bif m.beq m && (m.ble 1000000 && true) then bif m.beq m && (m.ble 1000000 && true) then bif (rf (.int ((rf key).2 i.toNat 1).n)).1.beq ((mf (.int ((rf key).2 i.toNat 1).n)).getD 0) then bif domV D (inW z0 ti m sp pa n x n2 od c mf rf ix key i tl) then
    some (.normal, [.int .i64 ix, .ptr 11 0, .ptr 12 0, .ptr 13 0, .bool rs, .own 7 key ver, .int .i64 (ver : Int), .int .i64 (IntKind.i64.wrap (i + 1))], .cells [.int .i64 z0, .nsl, .nsl] 36 :: .cells [.int .i64 ti, .own 2 k0 ((out68 (D - 1) (inW z0 ti m sp pa n x n2 od c mf rf ix key i tl)).m), .own 3 k0 ((out68 (D - 1) (inW z0 ti m sp pa n x n2 od c mf rf ix key i tl)).m)] 36 :: .own 25 SS ((out68 (D - 1) (inW z0 ti m sp pa n x n2 od c mf rf ix key i tl)).m) ((out68 (D - 1) (inW z0 ti m sp pa n x n2 od c mf rf ix key i tl)).sp) :: .own 3 [.int .i64] ((out68 (D - 1) (inW z0 ti m sp pa n x n2 od c mf rf ix key i tl)).m) ((out68 (D - 1) (inW z0 ti m sp pa n x n2 od c mf rf ix key i tl)).pa) :: .cells [.isz n SS x] 32 :: .own 3 [.int .i64] n2 od :: .mapF (.int .i64) c (.own 7 mf) :: .rows 25 SS rf :: .cells [.map 6] 74 :: .dfr :: .loop (tmB n x) rfB.2.1 rfB.2.2.1 rfB.2.2.2 9 .ready :: .cells [.yld 10] 86 :: .cells [.int .i64 (((out68 (D - 1) (inW z0 ti m sp pa n x n2 od c mf rf ix key i tl)).m : Nat) : Int)] 3 :: .cells [.fn (.func 68) [.ptr 8 0, .ptr 11 0, .ptr 12 0, .ptr 13 0]] 87 :: obTs tl) else none else none else none else none else none else none else none
  else some (.exit 0, [.int .i64 ix, .ptr 11 0, .ptr 12 0, .ptr 13 0, .bool rs, .own 7 key ver, .int .i64 (ver : Int), .int .i64 i], .cells [.int .i64 z0, .nsl, .nsl] 36 :: .cells [.int .i64 ti, .own 2 k0 m, .own 3 k0 m] 36 :: .own 25 SS m sp :: .own 3 [.int .i64] m pa :: .cells [.isz n SS x] 32 :: .own 3 [.int .i64] n2 od :: .mapF (.int .i64) c (.own 7 mf) :: .rows 25 SS rf :: .cells [.map 6] 74 :: .dfr :: .loop (tmB n x) rfB.2.1 rfB.2.2.1 rfB.2.2.2 9 .ready :: .cells [.yld 10] 86 :: .cells [.int .i64 (m : Int)] 3 :: .cells [.fn (.func 68) [.ptr 8 0, .ptr 11 0, .ptr 12 0, .ptr 13 0]] 87 :: obTs tl)
theorem loopV0 (z0 ti : Int) (m : Nat) (sp pa : Nat → Nat → Dt) (n : Nat) (x : Nat → Nat → Dt) (n2 : Nat) (od : Nat → Nat → Dt) (c : Nat) (mf : Ky → Option Nat) (rf : Ky → Nat × (Nat → Nat → Dt)) (ix : Int) (rs : Bool) (key : Ky) (ver : Nat) (i : Int) (g0 : Nat → Dt) (g1 : Nat → Dt) (g2 : Nat → Dt) (g3 : Nat → Dt) (g4 : Nat → Dt) (g5 : Nat → Dt) (g6 : Nat → Dt) (g7 : Nat → Dt) (g8 : Nat → Dt) (g9 : Nat → Dt) (g10 : Nat → Dt) (g11 : Nat → Dt) (g12 : Nat → Dt) (g13 : Nat → Dt) (g14 : Nat → Dt) (g15 : Nat → Dt) (g16 : Nat → Dt) (g17 : Nat → Dt) (g18 : Nat → Dt) (g19 : Nat → Dt) (g20 : Nat → Dt) (g21 : Nat → Dt) (g22 : Nat → Dt) (g23 : Nat → Dt) : evC (β := Ex × List AV × List Ob) Try.prog spV inV extD (cV 1) (lp68 1) (bodyOf Try.prog 68 0) ⟨mkF Try.f68.ntmps keep68 [.int .i64 ix, .ptr 11 0, .ptr 12 0, .ptr 13 0, .bool rs, .own 7 key ver, .int .i64 (ver : Int), .int .i64 i], [.cells [.int .i64 z0, .nsl, .nsl] 36, .cells [.int .i64 ti, .own 2 k0 m, .own 3 k0 m] 36, .own 25 SS m sp, .own 3 [.int .i64] m pa, .cells [.isz n SS x] 32, .own 3 [.int .i64] n2 od, .mapF (.int .i64) c (.own 7 mf), .rows 25 SS rf, .cells [.map 6] 74, .dfr, .loop (tmB n x) rfB.2.1 rfB.2.2.1 rfB.2.2.2 9 .ready, .cells [.yld 10] 86, .cells [.int .i64 (m : Int)] 3, .cells [.fn (.func 68) [.ptr 8 0, .ptr 11 0, .ptr 12 0, .ptr 13 0]] 87, obT g0, obT g1, obT g2, obT g3, obT g4, obT g5, obT g6, obT g7, obT g8, obT g9, obT g10, obT g11, obT g12, obT g13, obT g14, obT g15, obT g16, obT g17, obT g18, obT g19, obT g20, obT g21, obT g22, obT g23]⟩ (fun e st => (cutBack keep68 38 st).map fun q => (e, q.1, q.2)) = rndV 0 z0 ti m sp pa n x n2 od c mf rf ix rs key ver i [g0, g1, g2, g3, g4, g5, g6, g7, g8, g9, g10, g11, g12, g13, g14, g15, g16, g17, g18, g19, g20, g21, g22, g23] := by kernel_rfl
theorem loopV1 (z0 ti : Int) (m : Nat) (sp pa : Nat → Nat → Dt) (n : Nat) (x : Nat → Nat → Dt) (n2 : Nat) (od : Nat → Nat → Dt) (c : Nat) (mf : Ky → Option Nat) (rf : Ky → Nat × (Nat → Nat → Dt)) (ix : Int) (rs : Bool) (key : Ky) (ver : Nat) (i : Int) (g0 : Nat → Dt) (g1 : Nat → Dt) (g2 : Nat → Dt) (g3 : Nat → Dt) (g4 : Nat → Dt) (g5 : Nat → Dt) (g6 : Nat → Dt) (g7 : Nat → Dt) (g8 : Nat → Dt) (g9 : Nat → Dt) (g10 : Nat → Dt) (g11 : Nat → Dt) (g12 : Nat → Dt) (g13 : Nat → Dt) (g14 : Nat → Dt) (g15 : Nat → Dt) (g16 : Nat → Dt) (g17 : Nat → Dt) (g18 : Nat → Dt) (g19 : Nat → Dt) (g20 : Nat → Dt) (g21 : Nat → Dt) : evC (β := Ex × List AV × List Ob) Try.prog spV inV extD (cV 2) (lp68 2) (bodyOf Try.prog 68 0) ⟨mkF Try.f68.ntmps keep68 [.int .i64 ix, .ptr 11 0, .ptr 12 0, .ptr 13 0, .bool rs, .own 7 key ver, .int .i64 (ver : Int), .int .i64 i], [.cells [.int .i64 z0, .nsl, .nsl] 36, .cells [.int .i64 ti, .own 2 k0 m, .own 3 k0 m] 36, .own 25 SS m sp, .own 3 [.int .i64] m pa, .cells [.isz n SS x] 32, .own 3 [.int .i64] n2 od, .mapF (.int .i64) c (.own 7 mf), .rows 25 SS rf, .cells [.map 6] 74, .dfr, .loop (tmB n x) rfB.2.1 rfB.2.2.1 rfB.2.2.2 9 .ready, .cells [.yld 10] 86, .cells [.int .i64 (m : Int)] 3, .cells [.fn (.func 68) [.ptr 8 0, .ptr 11 0, .ptr 12 0, .ptr 13 0]] 87, obT g0, obT g1, obT g2, obT g3, obT g4, obT g5, obT g6, obT g7, obT g8, obT g9, obT g10, obT g11, obT g12, obT g13, obT g14, obT g15, obT g16, obT g17, obT g18, obT g19, obT g20, obT g21]⟩ (fun e st => (cutBack keep68 36 st).map fun q => (e, q.1, q.2)) = rndV 1 z0 ti m sp pa n x n2 od c mf rf ix rs key ver i [g0, g1, g2, g3, g4, g5, g6, g7, g8, g9, g10, g11, g12, g13, g14, g15, g16, g17, g18, g19, g20, g21] := by kernel_rfl
theorem loopV2 (z0 ti : Int) (m : Nat) (sp pa : Nat → Nat → Dt) (n : Nat) (x : Nat → Nat → Dt) (n2 : Nat) (od : Nat → Nat → Dt) (c : Nat) (mf : Ky → Option Nat) (rf : Ky → Nat × (Nat → Nat → Dt)) (ix : Int) (rs : Bool) (key : Ky) (ver : Nat) (i : Int) (g0 : Nat → Dt) (g1 : Nat → Dt) (g2 : Nat → Dt) (g3 : Nat → Dt) (g4 : Nat → Dt) (g5 : Nat → Dt) (g6 : Nat → Dt) (g7 : Nat → Dt) (g8 : Nat → Dt) (g9 : Nat → Dt) (g10 : Nat → Dt) (g11 : Nat → Dt) (g12 : Nat → Dt) (g13 : Nat → Dt) (g14 : Nat → Dt) (g15 : Nat → Dt) (g16 : Nat → Dt) (g17 : Nat → Dt) (g18 : Nat → Dt) (g19 : Nat → Dt) : evC (β := Ex × List AV × List Ob) Try.prog spV inV extD (cV 3) (lp68 3) (bodyOf Try.prog 68 0) ⟨mkF Try.f68.ntmps keep68 [.int .i64 ix, .ptr 11 0, .ptr 12 0, .ptr 13 0, .bool rs, .own 7 key ver, .int .i64 (ver : Int), .int .i64 i], [.cells [.int .i64 z0, .nsl, .nsl] 36, .cells [.int .i64 ti, .own 2 k0 m, .own 3 k0 m] 36, .own 25 SS m sp, .own 3 [.int .i64] m pa, .cells [.isz n SS x] 32, .own 3 [.int .i64] n2 od, .mapF (.int .i64) c (.own 7 mf), .rows 25 SS rf, .cells [.map 6] 74, .dfr, .loop (tmB n x) rfB.2.1 rfB.2.2.1 rfB.2.2.2 9 .ready, .cells [.yld 10] 86, .cells [.int .i64 (m : Int)] 3, .cells [.fn (.func 68) [.ptr 8 0, .ptr 11 0, .ptr 12 0, .ptr 13 0]] 87, obT g0, obT g1, obT g2, obT g3, obT g4, obT g5, obT g6, obT g7, obT g8, obT g9, obT g10, obT g11, obT g12, obT g13, obT g14, obT g15, obT g16, obT g17, obT g18, obT g19]⟩ (fun e st => (cutBack keep68 34 st).map fun q => (e, q.1, q.2)) = rndV 2 z0 ti m sp pa n x n2 od c mf rf ix rs key ver i [g0, g1, g2, g3, g4, g5, g6, g7, g8, g9, g10, g11, g12, g13, g14, g15, g16, g17, g18, g19] := by kernel_rfl
theorem loopV3 (z0 ti : Int) (m : Nat) (sp pa : Nat → Nat → Dt) (n : Nat) (x : Nat → Nat → Dt) (n2 : Nat) (od : Nat → Nat → Dt) (c : Nat) (mf : Ky → Option Nat) (rf : Ky → Nat × (Nat → Nat → Dt)) (ix : Int) (rs : Bool) (key : Ky) (ver : Nat) (i : Int) (g0 : Nat → Dt) (g1 : Nat → Dt) (g2 : Nat → Dt) (g3 : Nat → Dt) (g4 : Nat → Dt) (g5 : Nat → Dt) (g6 : Nat → Dt) (g7 : Nat → Dt) (g8 : Nat → Dt) (g9 : Nat → Dt) (g10 : Nat → Dt) (g11 : Nat → Dt) (g12 : Nat → Dt) (g13 : Nat → Dt) (g14 : Nat → Dt) (g15 : Nat → Dt) (g16 : Nat → Dt) (g17 : Nat → Dt) : evC (β := Ex × List AV × List Ob) Try.prog spV inV extD (cV 4) (lp68 4) (bodyOf Try.prog 68 0) ⟨mkF Try.f68.ntmps keep68 [.int .i64 ix, .ptr 11 0, .ptr 12 0, .ptr 13 0, .bool rs, .own 7 key ver, .int .i64 (ver : Int), .int .i64 i], [.cells [.int .i64 z0, .nsl, .nsl] 36, .cells [.int .i64 ti, .own 2 k0 m, .own 3 k0 m] 36, .own 25 SS m sp, .own 3 [.int .i64] m pa, .cells [.isz n SS x] 32, .own 3 [.int .i64] n2 od, .mapF (.int .i64) c (.own 7 mf), .rows 25 SS rf, .cells [.map 6] 74, .dfr, .loop (tmB n x) rfB.2.1 rfB.2.2.1 rfB.2.2.2 9 .ready, .cells [.yld 10] 86, .cells [.int .i64 (m : Int)] 3, .cells [.fn (.func 68) [.ptr 8 0, .ptr 11 0, .ptr 12 0, .ptr 13 0]] 87, obT g0, obT g1, obT g2, obT g3, obT g4, obT g5, obT g6, obT g7, obT g8, obT g9, obT g10, obT g11, obT g12, obT g13, obT g14, obT g15, obT g16, obT g17]⟩ (fun e st => (cutBack keep68 32 st).map fun q => (e, q.1, q.2)) = rndV 3 z0 ti m sp pa n x n2 od c mf rf ix rs key ver i [g0, g1, g2, g3, g4, g5, g6, g7, g8, g9, g10, g11, g12, g13, g14, g15, g16, g17] := by kernel_rfl
theorem loopV4 (z0 ti : Int) (m : Nat) (sp pa : Nat → Nat → Dt) (n : Nat) (x : Nat → Nat → Dt) (n2 : Nat) (od : Nat → Nat → Dt) (c : Nat) (mf : Ky → Option Nat) (rf : Ky → Nat × (Nat → Nat → Dt)) (ix : Int) (rs : Bool) (key : Ky) (ver : Nat) (i : Int) (g0 : Nat → Dt) (g1 : Nat → Dt) (g2 : Nat → Dt) (g3 : Nat → Dt) (g4 : Nat → Dt) (g5 : Nat → Dt) (g6 : Nat → Dt) (g7 : Nat → Dt) (g8 : Nat → Dt) (g9 : Nat → Dt) (g10 : Nat → Dt) (g11 : Nat → Dt) (g12 : Nat → Dt) (g13 : Nat → Dt) (g14 : Nat → Dt) (g15 : Nat → Dt) : evC (β := Ex × List AV × List Ob) Try.prog spV inV extD (cV 5) (lp68 5) (bodyOf Try.prog 68 0) ⟨mkF Try.f68.ntmps keep68 [.int .i64 ix, .ptr 11 0, .ptr 12 0, .ptr 13 0, .bool rs, .own 7 key ver, .int .i64 (ver : Int), .int .i64 i], [.cells [.int .i64 z0, .nsl, .nsl] 36, .cells [.int .i64 ti, .own 2 k0 m, .own 3 k0 m] 36, .own 25 SS m sp, .own 3 [.int .i64] m pa, .cells [.isz n SS x] 32, .own 3 [.int .i64] n2 od, .mapF (.int .i64) c (.own 7 mf), .rows 25 SS rf, .cells [.map 6] 74, .dfr, .loop (tmB n x) rfB.2.1 rfB.2.2.1 rfB.2.2.2 9 .ready, .cells [.yld 10] 86, .cells [.int .i64 (m : Int)] 3, .cells [.fn (.func 68) [.ptr 8 0, .ptr 11 0, .ptr 12 0, .ptr 13 0]] 87, obT g0, obT g1, obT g2, obT g3, obT g4, obT g5, obT g6, obT g7, obT g8, obT g9, obT g10, obT g11, obT g12, obT g13, obT g14, obT g15]⟩ (fun e st => (cutBack keep68 30 st).map fun q => (e, q.1, q.2)) = rndV 4 z0 ti m sp pa n x n2 od c mf rf ix rs key ver i [g0, g1, g2, g3, g4, g5, g6, g7, g8, g9, g10, g11, g12, g13, g14, g15] := by kernel_rfl
theorem loopV5 (z0 ti : Int) (m : Nat) (sp pa : Nat → Nat → Dt) (n : Nat) (x : Nat → Nat → Dt) (n2 : Nat) (od : Nat → Nat → Dt) (c : Nat) (mf : Ky → Option Nat) (rf : Ky → Nat × (Nat → Nat → Dt)) (ix : Int) (rs : Bool) (key : Ky) (ver : Nat) (i : Int) (g0 : Nat → Dt) (g1 : Nat → Dt) (g2 : Nat → Dt) (g3 : Nat → Dt) (g4 : Nat → Dt) (g5 : Nat → Dt) (g6 : Nat → Dt) (g7 : Nat → Dt) (g8 : Nat → Dt) (g9 : Nat → Dt) (g10 : Nat → Dt) (g11 : Nat → Dt) (g12 : Nat → Dt) (g13 : Nat → Dt) : evC (β := Ex × List AV × List Ob) Try.prog spV inV extD (cV 6) (lp68 6) (bodyOf Try.prog 68 0) ⟨mkF Try.f68.ntmps keep68 [.int .i64 ix, .ptr 11 0, .ptr 12 0, .ptr 13 0, .bool rs, .own 7 key ver, .int .i64 (ver : Int), .int .i64 i], [.cells [.int .i64 z0, .nsl, .nsl] 36, .cells [.int .i64 ti, .own 2 k0 m, .own 3 k0 m] 36, .own 25 SS m sp, .own 3 [.int .i64] m pa, .cells [.isz n SS x] 32, .own 3 [.int .i64] n2 od, .mapF (.int .i64) c (.own 7 mf), .rows 25 SS rf, .cells [.map 6] 74, .dfr, .loop (tmB n x) rfB.2.1 rfB.2.2.1 rfB.2.2.2 9 .ready, .cells [.yld 10] 86, .cells [.int .i64 (m : Int)] 3, .cells [.fn (.func 68) [.ptr 8 0, .ptr 11 0, .ptr 12 0, .ptr 13 0]] 87, obT g0, obT g1, obT g2, obT g3, obT g4, obT g5, obT g6, obT g7, obT g8, obT g9, obT g10, obT g11, obT g12, obT g13]⟩ (fun e st => (cutBack keep68 28 st).map fun q => (e, q.1, q.2)) = rndV 5 z0 ti m sp pa n x n2 od c mf rf ix rs key ver i [g0, g1, g2, g3, g4, g5, g6, g7, g8, g9, g10, g11, g12, g13] := by kernel_rfl
theorem loopV6 (z0 ti : Int) (m : Nat) (sp pa : Nat → Nat → Dt) (n : Nat) (x : Nat → Nat → Dt) (n2 : Nat) (od : Nat → Nat → Dt) (c : Nat) (mf : Ky → Option Nat) (rf : Ky → Nat × (Nat → Nat → Dt)) (ix : Int) (rs : Bool) (key : Ky) (ver : Nat) (i : Int) (g0 : Nat → Dt) (g1 : Nat → Dt) (g2 : Nat → Dt) (g3 : Nat → Dt) (g4 : Nat → Dt) (g5 : Nat → Dt) (g6 : Nat → Dt) (g7 : Nat → Dt) (g8 : Nat → Dt) (g9 : Nat → Dt) (g10 : Nat → Dt) (g11 : Nat → Dt) : evC (β := Ex × List AV × List Ob) Try.prog spV inV extD (cV 7) (lp68 7) (bodyOf Try.prog 68 0) ⟨mkF Try.f68.ntmps keep68 [.int .i64 ix, .ptr 11 0, .ptr 12 0, .ptr 13 0, .bool rs, .own 7 key ver, .int .i64 (ver : Int), .int .i64 i], [.cells [.int .i64 z0, .nsl, .nsl] 36, .cells [.int .i64 ti, .own 2 k0 m, .own 3 k0 m] 36, .own 25 SS m sp, .own 3 [.int .i64] m pa, .cells [.isz n SS x] 32, .own 3 [.int .i64] n2 od, .mapF (.int .i64) c (.own 7 mf), .rows 25 SS rf, .cells [.map 6] 74, .dfr, .loop (tmB n x) rfB.2.1 rfB.2.2.1 rfB.2.2.2 9 .ready, .cells [.yld 10] 86, .cells [.int .i64 (m : Int)] 3, .cells [.fn (.func 68) [.ptr 8 0, .ptr 11 0, .ptr 12 0, .ptr 13 0]] 87, obT g0, obT g1, obT g2, obT g3, obT g4, obT g5, obT g6, obT g7, obT g8, obT g9, obT g10, obT g11]⟩ (fun e st => (cutBack keep68 26 st).map fun q => (e, q.1, q.2)) = rndV 6 z0 ti m sp pa n x n2 od c mf rf ix rs key ver i [g0, g1, g2, g3, g4, g5, g6, g7, g8, g9, g10, g11] := by kernel_rfl
theorem loopV7 (z0 ti : Int) (m : Nat) (sp pa : Nat → Nat → Dt) (n : Nat) (x : Nat → Nat → Dt) (n2 : Nat) (od : Nat → Nat → Dt) (c : Nat) (mf : Ky → Option Nat) (rf : Ky → Nat × (Nat → Nat → Dt)) (ix : Int) (rs : Bool) (key : Ky) (ver : Nat) (i : Int) (g0 : Nat → Dt) (g1 : Nat → Dt) (g2 : Nat → Dt) (g3 : Nat → Dt) (g4 : Nat → Dt) (g5 : Nat → Dt) (g6 : Nat → Dt) (g7 : Nat → Dt) (g8 : Nat → Dt) (g9 : Nat → Dt) : evC (β := Ex × List AV × List Ob) Try.prog spV inV extD (cV 8) (lp68 8) (bodyOf Try.prog 68 0) ⟨mkF Try.f68.ntmps keep68 [.int .i64 ix, .ptr 11 0, .ptr 12 0, .ptr 13 0, .bool rs, .own 7 key ver, .int .i64 (ver : Int), .int .i64 i], [.cells [.int .i64 z0, .nsl, .nsl] 36, .cells [.int .i64 ti, .own 2 k0 m, .own 3 k0 m] 36, .own 25 SS m sp, .own 3 [.int .i64] m pa, .cells [.isz n SS x] 32, .own 3 [.int .i64] n2 od, .mapF (.int .i64) c (.own 7 mf), .rows 25 SS rf, .cells [.map 6] 74, .dfr, .loop (tmB n x) rfB.2.1 rfB.2.2.1 rfB.2.2.2 9 .ready, .cells [.yld 10] 86, .cells [.int .i64 (m : Int)] 3, .cells [.fn (.func 68) [.ptr 8 0, .ptr 11 0, .ptr 12 0, .ptr 13 0]] 87, obT g0, obT g1, obT g2, obT g3, obT g4, obT g5, obT g6, obT g7, obT g8, obT g9]⟩ (fun e st => (cutBack keep68 24 st).map fun q => (e, q.1, q.2)) = rndV 7 z0 ti m sp pa n x n2 od c mf rf ix rs key ver i [g0, g1, g2, g3, g4, g5, g6, g7, g8, g9] := by kernel_rfl
theorem loopV8 (z0 ti : Int) (m : Nat) (sp pa : Nat → Nat → Dt) (n : Nat) (x : Nat → Nat → Dt) (n2 : Nat) (od : Nat → Nat → Dt) (c : Nat) (mf : Ky → Option Nat) (rf : Ky → Nat × (Nat → Nat → Dt)) (ix : Int) (rs : Bool) (key : Ky) (ver : Nat) (i : Int) (g0 : Nat → Dt) (g1 : Nat → Dt) (g2 : Nat → Dt) (g3 : Nat → Dt) (g4 : Nat → Dt) (g5 : Nat → Dt) (g6 : Nat → Dt) (g7 : Nat → Dt) : evC (β := Ex × List AV × List Ob) Try.prog spV inV extD (cV 9) (lp68 9) (bodyOf Try.prog 68 0) ⟨mkF Try.f68.ntmps keep68 [.int .i64 ix, .ptr 11 0, .ptr 12 0, .ptr 13 0, .bool rs, .own 7 key ver, .int .i64 (ver : Int), .int .i64 i], [.cells [.int .i64 z0, .nsl, .nsl] 36, .cells [.int .i64 ti, .own 2 k0 m, .own 3 k0 m] 36, .own 25 SS m sp, .own 3 [.int .i64] m pa, .cells [.isz n SS x] 32, .own 3 [.int .i64] n2 od, .mapF (.int .i64) c (.own 7 mf), .rows 25 SS rf, .cells [.map 6] 74, .dfr, .loop (tmB n x) rfB.2.1 rfB.2.2.1 rfB.2.2.2 9 .ready, .cells [.yld 10] 86, .cells [.int .i64 (m : Int)] 3, .cells [.fn (.func 68) [.ptr 8 0, .ptr 11 0, .ptr 12 0, .ptr 13 0]] 87, obT g0, obT g1, obT g2, obT g3, obT g4, obT g5, obT g6, obT g7]⟩ (fun e st => (cutBack keep68 22 st).map fun q => (e, q.1, q.2)) = rndV 8 z0 ti m sp pa n x n2 od c mf rf ix rs key ver i [g0, g1, g2, g3, g4, g5, g6, g7] := by kernel_rfl
theorem loopV9 (z0 ti : Int) (m : Nat) (sp pa : Nat → Nat → Dt) (n : Nat) (x : Nat → Nat → Dt) (n2 : Nat) (od : Nat → Nat → Dt) (c : Nat) (mf : Ky → Option Nat) (rf : Ky → Nat × (Nat → Nat → Dt)) (ix : Int) (rs : Bool) (key : Ky) (ver : Nat) (i : Int) (g0 : Nat → Dt) (g1 : Nat → Dt) (g2 : Nat → Dt) (g3 : Nat → Dt) (g4 : Nat → Dt) (g5 : Nat → Dt) : evC (β := Ex × List AV × List Ob) Try.prog spV inV extD (cV 10) (lp68 10) (bodyOf Try.prog 68 0) ⟨mkF Try.f68.ntmps keep68 [.int .i64 ix, .ptr 11 0, .ptr 12 0, .ptr 13 0, .bool rs, .own 7 key ver, .int .i64 (ver : Int), .int .i64 i], [.cells [.int .i64 z0, .nsl, .nsl] 36, .cells [.int .i64 ti, .own 2 k0 m, .own 3 k0 m] 36, .own 25 SS m sp, .own 3 [.int .i64] m pa, .cells [.isz n SS x] 32, .own 3 [.int .i64] n2 od, .mapF (.int .i64) c (.own 7 mf), .rows 25 SS rf, .cells [.map 6] 74, .dfr, .loop (tmB n x) rfB.2.1 rfB.2.2.1 rfB.2.2.2 9 .ready, .cells [.yld 10] 86, .cells [.int .i64 (m : Int)] 3, .cells [.fn (.func 68) [.ptr 8 0, .ptr 11 0, .ptr 12 0, .ptr 13 0]] 87, obT g0, obT g1, obT g2, obT g3, obT g4, obT g5]⟩ (fun e st => (cutBack keep68 20 st).map fun q => (e, q.1, q.2)) = rndV 9 z0 ti m sp pa n x n2 od c mf rf ix rs key ver i [g0, g1, g2, g3, g4, g5] := by kernel_rfl
theorem loopV10 (z0 ti : Int) (m : Nat) (sp pa : Nat → Nat → Dt) (n : Nat) (x : Nat → Nat → Dt) (n2 : Nat) (od : Nat → Nat → Dt) (c : Nat) (mf : Ky → Option Nat) (rf : Ky → Nat × (Nat → Nat → Dt)) (ix : Int) (rs : Bool) (key : Ky) (ver : Nat) (i : Int) (g0 : Nat → Dt) (g1 : Nat → Dt) (g2 : Nat → Dt) (g3 : Nat → Dt) : evC (β := Ex × List AV × List Ob) Try.prog spV inV extD (cV 11) (lp68 11) (bodyOf Try.prog 68 0) ⟨mkF Try.f68.ntmps keep68 [.int .i64 ix, .ptr 11 0, .ptr 12 0, .ptr 13 0, .bool rs, .own 7 key ver, .int .i64 (ver : Int), .int .i64 i], [.cells [.int .i64 z0, .nsl, .nsl] 36, .cells [.int .i64 ti, .own 2 k0 m, .own 3 k0 m] 36, .own 25 SS m sp, .own 3 [.int .i64] m pa, .cells [.isz n SS x] 32, .own 3 [.int .i64] n2 od, .mapF (.int .i64) c (.own 7 mf), .rows 25 SS rf, .cells [.map 6] 74, .dfr, .loop (tmB n x) rfB.2.1 rfB.2.2.1 rfB.2.2.2 9 .ready, .cells [.yld 10] 86, .cells [.int .i64 (m : Int)] 3, .cells [.fn (.func 68) [.ptr 8 0, .ptr 11 0, .ptr 12 0, .ptr 13 0]] 87, obT g0, obT g1, obT g2, obT g3]⟩ (fun e st => (cutBack keep68 18 st).map fun q => (e, q.1, q.2)) = rndV 10 z0 ti m sp pa n x n2 od c mf rf ix rs key ver i [g0, g1, g2, g3] := by kernel_rfl
theorem loopV11 (z0 ti : Int) (m : Nat) (sp pa : Nat → Nat → Dt) (n : Nat) (x : Nat → Nat → Dt) (n2 : Nat) (od : Nat → Nat → Dt) (c : Nat) (mf : Ky → Option Nat) (rf : Ky → Nat × (Nat → Nat → Dt)) (ix : Int) (rs : Bool) (key : Ky) (ver : Nat) (i : Int) (g0 : Nat → Dt) (g1 : Nat → Dt) : evC (β := Ex × List AV × List Ob) Try.prog spV inV extD (cV 12) (lp68 12) (bodyOf Try.prog 68 0) ⟨mkF Try.f68.ntmps keep68 [.int .i64 ix, .ptr 11 0, .ptr 12 0, .ptr 13 0, .bool rs, .own 7 key ver, .int .i64 (ver : Int), .int .i64 i], [.cells [.int .i64 z0, .nsl, .nsl] 36, .cells [.int .i64 ti, .own 2 k0 m, .own 3 k0 m] 36, .own 25 SS m sp, .own 3 [.int .i64] m pa, .cells [.isz n SS x] 32, .own 3 [.int .i64] n2 od, .mapF (.int .i64) c (.own 7 mf), .rows 25 SS rf, .cells [.map 6] 74, .dfr, .loop (tmB n x) rfB.2.1 rfB.2.2.1 rfB.2.2.2 9 .ready, .cells [.yld 10] 86, .cells [.int .i64 (m : Int)] 3, .cells [.fn (.func 68) [.ptr 8 0, .ptr 11 0, .ptr 12 0, .ptr 13 0]] 87, obT g0, obT g1]⟩ (fun e st => (cutBack keep68 16 st).map fun q => (e, q.1, q.2)) = rndV 11 z0 ti m sp pa n x n2 od c mf rf ix rs key ver i [g0, g1] := by kernel_rfl
theorem loopV12 (z0 ti : Int) (m : Nat) (sp pa : Nat → Nat → Dt) (n : Nat) (x : Nat → Nat → Dt) (n2 : Nat) (od : Nat → Nat → Dt) (c : Nat) (mf : Ky → Option Nat) (rf : Ky → Nat × (Nat → Nat → Dt)) (ix : Int) (rs : Bool) (key : Ky) (ver : Nat) (i : Int) : evC (β := Ex × List AV × List Ob) Try.prog spV inV extD (cV 13) (lp68 13) (bodyOf Try.prog 68 0) ⟨mkF Try.f68.ntmps keep68 [.int .i64 ix, .ptr 11 0, .ptr 12 0, .ptr 13 0, .bool rs, .own 7 key ver, .int .i64 (ver : Int), .int .i64 i], [.cells [.int .i64 z0, .nsl, .nsl] 36, .cells [.int .i64 ti, .own 2 k0 m, .own 3 k0 m] 36, .own 25 SS m sp, .own 3 [.int .i64] m pa, .cells [.isz n SS x] 32, .own 3 [.int .i64] n2 od, .mapF (.int .i64) c (.own 7 mf), .rows 25 SS rf, .cells [.map 6] 74, .dfr, .loop (tmB n x) rfB.2.1 rfB.2.2.1 rfB.2.2.2 9 .ready, .cells [.yld 10] 86, .cells [.int .i64 (m : Int)] 3, .cells [.fn (.func 68) [.ptr 8 0, .ptr 11 0, .ptr 12 0, .ptr 13 0]] 87]⟩ (fun e st => (cutBack keep68 14 st).map fun q => (e, q.1, q.2)) = rndV 12 z0 ti m sp pa n x n2 od c mf rf ix rs key ver i [] := by kernel_rfl
end Go.Proofs.Ytfgniheefiefjaa

/- A visit's loop at every depth: its summary, the contexts. Conditions: none beyond the contexts'. -/
namespace Go.Proofs.Ytfgniheefiefjaa
open Go.Evl Go.RowKit
theorem consOf {α : Type} {l : List α} {k : Nat} (h : l.length = k + 1) : ∃ a r, l = a :: r ∧ r.length = k := by
  match l, h with
  | a :: r, h => exact ⟨a, r, rfl, by simpa using h⟩
theorem loopW0 (z0 ti : Int) (m : Nat) (sp pa : Nat → Nat → Dt) (n : Nat) (x : Nat → Nat → Dt) (n2 : Nat) (od : Nat → Nat → Dt) (c : Nat) (mf : Ky → Option Nat) (rf : Ky → Nat × (Nat → Nat → Dt)) (ix : Int) (rs : Bool) (key : Ky) (ver : Nat) (i : Int) (tl : List (Nat → Dt)) (h : tl.length = 24) : evC (β := Ex × List AV × List Ob) Try.prog spV inV extD (cV 1) (lp68 1) (bodyOf Try.prog 68 0) ⟨mkF Try.f68.ntmps keep68 [.int .i64 ix, .ptr 11 0, .ptr 12 0, .ptr 13 0, .bool rs, .own 7 key ver, .int .i64 (ver : Int), .int .i64 i], (.cells [.int .i64 z0, .nsl, .nsl] 36 :: .cells [.int .i64 ti, .own 2 k0 m, .own 3 k0 m] 36 :: .own 25 SS m sp :: .own 3 [.int .i64] m pa :: .cells [.isz n SS x] 32 :: .own 3 [.int .i64] n2 od :: .mapF (.int .i64) c (.own 7 mf) :: .rows 25 SS rf :: .cells [.map 6] 74 :: .dfr :: .loop (tmB n x) rfB.2.1 rfB.2.2.1 rfB.2.2.2 9 .ready :: .cells [.yld 10] 86 :: .cells [.int .i64 (m : Int)] 3 :: .cells [.fn (.func 68) [.ptr 8 0, .ptr 11 0, .ptr 12 0, .ptr 13 0]] 87 :: obTs tl)⟩ (fun e st => (cutBack keep68 (14 + tl.length) st).map fun q => (e, q.1, q.2)) = rndV 0 z0 ti m sp pa n x n2 od c mf rf ix rs key ver i tl := by
  obtain ⟨g0, t0, rfl, h0⟩ := consOf h
  obtain ⟨g1, t1, rfl, h1⟩ := consOf h0
  obtain ⟨g2, t2, rfl, h2⟩ := consOf h1
  obtain ⟨g3, t3, rfl, h3⟩ := consOf h2
  obtain ⟨g4, t4, rfl, h4⟩ := consOf h3
  obtain ⟨g5, t5, rfl, h5⟩ := consOf h4
  obtain ⟨g6, t6, rfl, h6⟩ := consOf h5
  obtain ⟨g7, t7, rfl, h7⟩ := consOf h6
  obtain ⟨g8, t8, rfl, h8⟩ := consOf h7
  obtain ⟨g9, t9, rfl, h9⟩ := consOf h8
  obtain ⟨g10, t10, rfl, h10⟩ := consOf h9
  obtain ⟨g11, t11, rfl, h11⟩ := consOf h10
  obtain ⟨g12, t12, rfl, h12⟩ := consOf h11
  obtain ⟨g13, t13, rfl, h13⟩ := consOf h12
  obtain ⟨g14, t14, rfl, h14⟩ := consOf h13
  obtain ⟨g15, t15, rfl, h15⟩ := consOf h14
  obtain ⟨g16, t16, rfl, h16⟩ := consOf h15
  obtain ⟨g17, t17, rfl, h17⟩ := consOf h16
  obtain ⟨g18, t18, rfl, h18⟩ := consOf h17
  obtain ⟨g19, t19, rfl, h19⟩ := consOf h18
  obtain ⟨g20, t20, rfl, h20⟩ := consOf h19
  obtain ⟨g21, t21, rfl, h21⟩ := consOf h20
  obtain ⟨g22, t22, rfl, h22⟩ := consOf h21
  obtain ⟨g23, t23, rfl, h23⟩ := consOf h22
  obtain rfl := List.eq_nil_of_length_eq_zero h23
  exact loopV0 z0 ti m sp pa n x n2 od c mf rf ix rs key ver i g0 g1 g2 g3 g4 g5 g6 g7 g8 g9 g10 g11 g12 g13 g14 g15 g16 g17 g18 g19 g20 g21 g22 g23
theorem loopW1 (z0 ti : Int) (m : Nat) (sp pa : Nat → Nat → Dt) (n : Nat) (x : Nat → Nat → Dt) (n2 : Nat) (od : Nat → Nat → Dt) (c : Nat) (mf : Ky → Option Nat) (rf : Ky → Nat × (Nat → Nat → Dt)) (ix : Int) (rs : Bool) (key : Ky) (ver : Nat) (i : Int) (tl : List (Nat → Dt)) (h : tl.length = 22) : evC (β := Ex × List AV × List Ob) Try.prog spV inV extD (cV 2) (lp68 2) (bodyOf Try.prog 68 0) ⟨mkF Try.f68.ntmps keep68 [.int .i64 ix, .ptr 11 0, .ptr 12 0, .ptr 13 0, .bool rs, .own 7 key ver, .int .i64 (ver : Int), .int .i64 i], (.cells [.int .i64 z0, .nsl, .nsl] 36 :: .cells [.int .i64 ti, .own 2 k0 m, .own 3 k0 m] 36 :: .own 25 SS m sp :: .own 3 [.int .i64] m pa :: .cells [.isz n SS x] 32 :: .own 3 [.int .i64] n2 od :: .mapF (.int .i64) c (.own 7 mf) :: .rows 25 SS rf :: .cells [.map 6] 74 :: .dfr :: .loop (tmB n x) rfB.2.1 rfB.2.2.1 rfB.2.2.2 9 .ready :: .cells [.yld 10] 86 :: .cells [.int .i64 (m : Int)] 3 :: .cells [.fn (.func 68) [.ptr 8 0, .ptr 11 0, .ptr 12 0, .ptr 13 0]] 87 :: obTs tl)⟩ (fun e st => (cutBack keep68 (14 + tl.length) st).map fun q => (e, q.1, q.2)) = rndV 1 z0 ti m sp pa n x n2 od c mf rf ix rs key ver i tl := by
  obtain ⟨g0, t0, rfl, h0⟩ := consOf h
  obtain ⟨g1, t1, rfl, h1⟩ := consOf h0
  obtain ⟨g2, t2, rfl, h2⟩ := consOf h1
  obtain ⟨g3, t3, rfl, h3⟩ := consOf h2
  obtain ⟨g4, t4, rfl, h4⟩ := consOf h3
  obtain ⟨g5, t5, rfl, h5⟩ := consOf h4
  obtain ⟨g6, t6, rfl, h6⟩ := consOf h5
  obtain ⟨g7, t7, rfl, h7⟩ := consOf h6
  obtain ⟨g8, t8, rfl, h8⟩ := consOf h7
  obtain ⟨g9, t9, rfl, h9⟩ := consOf h8
  obtain ⟨g10, t10, rfl, h10⟩ := consOf h9
  obtain ⟨g11, t11, rfl, h11⟩ := consOf h10
  obtain ⟨g12, t12, rfl, h12⟩ := consOf h11
  obtain ⟨g13, t13, rfl, h13⟩ := consOf h12
  obtain ⟨g14, t14, rfl, h14⟩ := consOf h13
  obtain ⟨g15, t15, rfl, h15⟩ := consOf h14
  obtain ⟨g16, t16, rfl, h16⟩ := consOf h15
  obtain ⟨g17, t17, rfl, h17⟩ := consOf h16
  obtain ⟨g18, t18, rfl, h18⟩ := consOf h17
  obtain ⟨g19, t19, rfl, h19⟩ := consOf h18
  obtain ⟨g20, t20, rfl, h20⟩ := consOf h19
  obtain ⟨g21, t21, rfl, h21⟩ := consOf h20
  obtain rfl := List.eq_nil_of_length_eq_zero h21
  exact loopV1 z0 ti m sp pa n x n2 od c mf rf ix rs key ver i g0 g1 g2 g3 g4 g5 g6 g7 g8 g9 g10 g11 g12 g13 g14 g15 g16 g17 g18 g19 g20 g21
theorem loopW2 (z0 ti : Int) (m : Nat) (sp pa : Nat → Nat → Dt) (n : Nat) (x : Nat → Nat → Dt) (n2 : Nat) (od : Nat → Nat → Dt) (c : Nat) (mf : Ky → Option Nat) (rf : Ky → Nat × (Nat → Nat → Dt)) (ix : Int) (rs : Bool) (key : Ky) (ver : Nat) (i : Int) (tl : List (Nat → Dt)) (h : tl.length = 20) : evC (β := Ex × List AV × List Ob) Try.prog spV inV extD (cV 3) (lp68 3) (bodyOf Try.prog 68 0) ⟨mkF Try.f68.ntmps keep68 [.int .i64 ix, .ptr 11 0, .ptr 12 0, .ptr 13 0, .bool rs, .own 7 key ver, .int .i64 (ver : Int), .int .i64 i], (.cells [.int .i64 z0, .nsl, .nsl] 36 :: .cells [.int .i64 ti, .own 2 k0 m, .own 3 k0 m] 36 :: .own 25 SS m sp :: .own 3 [.int .i64] m pa :: .cells [.isz n SS x] 32 :: .own 3 [.int .i64] n2 od :: .mapF (.int .i64) c (.own 7 mf) :: .rows 25 SS rf :: .cells [.map 6] 74 :: .dfr :: .loop (tmB n x) rfB.2.1 rfB.2.2.1 rfB.2.2.2 9 .ready :: .cells [.yld 10] 86 :: .cells [.int .i64 (m : Int)] 3 :: .cells [.fn (.func 68) [.ptr 8 0, .ptr 11 0, .ptr 12 0, .ptr 13 0]] 87 :: obTs tl)⟩ (fun e st => (cutBack keep68 (14 + tl.length) st).map fun q => (e, q.1, q.2)) = rndV 2 z0 ti m sp pa n x n2 od c mf rf ix rs key ver i tl := by
  obtain ⟨g0, t0, rfl, h0⟩ := consOf h
  obtain ⟨g1, t1, rfl, h1⟩ := consOf h0
  obtain ⟨g2, t2, rfl, h2⟩ := consOf h1
  obtain ⟨g3, t3, rfl, h3⟩ := consOf h2
  obtain ⟨g4, t4, rfl, h4⟩ := consOf h3
  obtain ⟨g5, t5, rfl, h5⟩ := consOf h4
  obtain ⟨g6, t6, rfl, h6⟩ := consOf h5
  obtain ⟨g7, t7, rfl, h7⟩ := consOf h6
  obtain ⟨g8, t8, rfl, h8⟩ := consOf h7
  obtain ⟨g9, t9, rfl, h9⟩ := consOf h8
  obtain ⟨g10, t10, rfl, h10⟩ := consOf h9
  obtain ⟨g11, t11, rfl, h11⟩ := consOf h10
  obtain ⟨g12, t12, rfl, h12⟩ := consOf h11
  obtain ⟨g13, t13, rfl, h13⟩ := consOf h12
  obtain ⟨g14, t14, rfl, h14⟩ := consOf h13
  obtain ⟨g15, t15, rfl, h15⟩ := consOf h14
  obtain ⟨g16, t16, rfl, h16⟩ := consOf h15
  obtain ⟨g17, t17, rfl, h17⟩ := consOf h16
  obtain ⟨g18, t18, rfl, h18⟩ := consOf h17
  obtain ⟨g19, t19, rfl, h19⟩ := consOf h18
  obtain rfl := List.eq_nil_of_length_eq_zero h19
  exact loopV2 z0 ti m sp pa n x n2 od c mf rf ix rs key ver i g0 g1 g2 g3 g4 g5 g6 g7 g8 g9 g10 g11 g12 g13 g14 g15 g16 g17 g18 g19
theorem loopW3 (z0 ti : Int) (m : Nat) (sp pa : Nat → Nat → Dt) (n : Nat) (x : Nat → Nat → Dt) (n2 : Nat) (od : Nat → Nat → Dt) (c : Nat) (mf : Ky → Option Nat) (rf : Ky → Nat × (Nat → Nat → Dt)) (ix : Int) (rs : Bool) (key : Ky) (ver : Nat) (i : Int) (tl : List (Nat → Dt)) (h : tl.length = 18) : evC (β := Ex × List AV × List Ob) Try.prog spV inV extD (cV 4) (lp68 4) (bodyOf Try.prog 68 0) ⟨mkF Try.f68.ntmps keep68 [.int .i64 ix, .ptr 11 0, .ptr 12 0, .ptr 13 0, .bool rs, .own 7 key ver, .int .i64 (ver : Int), .int .i64 i], (.cells [.int .i64 z0, .nsl, .nsl] 36 :: .cells [.int .i64 ti, .own 2 k0 m, .own 3 k0 m] 36 :: .own 25 SS m sp :: .own 3 [.int .i64] m pa :: .cells [.isz n SS x] 32 :: .own 3 [.int .i64] n2 od :: .mapF (.int .i64) c (.own 7 mf) :: .rows 25 SS rf :: .cells [.map 6] 74 :: .dfr :: .loop (tmB n x) rfB.2.1 rfB.2.2.1 rfB.2.2.2 9 .ready :: .cells [.yld 10] 86 :: .cells [.int .i64 (m : Int)] 3 :: .cells [.fn (.func 68) [.ptr 8 0, .ptr 11 0, .ptr 12 0, .ptr 13 0]] 87 :: obTs tl)⟩ (fun e st => (cutBack keep68 (14 + tl.length) st).map fun q => (e, q.1, q.2)) = rndV 3 z0 ti m sp pa n x n2 od c mf rf ix rs key ver i tl := by
  obtain ⟨g0, t0, rfl, h0⟩ := consOf h
  obtain ⟨g1, t1, rfl, h1⟩ := consOf h0
  obtain ⟨g2, t2, rfl, h2⟩ := consOf h1
  obtain ⟨g3, t3, rfl, h3⟩ := consOf h2
  obtain ⟨g4, t4, rfl, h4⟩ := consOf h3
  obtain ⟨g5, t5, rfl, h5⟩ := consOf h4
  obtain ⟨g6, t6, rfl, h6⟩ := consOf h5
  obtain ⟨g7, t7, rfl, h7⟩ := consOf h6
  obtain ⟨g8, t8, rfl, h8⟩ := consOf h7
  obtain ⟨g9, t9, rfl, h9⟩ := consOf h8
  obtain ⟨g10, t10, rfl, h10⟩ := consOf h9
  obtain ⟨g11, t11, rfl, h11⟩ := consOf h10
  obtain ⟨g12, t12, rfl, h12⟩ := consOf h11
  obtain ⟨g13, t13, rfl, h13⟩ := consOf h12
  obtain ⟨g14, t14, rfl, h14⟩ := consOf h13
  obtain ⟨g15, t15, rfl, h15⟩ := consOf h14
  obtain ⟨g16, t16, rfl, h16⟩ := consOf h15
  obtain ⟨g17, t17, rfl, h17⟩ := consOf h16
  obtain rfl := List.eq_nil_of_length_eq_zero h17
  exact loopV3 z0 ti m sp pa n x n2 od c mf rf ix rs key ver i g0 g1 g2 g3 g4 g5 g6 g7 g8 g9 g10 g11 g12 g13 g14 g15 g16 g17
theorem loopW4 (z0 ti : Int) (m : Nat) (sp pa : Nat → Nat → Dt) (n : Nat) (x : Nat → Nat → Dt) (n2 : Nat) (od : Nat → Nat → Dt) (c : Nat) (mf : Ky → Option Nat) (rf : Ky → Nat × (Nat → Nat → Dt)) (ix : Int) (rs : Bool) (key : Ky) (ver : Nat) (i : Int) (tl : List (Nat → Dt)) (h : tl.length = 16) : evC (β := Ex × List AV × List Ob) Try.prog spV inV extD (cV 5) (lp68 5) (bodyOf Try.prog 68 0) ⟨mkF Try.f68.ntmps keep68 [.int .i64 ix, .ptr 11 0, .ptr 12 0, .ptr 13 0, .bool rs, .own 7 key ver, .int .i64 (ver : Int), .int .i64 i], (.cells [.int .i64 z0, .nsl, .nsl] 36 :: .cells [.int .i64 ti, .own 2 k0 m, .own 3 k0 m] 36 :: .own 25 SS m sp :: .own 3 [.int .i64] m pa :: .cells [.isz n SS x] 32 :: .own 3 [.int .i64] n2 od :: .mapF (.int .i64) c (.own 7 mf) :: .rows 25 SS rf :: .cells [.map 6] 74 :: .dfr :: .loop (tmB n x) rfB.2.1 rfB.2.2.1 rfB.2.2.2 9 .ready :: .cells [.yld 10] 86 :: .cells [.int .i64 (m : Int)] 3 :: .cells [.fn (.func 68) [.ptr 8 0, .ptr 11 0, .ptr 12 0, .ptr 13 0]] 87 :: obTs tl)⟩ (fun e st => (cutBack keep68 (14 + tl.length) st).map fun q => (e, q.1, q.2)) = rndV 4 z0 ti m sp pa n x n2 od c mf rf ix rs key ver i tl := by
  obtain ⟨g0, t0, rfl, h0⟩ := consOf h
  obtain ⟨g1, t1, rfl, h1⟩ := consOf h0
  obtain ⟨g2, t2, rfl, h2⟩ := consOf h1
  obtain ⟨g3, t3, rfl, h3⟩ := consOf h2
  obtain ⟨g4, t4, rfl, h4⟩ := consOf h3
  obtain ⟨g5, t5, rfl, h5⟩ := consOf h4
  obtain ⟨g6, t6, rfl, h6⟩ := consOf h5
  obtain ⟨g7, t7, rfl, h7⟩ := consOf h6
  obtain ⟨g8, t8, rfl, h8⟩ := consOf h7
  obtain ⟨g9, t9, rfl, h9⟩ := consOf h8
  obtain ⟨g10, t10, rfl, h10⟩ := consOf h9
  obtain ⟨g11, t11, rfl, h11⟩ := consOf h10
  obtain ⟨g12, t12, rfl, h12⟩ := consOf h11
  obtain ⟨g13, t13, rfl, h13⟩ := consOf h12
  obtain ⟨g14, t14, rfl, h14⟩ := consOf h13
  obtain ⟨g15, t15, rfl, h15⟩ := consOf h14
  obtain rfl := List.eq_nil_of_length_eq_zero h15
  exact loopV4 z0 ti m sp pa n x n2 od c mf rf ix rs key ver i g0 g1 g2 g3 g4 g5 g6 g7 g8 g9 g10 g11 g12 g13 g14 g15
theorem loopW5 (z0 ti : Int) (m : Nat) (sp pa : Nat → Nat → Dt) (n : Nat) (x : Nat → Nat → Dt) (n2 : Nat) (od : Nat → Nat → Dt) (c : Nat) (mf : Ky → Option Nat) (rf : Ky → Nat × (Nat → Nat → Dt)) (ix : Int) (rs : Bool) (key : Ky) (ver : Nat) (i : Int) (tl : List (Nat → Dt)) (h : tl.length = 14) : evC (β := Ex × List AV × List Ob) Try.prog spV inV extD (cV 6) (lp68 6) (bodyOf Try.prog 68 0) ⟨mkF Try.f68.ntmps keep68 [.int .i64 ix, .ptr 11 0, .ptr 12 0, .ptr 13 0, .bool rs, .own 7 key ver, .int .i64 (ver : Int), .int .i64 i], (.cells [.int .i64 z0, .nsl, .nsl] 36 :: .cells [.int .i64 ti, .own 2 k0 m, .own 3 k0 m] 36 :: .own 25 SS m sp :: .own 3 [.int .i64] m pa :: .cells [.isz n SS x] 32 :: .own 3 [.int .i64] n2 od :: .mapF (.int .i64) c (.own 7 mf) :: .rows 25 SS rf :: .cells [.map 6] 74 :: .dfr :: .loop (tmB n x) rfB.2.1 rfB.2.2.1 rfB.2.2.2 9 .ready :: .cells [.yld 10] 86 :: .cells [.int .i64 (m : Int)] 3 :: .cells [.fn (.func 68) [.ptr 8 0, .ptr 11 0, .ptr 12 0, .ptr 13 0]] 87 :: obTs tl)⟩ (fun e st => (cutBack keep68 (14 + tl.length) st).map fun q => (e, q.1, q.2)) = rndV 5 z0 ti m sp pa n x n2 od c mf rf ix rs key ver i tl := by
  obtain ⟨g0, t0, rfl, h0⟩ := consOf h
  obtain ⟨g1, t1, rfl, h1⟩ := consOf h0
  obtain ⟨g2, t2, rfl, h2⟩ := consOf h1
  obtain ⟨g3, t3, rfl, h3⟩ := consOf h2
  obtain ⟨g4, t4, rfl, h4⟩ := consOf h3
  obtain ⟨g5, t5, rfl, h5⟩ := consOf h4
  obtain ⟨g6, t6, rfl, h6⟩ := consOf h5
  obtain ⟨g7, t7, rfl, h7⟩ := consOf h6
  obtain ⟨g8, t8, rfl, h8⟩ := consOf h7
  obtain ⟨g9, t9, rfl, h9⟩ := consOf h8
  obtain ⟨g10, t10, rfl, h10⟩ := consOf h9
  obtain ⟨g11, t11, rfl, h11⟩ := consOf h10
  obtain ⟨g12, t12, rfl, h12⟩ := consOf h11
  obtain ⟨g13, t13, rfl, h13⟩ := consOf h12
  obtain rfl := List.eq_nil_of_length_eq_zero h13
  exact loopV5 z0 ti m sp pa n x n2 od c mf rf ix rs key ver i g0 g1 g2 g3 g4 g5 g6 g7 g8 g9 g10 g11 g12 g13
theorem loopW6 (z0 ti : Int) (m : Nat) (sp pa : Nat → Nat → Dt) (n : Nat) (x : Nat → Nat → Dt) (n2 : Nat) (od : Nat → Nat → Dt) (c : Nat) (mf : Ky → Option Nat) (rf : Ky → Nat × (Nat → Nat → Dt)) (ix : Int) (rs : Bool) (key : Ky) (ver : Nat) (i : Int) (tl : List (Nat → Dt)) (h : tl.length = 12) : evC (β := Ex × List AV × List Ob) Try.prog spV inV extD (cV 7) (lp68 7) (bodyOf Try.prog 68 0) ⟨mkF Try.f68.ntmps keep68 [.int .i64 ix, .ptr 11 0, .ptr 12 0, .ptr 13 0, .bool rs, .own 7 key ver, .int .i64 (ver : Int), .int .i64 i], (.cells [.int .i64 z0, .nsl, .nsl] 36 :: .cells [.int .i64 ti, .own 2 k0 m, .own 3 k0 m] 36 :: .own 25 SS m sp :: .own 3 [.int .i64] m pa :: .cells [.isz n SS x] 32 :: .own 3 [.int .i64] n2 od :: .mapF (.int .i64) c (.own 7 mf) :: .rows 25 SS rf :: .cells [.map 6] 74 :: .dfr :: .loop (tmB n x) rfB.2.1 rfB.2.2.1 rfB.2.2.2 9 .ready :: .cells [.yld 10] 86 :: .cells [.int .i64 (m : Int)] 3 :: .cells [.fn (.func 68) [.ptr 8 0, .ptr 11 0, .ptr 12 0, .ptr 13 0]] 87 :: obTs tl)⟩ (fun e st => (cutBack keep68 (14 + tl.length) st).map fun q => (e, q.1, q.2)) = rndV 6 z0 ti m sp pa n x n2 od c mf rf ix rs key ver i tl := by
  obtain ⟨g0, t0, rfl, h0⟩ := consOf h
  obtain ⟨g1, t1, rfl, h1⟩ := consOf h0
  obtain ⟨g2, t2, rfl, h2⟩ := consOf h1
  obtain ⟨g3, t3, rfl, h3⟩ := consOf h2
  obtain ⟨g4, t4, rfl, h4⟩ := consOf h3
  obtain ⟨g5, t5, rfl, h5⟩ := consOf h4
  obtain ⟨g6, t6, rfl, h6⟩ := consOf h5
  obtain ⟨g7, t7, rfl, h7⟩ := consOf h6
  obtain ⟨g8, t8, rfl, h8⟩ := consOf h7
  obtain ⟨g9, t9, rfl, h9⟩ := consOf h8
  obtain ⟨g10, t10, rfl, h10⟩ := consOf h9
  obtain ⟨g11, t11, rfl, h11⟩ := consOf h10
  obtain rfl := List.eq_nil_of_length_eq_zero h11
  exact loopV6 z0 ti m sp pa n x n2 od c mf rf ix rs key ver i g0 g1 g2 g3 g4 g5 g6 g7 g8 g9 g10 g11
theorem loopW7 (z0 ti : Int) (m : Nat) (sp pa : Nat → Nat → Dt) (n : Nat) (x : Nat → Nat → Dt) (n2 : Nat) (od : Nat → Nat → Dt) (c : Nat) (mf : Ky → Option Nat) (rf : Ky → Nat × (Nat → Nat → Dt)) (ix : Int) (rs : Bool) (key : Ky) (ver : Nat) (i : Int) (tl : List (Nat → Dt)) (h : tl.length = 10) : evC (β := Ex × List AV × List Ob) Try.prog spV inV extD (cV 8) (lp68 8) (bodyOf Try.prog 68 0) ⟨mkF Try.f68.ntmps keep68 [.int .i64 ix, .ptr 11 0, .ptr 12 0, .ptr 13 0, .bool rs, .own 7 key ver, .int .i64 (ver : Int), .int .i64 i], (.cells [.int .i64 z0, .nsl, .nsl] 36 :: .cells [.int .i64 ti, .own 2 k0 m, .own 3 k0 m] 36 :: .own 25 SS m sp :: .own 3 [.int .i64] m pa :: .cells [.isz n SS x] 32 :: .own 3 [.int .i64] n2 od :: .mapF (.int .i64) c (.own 7 mf) :: .rows 25 SS rf :: .cells [.map 6] 74 :: .dfr :: .loop (tmB n x) rfB.2.1 rfB.2.2.1 rfB.2.2.2 9 .ready :: .cells [.yld 10] 86 :: .cells [.int .i64 (m : Int)] 3 :: .cells [.fn (.func 68) [.ptr 8 0, .ptr 11 0, .ptr 12 0, .ptr 13 0]] 87 :: obTs tl)⟩ (fun e st => (cutBack keep68 (14 + tl.length) st).map fun q => (e, q.1, q.2)) = rndV 7 z0 ti m sp pa n x n2 od c mf rf ix rs key ver i tl := by
  obtain ⟨g0, t0, rfl, h0⟩ := consOf h
  obtain ⟨g1, t1, rfl, h1⟩ := consOf h0
  obtain ⟨g2, t2, rfl, h2⟩ := consOf h1
  obtain ⟨g3, t3, rfl, h3⟩ := consOf h2
  obtain ⟨g4, t4, rfl, h4⟩ := consOf h3
  obtain ⟨g5, t5, rfl, h5⟩ := consOf h4
  obtain ⟨g6, t6, rfl, h6⟩ := consOf h5
  obtain ⟨g7, t7, rfl, h7⟩ := consOf h6
  obtain ⟨g8, t8, rfl, h8⟩ := consOf h7
  obtain ⟨g9, t9, rfl, h9⟩ := consOf h8
  obtain rfl := List.eq_nil_of_length_eq_zero h9
  exact loopV7 z0 ti m sp pa n x n2 od c mf rf ix rs key ver i g0 g1 g2 g3 g4 g5 g6 g7 g8 g9
theorem loopW8 (z0 ti : Int) (m : Nat) (sp pa : Nat → Nat → Dt) (n : Nat) (x : Nat → Nat → Dt) (n2 : Nat) (od : Nat → Nat → Dt) (c : Nat) (mf : Ky → Option Nat) (rf : Ky → Nat × (Nat → Nat → Dt)) (ix : Int) (rs : Bool) (key : Ky) (ver : Nat) (i : Int) (tl : List (Nat → Dt)) (h : tl.length = 8) : evC (β := Ex × List AV × List Ob) Try.prog spV inV extD (cV 9) (lp68 9) (bodyOf Try.prog 68 0) ⟨mkF Try.f68.ntmps keep68 [.int .i64 ix, .ptr 11 0, .ptr 12 0, .ptr 13 0, .bool rs, .own 7 key ver, .int .i64 (ver : Int), .int .i64 i], (.cells [.int .i64 z0, .nsl, .nsl] 36 :: .cells [.int .i64 ti, .own 2 k0 m, .own 3 k0 m] 36 :: .own 25 SS m sp :: .own 3 [.int .i64] m pa :: .cells [.isz n SS x] 32 :: .own 3 [.int .i64] n2 od :: .mapF (.int .i64) c (.own 7 mf) :: .rows 25 SS rf :: .cells [.map 6] 74 :: .dfr :: .loop (tmB n x) rfB.2.1 rfB.2.2.1 rfB.2.2.2 9 .ready :: .cells [.yld 10] 86 :: .cells [.int .i64 (m : Int)] 3 :: .cells [.fn (.func 68) [.ptr 8 0, .ptr 11 0, .ptr 12 0, .ptr 13 0]] 87 :: obTs tl)⟩ (fun e st => (cutBack keep68 (14 + tl.length) st).map fun q => (e, q.1, q.2)) = rndV 8 z0 ti m sp pa n x n2 od c mf rf ix rs key ver i tl := by
  obtain ⟨g0, t0, rfl, h0⟩ := consOf h
  obtain ⟨g1, t1, rfl, h1⟩ := consOf h0
  obtain ⟨g2, t2, rfl, h2⟩ := consOf h1
  obtain ⟨g3, t3, rfl, h3⟩ := consOf h2
  obtain ⟨g4, t4, rfl, h4⟩ := consOf h3
  obtain ⟨g5, t5, rfl, h5⟩ := consOf h4
  obtain ⟨g6, t6, rfl, h6⟩ := consOf h5
  obtain ⟨g7, t7, rfl, h7⟩ := consOf h6
  obtain rfl := List.eq_nil_of_length_eq_zero h7
  exact loopV8 z0 ti m sp pa n x n2 od c mf rf ix rs key ver i g0 g1 g2 g3 g4 g5 g6 g7
theorem loopW9 (z0 ti : Int) (m : Nat) (sp pa : Nat → Nat → Dt) (n : Nat) (x : Nat → Nat → Dt) (n2 : Nat) (od : Nat → Nat → Dt) (c : Nat) (mf : Ky → Option Nat) (rf : Ky → Nat × (Nat → Nat → Dt)) (ix : Int) (rs : Bool) (key : Ky) (ver : Nat) (i : Int) (tl : List (Nat → Dt)) (h : tl.length = 6) : evC (β := Ex × List AV × List Ob) Try.prog spV inV extD (cV 10) (lp68 10) (bodyOf Try.prog 68 0) ⟨mkF Try.f68.ntmps keep68 [.int .i64 ix, .ptr 11 0, .ptr 12 0, .ptr 13 0, .bool rs, .own 7 key ver, .int .i64 (ver : Int), .int .i64 i], (.cells [.int .i64 z0, .nsl, .nsl] 36 :: .cells [.int .i64 ti, .own 2 k0 m, .own 3 k0 m] 36 :: .own 25 SS m sp :: .own 3 [.int .i64] m pa :: .cells [.isz n SS x] 32 :: .own 3 [.int .i64] n2 od :: .mapF (.int .i64) c (.own 7 mf) :: .rows 25 SS rf :: .cells [.map 6] 74 :: .dfr :: .loop (tmB n x) rfB.2.1 rfB.2.2.1 rfB.2.2.2 9 .ready :: .cells [.yld 10] 86 :: .cells [.int .i64 (m : Int)] 3 :: .cells [.fn (.func 68) [.ptr 8 0, .ptr 11 0, .ptr 12 0, .ptr 13 0]] 87 :: obTs tl)⟩ (fun e st => (cutBack keep68 (14 + tl.length) st).map fun q => (e, q.1, q.2)) = rndV 9 z0 ti m sp pa n x n2 od c mf rf ix rs key ver i tl := by
  obtain ⟨g0, t0, rfl, h0⟩ := consOf h
  obtain ⟨g1, t1, rfl, h1⟩ := consOf h0
  obtain ⟨g2, t2, rfl, h2⟩ := consOf h1
  obtain ⟨g3, t3, rfl, h3⟩ := consOf h2
  obtain ⟨g4, t4, rfl, h4⟩ := consOf h3
  obtain ⟨g5, t5, rfl, h5⟩ := consOf h4
  obtain rfl := List.eq_nil_of_length_eq_zero h5
  exact loopV9 z0 ti m sp pa n x n2 od c mf rf ix rs key ver i g0 g1 g2 g3 g4 g5
theorem loopW10 (z0 ti : Int) (m : Nat) (sp pa : Nat → Nat → Dt) (n : Nat) (x : Nat → Nat → Dt) (n2 : Nat) (od : Nat → Nat → Dt) (c : Nat) (mf : Ky → Option Nat) (rf : Ky → Nat × (Nat → Nat → Dt)) (ix : Int) (rs : Bool) (key : Ky) (ver : Nat) (i : Int) (tl : List (Nat → Dt)) (h : tl.length = 4) : evC (β := Ex × List AV × List Ob) Try.prog spV inV extD (cV 11) (lp68 11) (bodyOf Try.prog 68 0) ⟨mkF Try.f68.ntmps keep68 [.int .i64 ix, .ptr 11 0, .ptr 12 0, .ptr 13 0, .bool rs, .own 7 key ver, .int .i64 (ver : Int), .int .i64 i], (.cells [.int .i64 z0, .nsl, .nsl] 36 :: .cells [.int .i64 ti, .own 2 k0 m, .own 3 k0 m] 36 :: .own 25 SS m sp :: .own 3 [.int .i64] m pa :: .cells [.isz n SS x] 32 :: .own 3 [.int .i64] n2 od :: .mapF (.int .i64) c (.own 7 mf) :: .rows 25 SS rf :: .cells [.map 6] 74 :: .dfr :: .loop (tmB n x) rfB.2.1 rfB.2.2.1 rfB.2.2.2 9 .ready :: .cells [.yld 10] 86 :: .cells [.int .i64 (m : Int)] 3 :: .cells [.fn (.func 68) [.ptr 8 0, .ptr 11 0, .ptr 12 0, .ptr 13 0]] 87 :: obTs tl)⟩ (fun e st => (cutBack keep68 (14 + tl.length) st).map fun q => (e, q.1, q.2)) = rndV 10 z0 ti m sp pa n x n2 od c mf rf ix rs key ver i tl := by
  obtain ⟨g0, t0, rfl, h0⟩ := consOf h
  obtain ⟨g1, t1, rfl, h1⟩ := consOf h0
  obtain ⟨g2, t2, rfl, h2⟩ := consOf h1
  obtain ⟨g3, t3, rfl, h3⟩ := consOf h2
  obtain rfl := List.eq_nil_of_length_eq_zero h3
  exact loopV10 z0 ti m sp pa n x n2 od c mf rf ix rs key ver i g0 g1 g2 g3
theorem loopW11 (z0 ti : Int) (m : Nat) (sp pa : Nat → Nat → Dt) (n : Nat) (x : Nat → Nat → Dt) (n2 : Nat) (od : Nat → Nat → Dt) (c : Nat) (mf : Ky → Option Nat) (rf : Ky → Nat × (Nat → Nat → Dt)) (ix : Int) (rs : Bool) (key : Ky) (ver : Nat) (i : Int) (tl : List (Nat → Dt)) (h : tl.length = 2) : evC (β := Ex × List AV × List Ob) Try.prog spV inV extD (cV 12) (lp68 12) (bodyOf Try.prog 68 0) ⟨mkF Try.f68.ntmps keep68 [.int .i64 ix, .ptr 11 0, .ptr 12 0, .ptr 13 0, .bool rs, .own 7 key ver, .int .i64 (ver : Int), .int .i64 i], (.cells [.int .i64 z0, .nsl, .nsl] 36 :: .cells [.int .i64 ti, .own 2 k0 m, .own 3 k0 m] 36 :: .own 25 SS m sp :: .own 3 [.int .i64] m pa :: .cells [.isz n SS x] 32 :: .own 3 [.int .i64] n2 od :: .mapF (.int .i64) c (.own 7 mf) :: .rows 25 SS rf :: .cells [.map 6] 74 :: .dfr :: .loop (tmB n x) rfB.2.1 rfB.2.2.1 rfB.2.2.2 9 .ready :: .cells [.yld 10] 86 :: .cells [.int .i64 (m : Int)] 3 :: .cells [.fn (.func 68) [.ptr 8 0, .ptr 11 0, .ptr 12 0, .ptr 13 0]] 87 :: obTs tl)⟩ (fun e st => (cutBack keep68 (14 + tl.length) st).map fun q => (e, q.1, q.2)) = rndV 11 z0 ti m sp pa n x n2 od c mf rf ix rs key ver i tl := by
  obtain ⟨g0, t0, rfl, h0⟩ := consOf h
  obtain ⟨g1, t1, rfl, h1⟩ := consOf h0
  obtain rfl := List.eq_nil_of_length_eq_zero h1
  exact loopV11 z0 ti m sp pa n x n2 od c mf rf ix rs key ver i g0 g1
theorem loopW12 (z0 ti : Int) (m : Nat) (sp pa : Nat → Nat → Dt) (n : Nat) (x : Nat → Nat → Dt) (n2 : Nat) (od : Nat → Nat → Dt) (c : Nat) (mf : Ky → Option Nat) (rf : Ky → Nat × (Nat → Nat → Dt)) (ix : Int) (rs : Bool) (key : Ky) (ver : Nat) (i : Int) (tl : List (Nat → Dt)) (h : tl.length = 0) : evC (β := Ex × List AV × List Ob) Try.prog spV inV extD (cV 13) (lp68 13) (bodyOf Try.prog 68 0) ⟨mkF Try.f68.ntmps keep68 [.int .i64 ix, .ptr 11 0, .ptr 12 0, .ptr 13 0, .bool rs, .own 7 key ver, .int .i64 (ver : Int), .int .i64 i], (.cells [.int .i64 z0, .nsl, .nsl] 36 :: .cells [.int .i64 ti, .own 2 k0 m, .own 3 k0 m] 36 :: .own 25 SS m sp :: .own 3 [.int .i64] m pa :: .cells [.isz n SS x] 32 :: .own 3 [.int .i64] n2 od :: .mapF (.int .i64) c (.own 7 mf) :: .rows 25 SS rf :: .cells [.map 6] 74 :: .dfr :: .loop (tmB n x) rfB.2.1 rfB.2.2.1 rfB.2.2.2 9 .ready :: .cells [.yld 10] 86 :: .cells [.int .i64 (m : Int)] 3 :: .cells [.fn (.func 68) [.ptr 8 0, .ptr 11 0, .ptr 12 0, .ptr 13 0]] 87 :: obTs tl)⟩ (fun e st => (cutBack keep68 (14 + tl.length) st).map fun q => (e, q.1, q.2)) = rndV 12 z0 ti m sp pa n x n2 od c mf rf ix rs key ver i tl := by
  obtain rfl := List.eq_nil_of_length_eq_zero h
  exact loopV12 z0 ti m sp pa n x n2 od c mf rf ix rs key ver i
theorem loopW (D : Nat) (z0 ti : Int) (m : Nat) (sp pa : Nat → Nat → Dt) (n : Nat) (x : Nat → Nat → Dt) (n2 : Nat) (od : Nat → Nat → Dt) (c : Nat) (mf : Ky → Option Nat) (rf : Ky → Nat × (Nat → Nat → Dt)) (ix : Int) (rs : Bool) (key : Ky) (ver : Nat) (i : Int) (tl : List (Nat → Dt)) (h : tl.length + 2 * D = 24) : evC (β := Ex × List AV × List Ob) Try.prog spV inV extD (cV (D + 1)) (lp68 (D + 1)) (bodyOf Try.prog 68 0) ⟨mkF Try.f68.ntmps keep68 [.int .i64 ix, .ptr 11 0, .ptr 12 0, .ptr 13 0, .bool rs, .own 7 key ver, .int .i64 (ver : Int), .int .i64 i], (.cells [.int .i64 z0, .nsl, .nsl] 36 :: .cells [.int .i64 ti, .own 2 k0 m, .own 3 k0 m] 36 :: .own 25 SS m sp :: .own 3 [.int .i64] m pa :: .cells [.isz n SS x] 32 :: .own 3 [.int .i64] n2 od :: .mapF (.int .i64) c (.own 7 mf) :: .rows 25 SS rf :: .cells [.map 6] 74 :: .dfr :: .loop (tmB n x) rfB.2.1 rfB.2.2.1 rfB.2.2.2 9 .ready :: .cells [.yld 10] 86 :: .cells [.int .i64 (m : Int)] 3 :: .cells [.fn (.func 68) [.ptr 8 0, .ptr 11 0, .ptr 12 0, .ptr 13 0]] 87 :: obTs tl)⟩ (fun e st => (cutBack keep68 (14 + tl.length) st).map fun q => (e, q.1, q.2)) = rndV D z0 ti m sp pa n x n2 od c mf rf ix rs key ver i tl := by
  obtain rfl | rfl | rfl | rfl | rfl | rfl | rfl | rfl | rfl | rfl | rfl | rfl | rfl := (by omega : D = 0 ∨ D = 1 ∨ D = 2 ∨ D = 3 ∨ D = 4 ∨ D = 5 ∨ D = 6 ∨ D = 7 ∨ D = 8 ∨ D = 9 ∨ D = 10 ∨ D = 11 ∨ D = 12)
  · exact loopW0 z0 ti m sp pa n x n2 od c mf rf ix rs key ver i tl (by omega)
  · exact loopW1 z0 ti m sp pa n x n2 od c mf rf ix rs key ver i tl (by omega)
  · exact loopW2 z0 ti m sp pa n x n2 od c mf rf ix rs key ver i tl (by omega)
  · exact loopW3 z0 ti m sp pa n x n2 od c mf rf ix rs key ver i tl (by omega)
  · exact loopW4 z0 ti m sp pa n x n2 od c mf rf ix rs key ver i tl (by omega)
  · exact loopW5 z0 ti m sp pa n x n2 od c mf rf ix rs key ver i tl (by omega)
  · exact loopW6 z0 ti m sp pa n x n2 od c mf rf ix rs key ver i tl (by omega)
  · exact loopW7 z0 ti m sp pa n x n2 od c mf rf ix rs key ver i tl (by omega)
  · exact loopW8 z0 ti m sp pa n x n2 od c mf rf ix rs key ver i tl (by omega)
  · exact loopW9 z0 ti m sp pa n x n2 od c mf rf ix rs key ver i tl (by omega)
  · exact loopW10 z0 ti m sp pa n x n2 od c mf rf ix rs key ver i tl (by omega)
  · exact loopW11 z0 ti m sp pa n x n2 od c mf rf ix rs key ver i tl (by omega)
  · exact loopW12 z0 ti m sp pa n x n2 od c mf rf ix rs key ver i tl (by omega)
theorem visL_succ (rec_ : Int → Int → VS → Option VS) (el : Nat → Nat → Dt) (ix : Int) (f i : Nat) (s : VS) : visL rec_ el ix (f + 1) i s = if s.m < 1000 then match rec_ (el i 1).n (s.m : Int) (s.push (el i) ix) with
    | none => none
    | some s' => visL rec_ el ix f (i + 1) s' else none := rfl
theorem visL_cons {rec_ : Int → Int → VS → Option VS} {el : Nat → Nat → Dt} {ix : Int} {f i : Nat} {s : VS} (h : (visL rec_ el ix (f + 1) i s).isSome = true) : s.m < 1000 ∧ ∃ s1, rec_ (el i 1).n (s.m : Int) (s.push (el i) ix) = some s1 ∧ visL rec_ el ix (f + 1) i s = visL rec_ el ix f (i + 1) s1 := by
  rw [visL_succ] at h
  by_cases hm : s.m < 1000
  · rw [if_pos hm] at h
    refine ⟨hm, ?_⟩
    rw [visL_succ, if_pos hm]
    cases hs : rec_ (el i 1).n (s.m : Int) (s.push (el i) ix) with
    | none => rw [hs] at h; cases h
    | some s1 => exact ⟨s1, rfl, rfl⟩
  · rw [if_neg hm] at h
    cases h
theorem obTs_len : ∀ (l : List (Nat → Dt)), (obTs l).length = l.length := by
  intro l
  induction l with
  | nil => rfl
  | cons g r ih => show (obTs r).length + 1 = _; rw [ih]; rfl
theorem hp68_len (s : S68) : (hp68 s).length = 14 + s.tl.length := by
  show (obTs s.tl).length + 14 = _
  rw [obTs_len]; omega
theorem dec68_of {s : S68} (h : nmTs s.tl = s.tl) : dec68 (vs68 s) (hp68 s) = some s := by
  obtain ⟨z0, ti, v, w, m, sp, m2, pa, n, x, n2, od, c, mf, rf, tm, ps, asg, bd, ct, ix, rs, key, ver, ln, i, tl⟩ := s
  show (match deTs (obTs tl) with
    | none => none
    | some tl => some (⟨z0, ti, v, w, m, sp, m2, pa, n, x, n2, od, c, mf, rf, tm, ps, asg, bd, ct, ix, rs, key, ver, ln, i, tl⟩ : S68)) = _
  rw [deTs_ob]
  show some (⟨z0, ti, v, w, m, sp, m2, pa, n, x, n2, od, c, mf, rf, tm, ps, asg, bd, ct, ix, rs, key, ver, ln, i, nmTs tl⟩ : S68) = _
  rw [show nmTs tl = tl from h]
set_option maxRecDepth 100000 in
theorem sumV (Q : Nat) : LoopOkT Try.prog spV inV extD (cV Q) (lp68 Q) Try.f68.ntmps (bodyOf Try.prog 68 0) (.sum keep68 (stF dec68 (domV Q) (finV Q))) := by
  dsimp only [LoopOkT]
  refine ⟨by decide, by decide, ?_⟩
  refine sum_st dec68 (domV Q) (finV Q) vs68 hp68 (fun s => s.ver - s.i.toNat) (fun vs H s hs => dec68_eq hs) (fun s R hd hR => ?_)
  cases Q with
  | zero => cases hd
  | succ D =>
    obtain ⟨z0, ti, v, w, m, sp, m2, pa, n, x, n2, od, c, mf, rf, tm, ps, asg, bd, ct, ix, rs, key, ver, ln, i, tl⟩ := s
    unfold domV dom68 at hd
    simp only [Bool.and_eq_true, decide_eq_true_eq, Nat.ble_eq, Nat.beq_eq, ctxB_iff, ctxP, verB_iff, tlB_iff] at hd
    obtain ⟨htl, ⟨rfl, rfl, rfl, rfl⟩, hvp, htn, rfl, e3, e2, rfl, e1, rfl, h1, h2, h3, hsm⟩ := hd
    obtain rfl := e2.symm
    obtain rfl := e3.symm
    obtain rfl := e1.symm
    obtain ⟨i, rfl⟩ : ∃ p : Nat, i = (p : Int) := ⟨i.toNat, by omega⟩
    unfold finV fin68 out68 at hR
    simp only [Int.toNat_natCast] at hR hsm
    have ht := loopW D z0 ti v sp pa n x n2 od c mf rf ix rs key (rf key).1 (i : Int) tl htl
    rw [show 14 + tl.length = (hp68 ⟨z0, ti, v, v, v, sp, v, pa, n, x, n2, od, c, mf, rf, tmB n x, rfB.2.1, rfB.2.2.1, rfB.2.2.2, (v : Int), ix, rs, key, (rf key).1, (((rf key).1 : Nat) : Int), (i : Int), tl⟩).length from (hp68_len (⟨z0, ti, v, v, v, sp, v, pa, n, x, n2, od, c, mf, rf, tmB n x, rfB.2.1, rfB.2.2.1, rfB.2.2.2, (v : Int), ix, rs, key, (rf key).1, (((rf key).1 : Nat) : Int), (i : Int), tl⟩)).symm] at ht
    unfold rndV at ht
    obtain ⟨S, hS⟩ := Option.isSome_iff_exists.1 hsm
    rw [hS] at hR hsm
    simp only [Option.getD_some, Tr.run, Option.some.injEq] at hR
    by_cases hi : i < (rf key).1
    · obtain ⟨p, hp⟩ : ∃ p, (rf key).1 - i = p + 1 := ⟨(rf key).1 - i - 1, by omega⟩
      rw [hp] at hS
      obtain ⟨hm, s1, hs1, hv⟩ := visL_cons (by rw [hS]; rfl)
      rw [hv] at hS
      have hm : v < 1000 := hm
      cases D with
      | zero => cases hs1
      | succ D =>
      obtain ⟨hk1, hk2⟩ := hvp (.int ((rf key).2 i 1).n)
      have hs2 : visL (visK rf D) (rf (.int ((rf key).2 i 1).n)).2 (v : Int) (rf (.int ((rf key).2 i 1).n)).1 0 ⟨v + 1, appEl sp v (dtFs [nmE ((rf key).2 i)]), appEl pa v (rwI ix)⟩ = some s1 := hs1
      have hin : domV (D + 1) (inW z0 ti v sp pa n x n2 od c mf rf ix key (i : Int) tl) = true := by
        show dom68 D (inW z0 ti v sp pa n x n2 od c mf rf ix key (i : Int) tl) = true
        unfold dom68 inW
        simp only [Bool.and_eq_true, decide_eq_true_eq, Nat.ble_eq, Nat.beq_eq, ctxB_iff, ctxP, verB_iff, tlB_iff, Int.toNat_natCast, Int.toNat_zero, Nat.sub_zero, List.length_append, List.length_cons, List.length_nil, nmTs_len, nmTs_app, nmTs_nm, hk1, hs2, and_self, true_and]
        refine ⟨by omega, hvp, rfl, by rw [wrapI (by omega) (by omega)]; omega, by omega, by omega, hk2, rfl⟩
      have hout : out68 (D + 1 - 1) (inW z0 ti v sp pa n x n2 od c mf rf ix key (i : Int) tl) = s1 := by
        unfold out68 inW
        simp only [Int.toNat_natCast, Int.toNat_zero, Nat.sub_zero, Nat.add_sub_cancel, hk1, hs2, Option.getD_some]
      rw [Int.toNat_natCast, condT (decide_eq_true (by omega)), condT (by simp only [Bool.and_eq_true, decide_eq_true_eq]; omega), condT (Nat.beq_refl _), condT (by simp only [Nat.beq_refl, Bool.true_and, Nat.blt_eq]; omega), condT (by simp only [Nat.beq_refl, Bool.true_and, Bool.and_true, Nat.ble_eq]; omega), condT (by simp only [Nat.beq_refl, Bool.true_and, Bool.and_true, Nat.ble_eq]; omega), condT (by rw [hk1]; exact Nat.beq_refl _), condT hin, hout, wrapI (by omega) (by omega)] at ht
      refine .inl ⟨⟨z0, ti, s1.m, s1.m, s1.m, s1.sp, s1.m, s1.pa, n, x, n2, od, c, mf, rf, tmB n x, rfB.2.1, rfB.2.2.1, rfB.2.2.2, ((s1.m : Nat) : Int), ix, rs, key, (rf key).1, (((rf key).1 : Nat) : Int), (i : Int) + 1, tl⟩, ht, dec68_of htn, ?_, ?_, ?_⟩
      · unfold domV dom68
        simp only [Bool.and_eq_true, decide_eq_true_eq, Nat.ble_eq, Nat.beq_eq, ctxB_iff, ctxP, verB_iff, tlB_iff, and_self, true_and]
        have e4 : ((i : Int) + 1).toNat = i + 1 := by omega
        rw [e4, show (rf key).1 - (i + 1) = p by omega, hS]
        exact ⟨htl, hvp, htn, by omega, by omega, h3, rfl⟩
      · unfold finV fin68 out68
        have e4 : ((i : Int) + 1).toNat = i + 1 := by omega
        simp only [e4, show (rf key).1 - (i + 1) = p by omega, hS, Option.getD_some, Tr.run]
        rw [← hR]
      · simp only [Int.toNat_natCast]; omega
    · obtain rfl : i = (rf key).1 := by omega
      rw [condF (decide_eq_false (by omega))] at ht
      refine .inr ?_
      rw [Nat.sub_self] at hS
      obtain rfl := Option.some.inj hS
      subst hR
      exact ⟨by simp, ht⟩
end Go.Proofs.Ytfgniheefiefjaa

/- The visits' contexts; a tree's loop over its spans' traces. Conditions: none beyond the contexts'. -/
namespace Go.Proofs.Ytfgniheefiefjaa
open Go.Evl Go.RowKit
noncomputable abbrev cfVb : CallF := callHN (callN (mkCx Try.prog spV inV extD) attD uD 20) [h55]
noncomputable def cfV : Nat → CallF
  | 0 => cfVb
  | Q + 1 => callLN (mkCx Try.prog spV inV extD) (cfV Q) [(68, lp68 Q)]
theorem cV_eq {β : Type} : ∀ Q, CallEq (β := β) (cV Q) (cfV Q)
  | 0 => callHK_eq (callK_eq Try.prog spV inV extD attD uD 20) _
  | Q + 1 => by
    rw [cV_succ]
    exact callLK_eq _ _ _ _ (cV_eq Q) _
theorem sxV : (mkCx Try.prog spV inV extD).Ok InvD := cx_of [54, 55, 67, 68] (by kernel_rfl) (by
  intro p hp
  simp only [List.mem_cons, List.not_mem_nil, or_false] at hp
  rcases hp with rfl | rfl
  · exact t52_ok
  · exact t53_ok)
set_option maxRecDepth 10000 in
theorem lpsV (Q : Nat) : LpsOk (mkCx Try.prog spV inV extD) (cfV Q) [(68, lp68 Q)] := by
  intro f lp hf fn c hfn hc
  simp only [List.mem_singleton, Prod.mk.injEq] at hf
  obtain ⟨rfl, rfl⟩ := hf
  have e1 : fn = Try.f68 := Option.some.inj (hfn.symm.trans Try.func68)
  subst e1
  have e2 : c = codeOf Try.prog 68 := Option.some.inj (hc.symm.trans (by kernel_rfl))
  subst e2
  refine loopsOk_of Try.prog spV inV extD (cV Q) (fun {β} => cV_eq (β := β) Q) fun p hp => ?_
  have hl : loops (codeOf Try.prog 68) = [(0, bodyOf Try.prog 68 0)] := by kernel_rfl
  rw [hl] at hp
  simp only [List.mem_cons, List.not_mem_nil, or_false] at hp
  obtain rfl := hp
  exact sumV Q
theorem sndV : ∀ Q, CallSound Try.prog InvD (cfV Q)
  | 0 => callHN_sound (callN_sound attD_ok sxV stableD mixedD 20) stableD fun f s hf => by
    simp only [List.mem_singleton] at hf
    obtain ⟨rfl, rfl⟩ := hf
    exact h55_ok
  | Q + 1 => callLN_sound sxV stableD mixedD (sndV Q) (lpsV Q)
noncomputable abbrev cB {β : Type} : CallK β := callLK Try.prog spV inV extD (cV 14) [(67, fun _ => .unroll 0)]
noncomputable abbrev cfB : CallF := callLN (mkCx Try.prog spV inV extD) (cfV 14) [(67, fun _ => .unroll 0)]
theorem cB_eq {β : Type} : CallEq (β := β) cB cfB := callLK_eq _ _ _ _ (cV_eq 14) _
theorem sndB : CallSound Try.prog InvD cfB := callLN_sound sxV stableD mixedD (sndV 14) (by
  intro g lp hf fn c _ _
  simp only [List.mem_singleton, Prod.mk.injEq] at hf
  obtain ⟨rfl, rfl⟩ := hf
  intro p _ keep f' h
  cases h)
/-- the first span of another trace -/
def neF (y : Nat → Nat → Dt) (t : Int) : Nat → Nat → Nat
  | 0, i => i
  | f + 1, i => bif (y i 0).n != t then i else neF y t f (i + 1)
structure S17 where
  n : Nat
  x : Nat → Nat → Dt
  n2 : Nat
  y : Nat → Nat → Dt
  l : Int
  i : Int
abbrev keep17 : List Nat := [0, 2, 3, 22, 23, 24]
abbrev vs17 (s : S17) : List AV := [.isz s.n SS s.x, .ptr 0 0, .int .i64 0, .isz s.n2 SS s.y, .int .i64 s.l, .int .i64 s.i]
abbrev hp17 (_s : S17) : List Ob := [.cells [.int .i64 0, .nsl, .nsl] 36]
def dec17 : List AV → List Ob → Option S17
  | [.isz n [.int .i64, .int .i64, .int .i64, .str, .str, .int .i64, .int .i64, .int .i64, .row [.str, .str], .row [.int .i64, .int .i64]] x, .ptr 0 0, .int .i64 0, .isz n2 [.int .i64, .int .i64, .int .i64, .str, .str, .int .i64, .int .i64, .int .i64, .row [.str, .str], .row [.int .i64, .int .i64]] y, .int .i64 l, .int .i64 i], [.cells [.int .i64 0, .nsl, .nsl] 36] => some ⟨n, x, n2, y, l, i⟩
  | _, _ => none
def dom17 (s : S17) : Bool := decide (0 ≤ s.i) && (decide (s.i ≤ (s.n2 : Int)) && (decide (s.l = (s.n2 : Int)) && (Nat.ble 1 s.n && Nat.ble s.n2 1000)))
def fin17 (s : S17) : Tr (Ex × List AV × List Ob) := .node (Nat.beq (neF s.y (s.x 0 0).n (s.n2 - s.i.toNat) s.i.toNat) s.n2) (.leaf (.exit 0, [.isz s.n SS s.x, .ptr 0 0, .int .i64 0, .isz s.n2 SS s.y, .int .i64 s.l, .int .i64 (s.n2 : Int)], [.cells [.int .i64 0, .nsl, .nsl] 36])) (.leaf (.ret, [.isz s.n SS s.x, .ptr 0 0, .int .i64 10, .isz s.n2 SS s.y, .int .i64 s.l, .int .i64 (neF s.y (s.x 0 0).n (s.n2 - s.i.toNat) s.i.toNat : Nat)], [.cells [.int .i64 0, .nsl, .nsl] 36]))
end Go.Proofs.Ytfgniheefiefjaa

/- A tree's loop over its spans' traces: its summary. No condition. -/
namespace Go.Proofs.Ytfgniheefiefjaa
open Go.Evl Go.RowKit
theorem neF_le (y : Nat → Nat → Dt) (t : Int) : ∀ f i, neF y t f i ≤ i + f
  | 0, i => Nat.le_refl _
  | f + 1, i => by
    unfold neF
    cases h : ((y i 0).n != t)
    · have := neF_le y t f (i + 1); simp only [cond_false]; omega
    · simp only [cond_true]; omega
def rnd17 (n : Nat) (x : Nat → Nat → Dt) (n2 : Nat) (y : Nat → Nat → Dt) (i : Int) : Option (Ex × List AV × List Ob) :=
  bif decide (i < (n2 : Int)) then bif decide (0 ≤ i) && decide (i < (n2 : Int)) then bif true && decide ((0 : Int) < (n : Int)) then bif (y i.toNat 0).n != (x 0 0).n then some (.ret, [.isz n SS x, .ptr 0 0, .int .i64 10, .isz n2 SS y, .int .i64 (n2 : Int), .int .i64 i], [.cells [.int .i64 0, .nsl, .nsl] 36]) else some (.normal, [.isz n SS x, .ptr 0 0, .int .i64 0, .isz n2 SS y, .int .i64 (n2 : Int), .int .i64 (IntKind.i64.wrap (i + 1))], [.cells [.int .i64 0, .nsl, .nsl] 36]) else none else none
  else some (.exit 0, [.isz n SS x, .ptr 0 0, .int .i64 0, .isz n2 SS y, .int .i64 (n2 : Int), .int .i64 i], [.cells [.int .i64 0, .nsl, .nsl] 36])
noncomputable abbrev lp17 (i : Nat) : LT := bif Nat.beq i 2000017 then .ghost [.nilC 9 1 25 SS, .nilC 9 2 3 [.int .i64]] else bif Nat.beq i 1000018 then .forget [2, 7, 9] else .sum keep17 (stF dec17 dom17 fin17)
theorem loop17 (n : Nat) (x : Nat → Nat → Dt) (n2 : Nat) (y : Nat → Nat → Dt) (i : Int) : evC (β := Ex × List AV × List Ob) Try.prog spV inV extD cB lp17 (bodyOf Try.prog 17 0) ⟨mkF Try.f17.ntmps [0, 2, 3, 22, 23, 24] [.isz n SS x, .ptr 0 0, .int .i64 0, .isz n2 SS y, .int .i64 (n2 : Int), .int .i64 i], [.cells [.int .i64 0, .nsl, .nsl] 36]⟩ (fun e st => (cutBack [0, 2, 3, 22, 23, 24] 1 st).map fun q => (e, q.1, q.2)) = rnd17 n x n2 y i := by kernel_rfl
set_option maxRecDepth 10000 in
theorem sum17 : LoopOkT Try.prog spV inV extD cB lp17 Try.f17.ntmps (bodyOf Try.prog 17 0) (.sum keep17 (stF dec17 dom17 fin17)) := by
  dsimp only [LoopOkT]
  refine ⟨by decide, by decide, ?_⟩
  refine sum_st dec17 dom17 fin17 vs17 hp17 (fun s => s.n2 - s.i.toNat) (fun vs H s hs => ?_) (fun s R hd hR => ?_)
  · unfold dec17 at hs
    split at hs
    · obtain rfl := Option.some.inj hs
      exact ⟨rfl, rfl⟩
    · cases hs
  · obtain ⟨n, x, n2, y, l, i⟩ := s
    simp only [dom17, Bool.and_eq_true, decide_eq_true_eq, Nat.ble_eq] at hd
    obtain ⟨h1, h2, rfl, h3, h4⟩ := hd
    obtain ⟨i, rfl⟩ : ∃ p : Nat, i = (p : Int) := ⟨i.toNat, by omega⟩
    simp only [fin17, Int.toNat_natCast] at hR
    have ht := loop17 n x n2 y (i : Int)
    unfold rnd17 at ht
    by_cases hi : i < n2
    · obtain ⟨p, hp⟩ : ∃ p, n2 - i = p + 1 := ⟨n2 - i - 1, by omega⟩
      rw [Int.toNat_natCast, condT (decide_eq_true (by omega)), condT (by simp only [Bool.and_eq_true, decide_eq_true_eq]; omega), condT (by simp only [Bool.true_and, decide_eq_true_eq]; omega), wrapI (by omega) (by omega)] at ht
      rw [hp] at hR
      unfold neF at hR
      cases hc : ((y i 0).n != (x 0 0).n)
      · rw [condF hc] at ht
        rw [hc] at hR
        simp only [cond_false] at hR
        refine .inl ⟨⟨n, x, n2, y, (n2 : Int), (i : Int) + 1⟩, ht, rfl, ?_, ?_, ?_⟩
        · simp only [dom17, Bool.and_eq_true, decide_eq_true_eq, Nat.ble_eq, true_and]; omega
        · rw [← hR]
          have e4 : ((i : Int) + 1).toNat = i + 1 := by omega
          simp only [fin17, e4, show n2 - (i + 1) = p by omega]
        · simp only [Int.toNat_natCast]; omega
      · rw [condT hc] at ht
        rw [hc] at hR
        simp only [cond_true] at hR
        rw [show Nat.beq i n2 = false from by rw [← Bool.not_eq_true, Nat.beq_eq]; omega] at hR
        obtain rfl := Option.some.inj hR
        exact .inr ⟨by simp, ht⟩
    · obtain rfl : i = n2 := by omega
      rw [condF (decide_eq_false (by omega))] at ht
      refine .inr ?_
      simp only [Nat.sub_self, neF, Nat.beq_refl] at hR
      obtain rfl := Option.some.inj hR
      exact ⟨by simp, ht⟩
end Go.Proofs.Ytfgniheefiefjaa

/- A tree's build, with whatever families a call leaves. No condition. -/
namespace Go.Proofs.Ytfgniheefiefjaa
open Go.Evl Go.RowKit
structure FG where
  ok : Nat → (Nat → Nat → Dt) → Bool
  od : Nat → (Nat → Nat → Dt) → (Nat → Nat → Dt)
  c : Nat → (Nat → Nat → Dt) → Nat
  mf : Nat → (Nat → Nat → Dt) → Ky → Option Nat
  rf : Nat → (Nat → Nat → Dt) → Ky → Nat × (Nat → Nat → Dt)
noncomputable def h55g (G : FG) : HEnt := ⟨55, fun
  | [.isz n [.int .i64, .int .i64, .int .i64, .str, .str, .int .i64, .int .i64, .int .i64, .row [.str, .str], .row [.int .i64, .int .i64]] x] => .chk (Nat.ble n 12 && G.ok n x) (.leaf (.map 2, [.cells [.isz n SS x] 32, .own 3 [.int .i64] n (G.od n x), .mapF (.int .i64) (G.c n x) (.own 3 (G.mf n x)), .rows 25 SS (G.rf n x)]))
  | _ => .non⟩
noncomputable abbrev cVgb {β : Type} (G : FG) : CallK β := callHK (callK Try.prog spV inV extD attD uD 20) [h55g G]
noncomputable def cVgf {β : Type} (G : FG) : Nat → FuncId → List AV → List Ob → (Res → List Ob → Tr β) → Tr β
  | 0 => (cVgb G).fn
  | D + 1 => (callLK Try.prog spV inV extD ⟨cVgf G D, (cVgb G).rnd⟩ [(68, lp68 D)]).fn
noncomputable def cVg {β : Type} (G : FG) (D : Nat) : CallK β := ⟨cVgf G D, (cVgb G).rnd⟩
noncomputable def gAct : FG := ⟨okF, orN, fun n x => (faN n x).1, fun n x => (faN n x).2.1, fun n x => (faN n x).2.2⟩
theorem cVg_act {β : Type} : (cV 14 : CallK β) = cVg gAct 14 := by
  have h : ∀ D, (cVf D : FuncId → List AV → List Ob → (Res → List Ob → Tr β) → Tr β) = cVgf gAct D := by
    intro D
    induction D with
    | zero => rfl
    | succ D ih =>
      rw [cVf_succ, ih, cVgf]
      rfl
  unfold cV cVg
  rw [h]
  rfl
noncomputable abbrev cBg {β : Type} (G : FG) : CallK β := callLK Try.prog spV inV extD (cVg G 14) [(67, fun _ => .unroll 0)]
theorem cB_act {β : Type} : (cB : CallK β) = cBg gAct := by
  unfold cB cBg
  rw [cVg_act]
end Go.Proofs.Ytfgniheefiefjaa

/- A tree's build: the contract. Conditions: none beyond the context's. -/
namespace Go.Proofs.Ytfgniheefiefjaa
open Go.Evl Go.RowKit
/-- the state in which the first visit's loop is entered -/
noncomputable def stB (G : FG) (n : Nat) (x : Nat → Nat → Dt) : S68 := ⟨0, (x 0 0).n, 0, 0, 0, zeroEl, 0, zeroEl, n, soF n x, n, G.od n (soF n x), G.c n (soF n x), G.mf n (soF n x), G.rf n (soF n x), tmB n (soF n x), rfB.2.1, rfB.2.2.1, rfB.2.2.2, 0, -1, false, k0, (G.mf n (soF n x) k0).getD 0, (((G.mf n (soF n x) k0).getD 0 : Nat) : Int), 0, []⟩
theorem vt17 (G : FG) (n : Nat) (x : Nat → Nat → Dt) : (evFnT Try.prog spV inV extD (cBg G) lp17 Try.f17 [.isz n SS x] [] (castT (.tup [.agg [.any, .row SS, .row [.int .i64]], .any]))).run =
    (bif (n : Int) == 0 then some (.ret (.tup [.agg [.int .i64 0, .isz 0 SS zR, .isz 0 [.int .i64] zR], .int .i64 28])) else bif n.ble 9223372036854775807 then bif caE n x != 0 then some (.ret (.tup [.agg [.int .i64 0, .isz 0 SS zR, .isz 0 [.int .i64] zR], .int .i64 (caE n x)])) else bif true && (true && (decide ((n : Int) = (n : Int)) && (Nat.ble 1 n && n.ble 1000))) then
      bif (neF x (x 0 0).n (n - 0) 0).beq n then bif n.ble 12 then bif dfB n (soF n x) then bif decide ((n : Int) > 500) then some (.ret (.tup [.agg [.int .i64 0, .isz 0 SS zR, .isz 0 [.int .i64] zR], .int .i64 4])) else bif true && decide ((0 : Int) < (n : Int)) then bif n.ble 12 && G.ok n (soF n x) then bif (G.rf n (soF n x) k0).1.beq ((G.mf n (soF n x) k0).getD 0) then
        bif dom68 12 (stB G n x) then bif true && ((out68 12 (stB G n x)).m.beq (out68 12 (stB G n x)).m && ((out68 12 (stB G n x)).m.beq (out68 12 (stB G n x)).m && true)) && true then some (.ret (.tup [.agg [.int .i64 (x 0 0).n, .isz (out68 12 (stB G n x)).m SS (out68 12 (stB G n x)).sp, .isz (out68 12 (stB G n x)).m [.int .i64] (out68 12 (stB G n x)).pa], .int .i64 0])) else none else none else none else none else none
      else some (.ret (.tup [.agg [.int .i64 0, .isz 0 SS zR, .isz 0 [.int .i64] zR], .int .i64 6])) else none else some (.ret (.tup [.agg [.int .i64 0, .isz 0 SS zR, .isz 0 [.int .i64] zR], .int .i64 10])) else none else none : Option Res) := by kernel_rfl
/-- the tree's visits -/
noncomputable def vtO (n : Nat) (x : Nat → Nat → Dt) : Option VS := visK (faN n (soF n x)).2.2 13 0 (-1) ⟨0, zeroEl, zeroEl⟩
noncomputable def vtB (n : Nat) (x : Nat → Nat → Dt) : VS := (vtO n x).getD ⟨0, zeroEl, zeroEl⟩
noncomputable def okB (n : Nat) (x : Nat → Nat → Dt) : Bool := okF n (soF n x) && (verB 12 (faN n (soF n x)).2.1 (faN n (soF n x)).2.2 && (vtO n x).isSome)
/-- the build's error -/
def bdE (n : Nat) (x : Nat → Nat → Dt) : Int := bif Nat.beq n 0 then 28 else bif caE n x != 0 then caE n x else bif (neF x (x 0 0).n n 0).beq n then bif dfB n (soF n x) then 0 else 6 else 10
noncomputable def bdI (n : Nat) (x : Nat → Nat → Dt) : Int := bif bdE n x == 0 then (x 0 0).n else 0
noncomputable def bdN (n : Nat) (x : Nat → Nat → Dt) : Nat := bif bdE n x == 0 then (vtB n x).m else 0
noncomputable def bdS (n : Nat) (x : Nat → Nat → Dt) : Nat → Nat → Dt := bif bdE n x == 0 then (vtB n x).sp else zR
noncomputable def bdP (n : Nat) (x : Nat → Nat → Dt) : Nat → Nat → Dt := bif bdE n x == 0 then (vtB n x).pa else zR
noncomputable def t17 : Ent := ⟨17, fun
  | [.isz n [.int .i64, .int .i64, .int .i64, .str, .str, .int .i64, .int .i64, .int .i64, .row [.str, .str], .row [.int .i64, .int .i64]] x] => .chk (Nat.ble n 12 && (bdE n x != 0 || okB n x)) (.leaf (.ret (.tup [.agg [.int .i64 (bdI n x), .isz (bdN n x) SS (bdS n x), .isz (bdN n x) [.int .i64] (bdP n x)], .int .i64 (bdE n x)])))
  | _ => .non⟩
theorem dom_stB {n : Nat} {x : Nat → Nat → Dt} (_hn : n ≤ 12) (h : okB n x = true) : dom68 12 (stB gAct n x) = true ∧ out68 12 (stB gAct n x) = vtB n x := by
  unfold okB at h
  simp only [Bool.and_eq_true, verB_iff] at h
  obtain ⟨h1, h2, h3⟩ := h
  obtain ⟨S, hS⟩ := Option.isSome_iff_exists.1 h3
  have h4 := h2 k0
  have hk : ((gAct.mf n (soF n x) k0).getD 0) = ((faN n (soF n x)).2.2 k0).1 := h4.1
  have hS2 : visL (visK (faN n (soF n x)).2.2 12) ((faN n (soF n x)).2.2 k0).2 (-1) ((faN n (soF n x)).2.2 k0).1 0 ⟨0, zeroEl, zeroEl⟩ = some S := hS
  constructor
  · unfold dom68 stB
    rw [hk]
    simp only [Bool.and_eq_true, decide_eq_true_eq, Nat.ble_eq, Nat.beq_eq, ctxB_iff, ctxP, verB_iff, tlB_iff, Int.toNat_zero, Nat.sub_zero, List.length_nil, and_self, true_and]
    show (verP 1000 (faN n (soF n x)).2.1 (faN n (soF n x)).2.2) ∧ _
    refine ⟨fun key => ⟨(h2 key).1, by have := (h2 key).2; omega⟩, rfl, rfl, rfl, by omega, by omega, by omega, ?_⟩
    show (visL (visK (faN n (soF n x)).2.2 12) ((faN n (soF n x)).2.2 k0).2 (-1) ((faN n (soF n x)).2.2 k0).1 0 ⟨0, zeroEl, zeroEl⟩).isSome = true
    rw [hS2]; rfl
  · unfold out68 stB vtB
    rw [hk, hS]
    show (visL (visK (faN n (soF n x)).2.2 12) ((faN n (soF n x)).2.2 k0).2 (-1) ((faN n (soF n x)).2.2 k0).1 0 ⟨0, zeroEl, zeroEl⟩).getD _ = _
    rw [hS2]
set_option maxRecDepth 10000 in
theorem t17_ok : SpecHolds Try.prog InvD 17 fun a => (t17.2 a).run := by
  refine spec_of_evC Try.prog spV inV extD cB (fun {β} => cB_eq (β := β)) sxV stableD mixedD sndB Try.func17 (c := codeOf Try.prog 17) (by kernel_rfl) lp17 (fun p hp => by
    have hl : loops (codeOf Try.prog 17) = [(0, bodyOf Try.prog 17 0)] := by kernel_rfl
    rw [hl] at hp
    simp only [List.mem_cons, List.not_mem_nil, or_false] at hp
    obtain rfl := hp
    exact sum17) (.tup [.agg [.any, .row SS, .row [.int .i64]], .any]) fun args r hh => ?_
  simp only [t17] at hh
  split at hh
  · rename_i n x
    obtain ⟨hg, hh⟩ := chk_run hh
    rw [Bool.and_eq_true, Nat.ble_eq] at hg
    obtain ⟨hn, hg⟩ := hg
    refine ⟨by kernel_rfl, ?_⟩
    have ht := vt17 gAct n x
    rw [← cB_act] at ht
    refine ht.trans (Eq.trans ?_ hh)
    clear ht hh
    unfold bdI bdN bdS bdP
    unfold bdE at hg ⊢
    cases n with
    | zero => rfl
    | succ n =>
      rw [show (((n + 1 : Nat) : Int) == 0) = false from by rw [beq_eq_false_iff_ne]; omega, show Nat.beq (n + 1) 0 = false from rfl] 
      rw [show Nat.beq (n + 1) 0 = false from rfl] at hg
      simp only [cond_false] at hg ⊢
      rw [condT (by rw [Nat.ble_eq]; omega)]
      cases hc : caE (n + 1) x != 0 with
      | true =>
        have h0 : (caE (n + 1) x == 0) = false := by rw [beq_eq_false_iff_ne]; exact bne_iff_ne.1 hc
        simp only [cond_true, h0, cond_false, Tr.run]
      | false =>
        rw [hc] at hg
        simp only [cond_false] at hg ⊢
        rw [condT (by simp only [Bool.true_and, Bool.and_eq_true, decide_eq_true_eq, Nat.ble_eq, true_and]; omega), Nat.sub_zero]
        cases hq : (neF x (x 0 0).n (n + 1) 0).beq (n + 1) with
        | false => rfl
        | true =>
          rw [hq] at hg
          simp only [cond_true] at hg ⊢
          rw [condT (by rw [Nat.ble_eq]; omega)]
          cases hd : dfB (n + 1) (soF (n + 1) x) with
          | false => rfl
          | true =>
            rw [hd] at hg
            simp only [cond_true] at hg ⊢
            have ho : okB (n + 1) x = true := by simpa using hg
            obtain ⟨hd1, hd2⟩ := dom_stB (n := n + 1) hn ho
            unfold okB at ho
            simp only [Bool.and_eq_true, verB_iff] at ho
            rw [condF (decide_eq_false (by omega)), condT (by simp only [Bool.true_and, decide_eq_true_eq]; omega), condT (by rw [Bool.and_eq_true, Nat.ble_eq]; exact ⟨by omega, ho.1⟩), condT (by rw [Nat.beq_eq]; exact (ho.2.1 k0).1.symm), condT hd1, hd2]
            simp only [Nat.beq_refl, Bool.and_true, cond_true, beq_self_eq_true, Tr.run]
  · simp [Tr.run] at hh
end Go.Proofs.Ytfgniheefiefjaa

/- A tree's nodes, each before its children: what the visits leave. Plain laws; no condition. -/
namespace Go.Proofs.Ytfgniheefiefjaa
open Go.Evl Go.RowKit
def dL (rec_ : Nat → Int → List (Nat × Int) → Option (List (Nat × Int))) (ix : Int) : List Nat → List (Nat × Int) → Option (List (Nat × Int))
  | [], s => some s
  | c :: r, s => if s.length < 1000 then match rec_ c (s.length : Int) (s ++ [(c, ix)]) with
    | none => none
    | some s' => dL rec_ ix r s' else none
def dK (ch : Option Nat → List Nat) : Nat → Option Nat → Int → List (Nat × Int) → Option (List (Nat × Int))
  | 0, _, _, _ => none
  | d + 1, J, ix, s => dL (fun c => dK ch d (some c)) ix (ch J) s
/-- the entries that follow, from place m on -/
def preL (rec_ : Nat → Int → Nat → List (Nat × Int)) (ix : Int) : List Nat → Nat → List (Nat × Int)
  | [], _ => []
  | c :: r, m => (c, ix) :: rec_ c (m : Int) (m + 1) ++ preL rec_ ix r (m + 1 + (rec_ c (m : Int) (m + 1)).length)
def preT (ch : Option Nat → List Nat) : Nat → Option Nat → Int → Nat → List (Nat × Int)
  | 0, _, _, _ => []
  | d + 1, J, ix, m => preL (fun c => preT ch d (some c)) ix (ch J) m
theorem preT_fst (ch : Option Nat → List Nat) : ∀ d J ix m, (preT ch d J ix m).map (·.1) = subT ch d J
  | 0, _, _, _ => rfl
  | d + 1, J, ix, m => by
    simp only [preT, subT]
    generalize ch J = l
    induction l generalizing m with
    | nil => rfl
    | cons c r ih =>
      simp only [preL, List.flatMap_cons, List.map_append, List.map_cons]
      rw [ih, preT_fst ch d]
def OkD (ch : Option Nat → List Nat) : Nat → Option Nat → Prop
  | 0, _ => False
  | d + 1, J => ∀ c ∈ ch J, OkD ch d (some c)
theorem okD_some {q : Nat → Option Nat} {n : Nat} {ch : Option Nat → List Nat} (hf : Fam q n ch) : ∀ d j, j < n → (∀ k, k < n → upO q d k ≠ some j) → OkD ch d (some j)
  | 0, j, hj, h => h j hj rfl
  | d + 1, j, hj, h => fun c hc => by
    have hc' := (hf.mem _ _).1 hc
    refine okD_some hf d c hc'.1 fun k hk e => h k hk ?_
    simp [upO, e, hc'.2]
theorem okD_root {q : Nat → Option Nat} {n : Nat} {ch : Option Nat → List Nat} (hf : Fam q n ch) (he : Ends q n) {d : Nat} (hd : n ≤ d) : OkD ch (d + 1) none := fun c hc => by
  refine okD_some hf d c ((hf.mem _ _).1 hc).1 fun k hk e => ?_
  rw [upO_none (up_bound hf.q_lt he hk) hd] at e
  cases e
theorem dK_pre (ch : Option Nat → List Nat) : ∀ d J ix s, OkD ch d J → s.length + (subT ch d J).length ≤ 1000 → dK ch d J ix s = some (s ++ preT ch d J ix s.length)
  | 0, _, _, _, h, _ => h.elim
  | d + 1, J, ix, s, h, hs => by
    simp only [dK, preT]
    simp only [subT] at hs
    have h : ∀ c ∈ ch J, OkD ch d (some c) := h
    generalize ch J = l at *
    induction l generalizing s with
    | nil => simp [dL, preL]
    | cons c r ih =>
      rw [List.flatMap_cons, List.length_append, List.length_cons] at hs
      simp only [dL, preL]
      rw [if_pos (by omega), dK_pre ch d (some c) _ _ (h c (List.mem_cons_self ..)) (by rw [List.length_append, List.length_cons, List.length_nil]; omega)]
      have e1 : (preT ch d (some c) (s.length : Int) (s.length + 1)).length = (subT ch d (some c)).length := by
        rw [← preT_fst ch d (some c) (s.length : Int) (s.length + 1), List.length_map]
      have e2 : (s ++ [(c, ix)]).length = s.length + 1 := by rw [List.length_append]; rfl
      rw [e2]
      show dL _ ix r _ = _
      rw [ih _ (by rw [List.length_append, e2, e1]; omega) fun b hb => h b (List.mem_cons_of_mem _ hb)]
      rw [List.length_append, e2]
      simp only [List.append_assoc, List.cons_append, List.nil_append]
/-- spans and parents of a list of entries -/
def repS (x : Nat → Nat → Dt) (s : List (Nat × Int)) : VS := s.foldl (fun S e => S.push (nmT (x e.1)) e.2) ⟨0, zeroEl, zeroEl⟩
theorem repS_push (x : Nat → Nat → Dt) (s : List (Nat × Int)) (k : Nat) (p : Int) : (repS x s).push (nmT (x k)) p = repS x (s ++ [(k, p)]) := by
  unfold repS
  rw [List.foldl_append]
  rfl
theorem repS_m (x : Nat → Nat → Dt) : ∀ s : List (Nat × Int), (repS x s).m = s.length := by
  have : ∀ (s : List (Nat × Int)) (S : VS), (s.foldl (fun S e => S.push (nmT (x e.1)) e.2) S).m = S.m + s.length := by
    intro s
    induction s with
    | nil => intro S; rfl
    | cons e r ih =>
      intro S
      rw [List.foldl_cons, ih]
      simp only [VS.push, List.length_cons]
      omega
  intro s
  unfold repS
  rw [this]
  simp
def kyO (x : Nat → Nat → Dt) : Option Nat → Int
  | none => 0
  | some j => (x j 1).n
/-- rows that tell a list of spans -/
def Rows (x : Nat → Nat → Dt) (l : List Nat) (r : Nat × (Nat → Nat → Dt)) : Prop := r.1 = l.length ∧ ∀ i (h : i < l.length), r.2 i = nmT (x l[i])
theorem visK_dK {x : Nat → Nat → Dt} {ch : Option Nat → List Nat} {rf : Ky → Nat × (Nat → Nat → Dt)} {P : Option Nat → Prop} (hP : ∀ J c, c ∈ ch J → P (some c)) (hr : ∀ J, P J → Rows x (ch J) (rf (.int (kyO x J)))) : ∀ d J ix s, P J → visK rf d (kyO x J) ix (repS x s) = (dK ch d J ix s).map (repS x)
  | 0, _, _, _, _ => rfl
  | d + 1, J, ix, s, hJ => by
    simp only [visK, dK]
    obtain ⟨h1, h2⟩ := hr J hJ
    rw [h1]
    have key : ∀ (l : List Nat) (i : Nat) (s : List (Nat × Int)), (∀ c ∈ l, P (some c)) → (∀ j (h : j < l.length), (rf (.int (kyO x J))).2 (i + j) = nmT (x l[j])) → visL (visK rf d) (rf (.int (kyO x J))).2 ix l.length i (repS x s) = (dL (fun c => dK ch d (some c)) ix l s).map (repS x) := by
      intro l
      induction l with
      | nil => intro i s _ _; rfl
      | cons c r ih =>
        intro i s hc hl
        have h0 := hl 0 (by simp)
        rw [Nat.add_zero] at h0
        simp only [List.getElem_cons_zero] at h0
        rw [List.length_cons, visL_succ, repS_m, h0, repS_push]
        simp only [dL]
        by_cases hm : s.length < 1000
        · rw [if_pos hm, if_pos hm]
          have := visK_dK hP hr d (some c) (s.length : Int) (s ++ [(c, ix)]) (hc c (List.mem_cons_self ..))
          rw [show (nmT (x c) 1).n = kyO x (some c) from rfl, this]
          cases dK ch d (some c) (s.length : Int) (s ++ [(c, ix)]) with
          | none => rfl
          | some s' =>
            show visL _ _ _ _ _ (repS x s') = _
            rw [ih (i + 1) s' (fun b hb => hc b (List.mem_cons_of_mem _ hb)) fun j hj => by
              have := hl (j + 1) (by simpa using hj)
              rw [show i + 1 + j = i + (j + 1) by omega, this]
              rfl]
        · rw [if_neg hm, if_neg hm]
          rfl
    exact key (ch J) 0 s (fun c hc => hP J c hc) fun j hj => by rw [Nat.zero_add]; exact h2 j hj
end Go.Proofs.Ytfgniheefiefjaa

/- Families as rows, the visits: the tree's build under no condition. Plain laws; no condition. -/
namespace Go.Proofs.Ytfgniheefiefjaa
open Go.Evl Go.RowKit
theorem rows_app {x : Nat → Nat → Dt} {l : List Nat} {r : Nat × (Nat → Nat → Dt)} (h : Rows x l r) (k : Nat) : Rows x (l ++ [k]) (r.1 + 1, appEl r.2 r.1 (rwE x k)) := by
  obtain ⟨h1, h2⟩ := h
  refine ⟨by rw [List.length_append, h1]; rfl, fun i hi => ?_⟩
  rw [List.length_append, List.length_cons, List.length_nil] at hi
  show appEl r.2 r.1 (rwE x k) i = _
  unfold appEl
  by_cases e : i < l.length
  · rw [show Nat.blt i r.1 = true from by rw [Nat.blt_eq]; omega, cond_true, h2 i e, List.getElem_append_left e]
  · rw [show Nat.blt i r.1 = false from by rw [Bool.eq_false_iff]; intro z; rw [Nat.blt_eq] at z; omega, cond_false, List.getElem_append_right (by omega)]
    simp only [show i - r.1 = 0 by omega, show i - l.length = 0 by omega, List.getElem_cons_zero]
    rfl
theorem chF_ok (x pc o : Nat → Nat → Dt) : ∀ (f i : Nat) (s : Nat × (Ky → Option Nat) × (Ky → Nat × (Nat → Nat → Dt))) (l : List Nat), (∀ key, Rows x (l.filter fun k => pkF x pc k == key) (s.2.2 (.int key))) → verP i s.2.1 s.2.2 →
    (∀ key, Rows x ((l ++ (List.range f).map fun j => (o (i + j) 0).n.toNat).filter fun k => pkF x pc k == key) ((chF x pc o f i s).2.2 (.int key))) ∧ verP (i + f) (chF x pc o f i s).2.1 (chF x pc o f i s).2.2
  | 0, i, s, l, h, hv => by
    rw [List.range_zero, List.map_nil, List.append_nil]
    exact ⟨h, hv⟩
  | f + 1, i, s, l, h, hv => by
    simp only [chF]
    have hl : l ++ (List.range (f + 1)).map (fun j => (o (i + j) 0).n.toNat) = (l ++ [(o i 0).n.toNat]) ++ (List.range f).map (fun j => (o (i + 1 + j) 0).n.toNat) := by
      rw [List.range_succ_eq_map, List.map_cons, List.map_map, List.append_assoc]
      congr 2
      refine List.map_congr_left fun j _ => ?_
      simp only [Function.comp]
      rw [show i + 1 + j = i + (j + 1) by omega]
    rw [hl, show i + (f + 1) = i + 1 + f by omega]
    refine chF_ok x pc o f (i + 1) _ _ (fun key => ?_) (verP_put hv _ _)
    rw [List.filter_append]
    dsimp only
    by_cases e : key = pkF x pc (o i 0).n.toNat
    · subst e
      rw [putK_at, List.filter_cons, if_pos (beq_self_eq_true _), List.filter_nil]
      exact rows_app (h _) _
    · rw [putK_ne _ _ (show Ky.int key ≠ Ky.int (pkF x pc (o i 0).n.toNat) from fun z => e (Ky.int.inj z)), List.filter_cons, if_neg (by simpa using fun z => e z.symm), List.filter_nil, List.append_nil]
      exact h key
/-- a node's children in order -/
def chN (n : Nat) (x : Nat → Nat → Dt) (J : Option Nat) : List Nat := (olN n x).filter fun k => decide (parO (pcN n x) k = J)
theorem fam_chN (n : Nat) (x : Nat → Nat → Dt) : Fam (fun k => if k < n then parO (pcN n x) k else none) n (chN n x) where
  q_lt := fun k c h => by
    split at h
    · rename_i hk
      exact parO_lt (okP_true n x).2.1 hk h
    · cases h
  nodup := fun J => ((olN_perm n x).nodup_iff.2 List.nodup_range).filter _
  mem := fun J c => by
    unfold chN
    rw [List.mem_filter, (olN_perm n x).mem_iff, List.mem_range, decide_eq_true_eq]
    constructor
    · rintro ⟨h1, h2⟩
      exact ⟨h1, by rw [if_pos h1]; exact h2⟩
    · rintro ⟨h1, h2⟩
      refine ⟨h1, ?_⟩
      rw [if_pos h1] at h2
      exact h2
end Go.Proofs.Ytfgniheefiefjaa

/- A tree that is built: its spans' identities, the visits, under no condition. Plain laws; no condition. -/
namespace Go.Proofs.Ytfgniheefiefjaa
open Go.Evl Go.RowKit
/-- spans in order that make a tree -/
structure Good (n : Nat) (y : Nat → Nat → Dt) : Prop where
  one : 1 ≤ n
  sp : ∀ k, k < n → spE y k = 0
  pos : ∀ k, k < n → 1 ≤ (y k 1).n
  inc : ∀ a b, a < b → b < n → (y a 1).n < (y b 1).n
  tr : ∀ k, k < n → (y k 0).n = (y 0 0).n
theorem spE_vE {x y : Nat → Nat → Dt} {i j : Nat} (h : vE x i = vE y j) : spE x i = spE y j := by
  obtain ⟨h0, h1, h2, h3, h4, h5, h6, h7, h8, h9, h10, h11⟩ := vE_cell h
  unfold spE
  rw [h0, h1, h2, h3, h4, h5, h6, h7, h8, h9, h10, h11]
theorem spE_pos {x : Nat → Nat → Dt} {k : Nat} (h : spE x k = 0) : 1 ≤ (x k 1).n := by
  unfold spE scE at h
  split at h
  · rename_i h1; exact h1.2.1.1
  · cases h
theorem caE_zero {n : Nat} {x : Nat → Nat → Dt} (h : caE n x = 0) : ∀ k, k < n → spE x k = 0 := by
  intro k hk
  unfold caE at h
  cases e : scan (spG x) n 0 with
  | none =>
    have := scan_none e k (by omega) (by omega)
    unfold spG at this
    split at this
    · assumption
    · cases this
  | some q =>
    exfalso
    rw [e] at h
    obtain ⟨a, b⟩ := q
    have h2 : spG x b = some a := by
      have : ∀ (f i : Nat), scan (spG x) f i = some (a, b) → spG x b = some a := by
        intro f
        induction f with
        | zero => intro i h; cases h
        | succ f ih =>
          intro i h
          simp only [scan] at h
          cases e2 : spG x i with
          | none => rw [e2] at h; exact ih _ h
          | some v =>
            rw [e2] at h
            cases h
            exact e2
      exact this n 0 e
    have h3 : a = 0 := h
    unfold spG at h2
    split at h2
    · cases h2
    · rename_i hne
      exact hne ((Option.some.inj h2).trans h3)
theorem neF_all {y : Nat → Nat → Dt} {t : Int} : ∀ (f i : Nat), neF y t f i = i + f → ∀ k, i ≤ k → k < i + f → (y k 0).n = t
  | 0, i, _, k, h1, h2 => by omega
  | f + 1, i, h, k, h1, h2 => by
    unfold neF at h
    cases hc : ((y i 0).n != t) with
    | true => rw [hc] at h; simp only [cond_true] at h; omega
    | false =>
      rw [hc] at h
      simp only [cond_false] at h
      by_cases e : k = i
      · subst e
        simpa using hc
      · exact neF_all f (i + 1) (by omega) k (by omega) (by omega)
theorem good_of {n : Nat} {x : Nat → Nat → Dt} (h : bdE n x = 0) : Good n (soF n x) ∧ dsL n x ∧ (∀ k, k < n → spE x k = 0) ∧ ∀ k, k < n → (x k 0).n = (x 0 0).n := by
  unfold bdE at h
  cases n with
  | zero => cases h
  | succ n =>
    rw [show Nat.beq (n + 1) 0 = false from rfl, cond_false] at h
    cases hc : caE (n + 1) x != 0 with
    | true =>
      rw [hc] at h
      simp only [cond_true] at h
      exact absurd h (bne_iff_ne.1 hc)
    | false =>
      have hca : caE (n + 1) x = 0 := by simpa using hc
      rw [hc, cond_false] at h
      cases hq : (neF x (x 0 0).n (n + 1) 0).beq (n + 1) with
      | false => rw [hq] at h; cases h
      | true =>
        rw [hq, cond_true] at h
        cases hd : dfB (n + 1) (soF (n + 1) x) with
        | false => rw [hd] at h; cases h
        | true =>
          have hds := (dfB_iff _ _).1 hd
          have htr : ∀ k, k < n + 1 → (x k 0).n = (x 0 0).n := fun k hk => neF_all (n + 1) 0 (by rw [Nat.zero_add]; exact (by simpa using hq)) k (by omega) (by omega)
          have hsp := caE_zero hca
          obtain ⟨so1, so2⟩ := soF_ok (n + 1) x
          have hrow : ∀ k, k < n + 1 → ∃ j, j < n + 1 ∧ vE (soF (n + 1) x) k = vE x j := fun k hk => toL_mem.1 (so2.mem_iff.1 (toL_mem.2 ⟨k, hk, rfl⟩))
          have hsp' : ∀ k, k < n + 1 → spE (soF (n + 1) x) k = 0 := fun k hk => by
            obtain ⟨j, hj, e⟩ := hrow k hk
            rw [spE_vE e]
            exact hsp j hj
          have htr' : ∀ k, k < n + 1 → (soF (n + 1) x k 0).n = (x 0 0).n := fun k hk => by
            obtain ⟨j, hj, e⟩ := hrow k hk
            rw [(vE_cell e).1]
            exact htr j hj
          refine ⟨⟨by omega, hsp', fun k hk => spE_pos (hsp' k hk), fun a b hab hb => ?_, fun k hk => by rw [htr' k hk, htr' 0 (by omega)]⟩, hds, hsp, htr⟩
          have h1 := so1 a b hab hb
          have h2 := dsL_iff.1 ((dsL_perm so2).2 hds) a b hab hb
          have h3 := htr' a (by omega)
          have h4 := htr' b hb
          unfold lxE at h1
          omega
end Go.Proofs.Ytfgniheefiefjaa

/- A tree that is built: the visits' spans and parents. Plain laws; no condition. -/
namespace Go.Proofs.Ytfgniheefiefjaa
open Go.Evl Go.RowKit
theorem pkF_ky (y pc : Nat → Nat → Dt) (k : Nat) : pkF y pc k = kyO y (parO pc k) := by
  unfold pkF parO
  by_cases h : (pc k 0).n ≥ 0
  · rw [decide_eq_true h, cond_true]
    unfold oi
    rw [if_pos h]
    rfl
  · rw [decide_eq_false h, cond_false, oi_neg (by omega)]
    rfl
theorem ky_inj {n : Nat} {y : Nat → Nat → Dt} (h : Good n y) {J K : Option Nat} (hJ : ∀ j, J = some j → j < n) (hK : ∀ j, K = some j → j < n) (e : kyO y J = kyO y K) : J = K := by
  cases J with
  | none =>
    cases K with
    | none => rfl
    | some k => have := h.pos k (hK k rfl); simp only [kyO] at e; omega
  | some j =>
    cases K with
    | none => have := h.pos j (hJ j rfl); simp only [kyO] at e; omega
    | some k =>
      simp only [kyO] at e
      rcases Nat.lt_trichotomy j k with h1 | h1 | h1
      · have := h.inc j k h1 (hK k rfl); omega
      · rw [h1]
      · have := h.inc k j h1 (hJ j rfl); omega
/-- the tree's entries: spans' places in order, parents' places in the tree -/
def enT (n : Nat) (y : Nat → Nat → Dt) : List (Nat × Int) := preT (chN n y) 13 none (-1) 0
theorem faN_rows {n : Nat} {y : Nat → Nat → Dt} (h : Good n y) : (∀ J, (∀ j, J = some j → j < n) → Rows y (chN n y J) ((faN n y).2.2 (.int (kyO y J)))) ∧ verP n (faN n y).2.1 (faN n y).2.2 := by
  have hh := chF_ok y (pcN n y) (orN n y) n 0 (0, (fun _ => none), fun _ => (0, zeroEl)) [] (fun key => ⟨rfl, fun i hi => by cases hi⟩) fun key => ⟨rfl, Nat.le_refl _⟩
  rw [Nat.zero_add] at hh
  refine ⟨fun J hJ => ?_, ?_⟩
  · have h1 := hh.1 (kyO y J)
    have e : chN n y J = ([] ++ (List.range n).map fun j => (orN n y (0 + j) 0).n.toNat).filter fun k => pkF y (pcN n y) k == kyO y J := by
      unfold chN olN
      rw [List.nil_append]
      simp only [Nat.zero_add]
      refine List.filter_congr fun k hk => ?_
      have hkn : k < n := List.mem_range.1 ((olN_perm n y).mem_iff.1 hk)
      rw [pkF_ky, Bool.eq_iff_iff, decide_eq_true_eq, beq_iff_eq]
      exact ⟨fun z => by rw [z], fun z => ky_inj h (fun j hj => parO_lt (okP_true n y).2.1 hkn hj) hJ z⟩
    rw [e]
    unfold faN
    rw [Nat.sub_zero]
    exact h1
  · unfold faN
    rw [Nat.sub_zero]
    exact hh.2
theorem up_if {n : Nat} {q : Nat → Option Nat} (hq : ∀ k, k < n → ∀ c, q k = some c → c < n) : ∀ t k, k < n → upO (fun k => if k < n then q k else none) t k = upO q t k
  | 0, _, _ => rfl
  | t + 1, k, hk => by
    rw [upO_one, upO_one]
    rw [if_pos hk]
    cases e : q k with
    | none => rfl
    | some c => exact up_if hq t c (hq k hk c e)
theorem ends_chN (n : Nat) (y : Nat → Nat → Dt) : Ends (fun k => if k < n then parO (pcN n y) k else none) n := fun k hk => by
  obtain ⟨_, h1, h2, _⟩ := okP_true n y
  obtain ⟨t, ht⟩ := h2 k hk
  exact ⟨t, by rw [up_if (fun k hk c => parO_lt h1 hk) t k hk]; exact ht⟩
theorem subT_chN {n : Nat} (hn : n ≤ 12) (y : Nat → Nat → Dt) : (subT (chN n y) 13 none).Perm (List.range n) := subT_perm (fam_chN n y) (ends_chN n y) (by omega)
theorem visK_en {n : Nat} {y : Nat → Nat → Dt} (h : Good n y) (hn : n ≤ 12) : visK (faN n y).2.2 13 0 (-1) ⟨0, zeroEl, zeroEl⟩ = some (repS y (enT n y)) := by
  have h1 := visK_dK (P := fun J => ∀ j, J = some j → j < n) (fun J c hc j hj => by
    cases hj
    exact (((fam_chN n y).mem J c).1 hc).1) (faN_rows h).1 13 none (-1) [] (fun j hj => by cases hj)
  have h2 := dK_pre (chN n y) 13 none (-1) [] (okD_root (fam_chN n y) (ends_chN n y) (by omega)) (by
    rw [(subT_chN hn y).length_eq, List.length_range, List.length_nil]; omega)
  rw [h2] at h1
  exact h1
theorem okB_true {n : Nat} {x : Nat → Nat → Dt} (hn : n ≤ 12) (h : bdE n x = 0) : okB n x = true ∧ vtB n x = repS (soF n x) (enT n (soF n x)) := by
  have hg := (good_of h).1
  have hv := visK_en hg hn
  constructor
  · unfold okB vtO
    rw [okF_true, hv, verB_iff.2 (show verP 12 (faN n (soF n x)).2.1 (faN n (soF n x)).2.2 from fun key => by
      have := (faN_rows hg).2 key
      exact ⟨this.1, by omega⟩)]
    rfl
  · unfold vtB vtO
    rw [hv]
    rfl
end Go.Proofs.Ytfgniheefiefjaa

/- SpantreeGroup's walk, and that both groups read alike. Conditions: none beyond the context's. -/
namespace Go.Proofs.Ytfgniheefiefjaa
open Go.Evl Go.RowKit

theorem zF_shift (y : Nat → Nat → Dt) (t : Int) (i : Nat) : ∀ f k, zF (fun j => y (j + i)) t f k + i = zF y t f (k + i)
  | 0, k => rfl
  | f + 1, k => by
    simp only [zF]
    by_cases h : (y (k + i) 0).n = t
    · rw [if_pos h, if_pos h, zF_shift y t i f (k + 1), show k + 1 + i = k + i + 1 by omega]
    · rw [if_neg h, if_neg h]
theorem rg_gr {n : Nat} {y : Nat → Nat → Dt} : ∀ (f i g : Nat) (q : Nat → Nat → Dt), rgF n y f i g q = grF f (n - i) (fun j => y (j + i)) g q
  | 0, i, g, q => rfl
  | f + 1, i, g, q => by
    simp only [rgF, grF]
    by_cases h : i < n
    · rw [if_pos h, if_neg (by omega), rg_gr f]
      have hz : zF y (y i 0).n (n - i) i = zF (fun j => y (j + i)) (y (0 + i) 0).n (n - i - 1) 1 + i := by
        rw [zF_shift, Nat.zero_add]
        obtain ⟨p, hp⟩ : ∃ p, n - i = p + 1 := ⟨n - i - 1, by omega⟩
        rw [hp, Nat.add_sub_cancel, Nat.add_comm 1 i]
        simp only [zF, if_true]
      rw [hz]
      generalize zF (fun j => y (j + i)) (y (0 + i) 0).n (n - i - 1) 1 = z
      rw [show n - (z + i) = n - i - z by omega, Nat.add_sub_cancel]
      have e1 : (fun j => y (j + (z + i))) = fun j => y (j + z + i) := by funext j; rw [Nat.add_assoc]
      rw [e1]
      rfl
    · rw [if_neg h, if_pos (by omega)]
/-- a span whose rows are not too long -/
def smV (v : List Dt) : Prop := (dtF v 8).len ≤ 1000000 ∧ (dtF v 9).len ≤ 1000000
theorem esG_of {x y : Nat → Nat → Dt} {k : Nat} (h : vE x k = vE y k) (hs : smV (vE x k)) : esG x y k = true := by
  obtain ⟨h0, h1, h2, h3, h4, h5, h6, h7, h8, h9, h10, h11⟩ := vE_cell h
  obtain ⟨s1, s2⟩ := hs
  have s1' : (x k 8).len ≤ 1000000 := s1
  have s2' : (x k 9).len ≤ 1000000 := s2
  unfold esG esB
  rw [← h0, ← h1, ← h2, ← h3, ← h4, ← h5, ← h6, ← h7, ← h8, ← h9, ← h10, ← h11, elB_refl, ekB_refl, Nat.ble_eq_true_of_le s1', Nat.ble_eq_true_of_le s2']
  simp
/-- rows of rows that read alike -/
def GA (g : Nat) (q q' : Nat → Nat → Dt) : Prop := ∀ k, k < g → (q k 0).len = (q' k 0).len ∧ (q k 0).len ≤ 1000 ∧ ∀ i, i < (q k 0).len → vE (q k 0).el i = vE (q' k 0).el i ∧ smV (vE (q k 0).el i)
theorem GA_gaB {g : Nat} {q q' : Nat → Nat → Dt} (h : GA g q q') : gaB g q g q' = true := by
  unfold gaB
  rw [Nat.beq_refl, Bool.true_and]
  refine List.all_eq_true.2 fun k hk => ?_
  obtain ⟨h1, h2, h3⟩ := h k (List.mem_range.1 hk)
  rw [Bool.and_eq_true]
  refine ⟨Nat.ble_eq_true_of_le (by omega), ?_⟩
  unfold erB
  rw [← h1, Nat.beq_refl, Bool.true_and]
  exact List.all_eq_true.2 fun i hi => esG_of (h3 i (List.mem_range.1 hi)).1 (h3 i (List.mem_range.1 hi)).2
theorem app_at {el el' : Nat → Nat → Dt} {n i : Nat} : appEl el n el' i = if i < n then el i else el' (i - n) := by
  unfold appEl
  by_cases h : i < n
  · rw [if_pos h, show Nat.blt i n = true by rw [Nat.blt_eq]; exact h]; rfl
  · rw [if_neg h, show Nat.blt i n = false by rw [Bool.eq_false_iff]; simpa using h]; rfl
theorem zF_alike {x y : Nat → Nat → Dt} {t : Int} {r : Nat} (h : ∀ i, i < r → vE x i = vE y i) : ∀ f k, k + f ≤ r → zF x t f k = zF y t f k
  | 0, k, _ => rfl
  | f + 1, k, hk => by
    simp only [zF]
    rw [(vE_cell (h k (by omega))).1, zF_alike h f (k + 1) (by omega)]
theorem grF_alike : ∀ (f r g : Nat) (x y q q' : Nat → Nat → Dt), r ≤ 1000 → (∀ i, i < r → vE x i = vE y i ∧ smV (vE x i)) → GA g q q' → (grF f r x g q).1 = (grF f r y g q').1 ∧ GA (grF f r x g q).1 (grF f r x g q).2 (grF f r y g q').2
  | 0, r, g, x, y, q, q', _, _, hg => ⟨rfl, hg⟩
  | f + 1, r, g, x, y, q, q', hr, hv, hg => by
    simp only [grF]
    by_cases h0 : r = 0
    · rw [if_pos h0, if_pos h0]
      exact ⟨rfl, hg⟩
    · rw [if_neg h0, if_neg h0, (vE_cell (hv 0 (by omega)).1).1, zF_alike (fun i hi => (hv i hi).1) (r - 1) 1 (by omega)]
      have hz := zF_le y (y 0 0).n (r - 1) 1
      generalize zF y (y 0 0).n (r - 1) 1 = z at hz
      refine grF_alike f (r - z) (g + 1) _ _ _ _ (by omega) (fun i hi => hv (i + z) (by omega)) fun k hk => ?_
      rw [app_at, app_at]
      by_cases hkg : k < g
      · rw [if_pos hkg, if_pos hkg]
        exact hg k hkg
      · rw [if_neg hkg, if_neg hkg, show k - g = 0 by omega]
        exact ⟨rfl, by show z ≤ 1000; omega, fun i hi => hv i (by have : i < z := hi; omega)⟩
theorem smV_perm {n : Nat} {x y : Nat → Nat → Dt} (hp : (toL n x).Perm (toL n y)) (h : ∀ i, i < n → smV (vE y i)) : ∀ i, i < n → smV (vE x i) := fun i hi => by
  obtain ⟨k, hk, e⟩ := toL_mem.1 (hp.mem_iff.1 (toL_mem.2 ⟨i, hi, rfl⟩))
  rw [e]; exact h k hk
theorem gp_gq {n : Nat} {x : Nat → Nat → Dt} (hn : n ≤ 1000) (hs : ∀ i, i < n → smV (vE x i)) : gpE n x = gqE n x ∧ (gpG n x).1 = (gqG n x).1 ∧ GA (gpG n x).1 (gpG n x).2 (gqG n x).2 := by
  obtain ⟨h1, h2⟩ := rs_so n x
  unfold gpE gqE gpG gqG
  rw [h1]
  cases caE n x != 0 with
  | true => exact ⟨rfl, rfl, fun k hk => by cases hk⟩
  | false =>
    simp only [cond_false]
    cases hd : dfB n (soF n x) with
    | false => exact ⟨trivial, rfl, fun k hk => by cases hk⟩
    | true =>
      obtain ⟨e1, e2⟩ := h2 hd
      simp only [cond_true]
      rw [e1, Nat.sub_zero, rg_gr, Nat.sub_zero]
      obtain ⟨a, b⟩ := grF_alike n n 0 (soF n x) (rsF x n 0 zeroEl).2.2 zeroEl zeroEl hn (fun i hi => ⟨e2 i hi, smV_perm (soF_ok n x).2 hs i hi⟩) (fun k hk => by cases hk)
      exact ⟨trivial, a, b⟩
/-- what a reading of spans gives -/
def okL (n : Nat) (x : Nat → Nat → Dt) : Bool := Nat.ble n 9223372036854775807 && (lnB n x && (List.range n).all fun k => inI (x k 0).n && inB (x k 9).len (x k 9).el)
theorem gl_sm {n : Nat} {x : Nat → Nat → Dt} (h : glB n x = false) : n ≤ 12 ∧ ∀ k, k < n → gsG x k = false := by
  unfold glB at h
  simp only [Bool.or_eq_false_iff, Bool.not_eq_eq_eq_not, Bool.not_false, decide_eq_false_iff_not] at h
  refine ⟨by omega, fun k hk => ?_⟩
  have hs : scan (g16 n x) (n - 0) 0 = none := by simpa [sc16] using h.1
  have := scan_none hs k (Nat.zero_le _) (by omega)
  unfold g16 at this
  split at this
  · cases this
  · rename_i hh
    exact bnx hh
theorem gs_len {x : Nat → Nat → Dt} {k : Nat} (h : gsG x k = false) : (x k 8).len ≤ 17 ∧ (x k 9).len ≤ 17 := by
  unfold gsG gsB grB at h
  simp only [Bool.or_eq_false_iff, decide_eq_false_iff_not] at h
  omega
theorem okL_ck {n : Nat} {x : Nat → Nat → Dt} (h : okL n x = true) (hg : glB n x = false) : ckB n x = true ∧ ∀ k, k < n → smV (vE x k) := by
  unfold okL at h
  simp only [Bool.and_eq_true] at h
  obtain ⟨h1, h2⟩ := gl_sm hg
  refine ⟨List.all_eq_true.2 fun k hk => ?_, fun k hk => ?_⟩
  · have h3 := List.all_eq_true.1 h.2.2 k hk
    rw [Bool.and_eq_true] at h3
    have h4 := h2 k (List.mem_range.1 hk)
    unfold gsG at h4
    unfold siB
    rw [h3.1, h3.2, gs_sm h4]; rfl
  · obtain ⟨e1, e2⟩ := gs_len (h2 k hk)
    exact ⟨by show (x k 8).len ≤ 1000000; omega, by show (x k 9).len ≤ 1000000; omega⟩
theorem lx8 : (mkCx Try.prog (spOf [t16, t29, t30, t31, iAw]) (inlOf []) extD).Ok InvD := cx_of [] (by kernel_rfl) (by
  intro p hp
  simp only [List.mem_cons, List.not_mem_nil, or_false] at hp
  rcases hp with rfl | rfl | rfl | rfl | rfl
  · exact t16_ok
  · exact t29_ok
  · exact t30_ok
  · exact t31_ok
  · exact iAw_ok)

theorem lt8 (n : Nat) (x : Nat → Nat → Dt) : evFn Try.prog (spOf [t16, t29, t30, t31, iAw]) (inlOf []) extD (cKD [t16, t29, t30, t31, iAw] []) (fun _ => .unroll 0) Try.f8 [.isz n SS x] [] (fun r _ => some r) =
    (bif n.ble 9223372036854775807 && lnB n x then bif glB n x then RB true else bif n.ble 12 then bif n.ble 12 && ckB n x then bif (gpG n x).1.ble 1000000 && gaB (gpG n x).1 (gpG n x).2 (gqG n x).1 (gqG n x).2 then bif gpE n x == gqE n x then RB true else RB false else none else none else none else none : Option Res) := by kernel_rfl
def l8 : Ent := ⟨8, fun
  | [.isz n [.int .i64, .int .i64, .int .i64, .str, .str, .int .i64, .int .i64, .int .i64, .row [.str, .str], .row [.int .i64, .int .i64]] x] => .chk (okL n x) (.leaf (.ret (.bool true)))
  | _ => .non⟩
theorem grF_cnt : ∀ (f r g : Nat) (x q : Nat → Nat → Dt), (grF f r x g q).1 ≤ g + f
  | 0, _, g, _, _ => Nat.le_refl _
  | f + 1, r, g, x, q => by
    simp only [grF]
    split
    · simp only; omega
    · have := grF_cnt f (r - zF x (x 0 0).n (r - 1) 1) (g + 1) (fun i => x (i + zF x (x 0 0).n (r - 1) 1)) (appEl q g (g1 (zF x (x 0 0).n (r - 1) 1) fun i => x (i + 0)))
      omega
theorem gpG_cnt (n : Nat) (x : Nat → Nat → Dt) : (gpG n x).1 ≤ n := by
  unfold gpG
  cases caE n x != 0 with
  | true => exact Nat.zero_le _
  | false =>
    simp only [cond_false]
    cases dfB n (soF n x) with
    | false => exact Nat.zero_le _
    | true => exact Nat.le_trans (grF_cnt n n 0 (soF n x) zeroEl) (by omega)
theorem l8_ok : SpecHolds Try.prog InvD 8 fun a => (l8.2 a).run := by
  refine specD lx8 Try.func8 (c := codeOf Try.prog 8) (by kernel_rfl) (fun _ => .unroll 0) (fun _ _ => trivial) fun args r hh => ?_
  simp only [l8] at hh
  split at hh
  · rename_i n x
    obtain ⟨hg, hh⟩ := chk_run hh
    refine ⟨by kernel_rfl, tr_ok (by rfl) hh, ?_⟩
    refine (lt8 n x).trans (Eq.trans ?_ hh)
    have hg' := hg
    unfold okL at hg'
    simp only [Bool.and_eq_true] at hg'
    rw [condT (by rw [hg'.1, hg'.2.1]; rfl)]
    cases hb : glB n x with
    | true => rfl
    | false =>
      obtain ⟨h1, h2⟩ := okL_ck hg hb
      have h12 := (gl_sm hb).1
      obtain ⟨e1, e2, e3⟩ := gp_gq (n := n) (x := x) (by omega) h2
      have hc := gpG_cnt n x
      rw [cond_false, condT (Nat.ble_eq_true_of_le h12), condT (by rw [h1, Nat.ble_eq_true_of_le h12]; rfl), condT (by rw [← e2, GA_gaB e3, Nat.ble_eq_true_of_le (by omega)]; rfl), e1, beq_self_eq_true]
      rfl
  · simp [Tr.run] at hh
end Go.Proofs.Ytfgniheefiefjaa

/- The tree's entries: their parents' places, the open path, the order of siblings. Plain laws; no condition. -/
namespace Go.Proofs.Ytfgniheefiefjaa
open Go.Evl Go.RowKit
theorem preT_len (ch : Option Nat → List Nat) (d : Nat) (J : Option Nat) (ix : Int) (m : Nat) : (preT ch d J ix m).length = (subT ch d J).length := by
  rw [← preT_fst ch d J ix m, List.length_map]
/-- where entries' parents stand -/
theorem preT_bnd (ch : Option Nat → List Nat) : ∀ d (J : Option Nat) (ix : Int) (m : Nat), ∀ e ∈ preT ch d J ix m, (e.2 = ix ∧ e.1 ∈ ch J) ∨ ((m : Int) ≤ e.2 ∧ e.2 < (m : Int) + (preT ch d J ix m).length)
  | 0, _, _, _, e, h => by cases h
  | d + 1, J, ix, m, e, h => by
    simp only [preT] at h ⊢
    generalize ch J = l at *
    induction l generalizing m with
    | nil => cases h
    | cons c r ih =>
      simp only [preL, List.cons_append, List.mem_cons, List.mem_append] at h
      simp only [preL, List.length_append, List.length_cons]
      rcases h with rfl | h | h
      · exact .inl ⟨rfl, List.mem_cons_self ..⟩
      · rcases preT_bnd ch d (some c) (m : Int) (m + 1) e h with ⟨h1, _⟩ | h1
        · right; omega
        · right; omega
      · rcases ih _ h with ⟨h1, h2⟩ | h1
        · exact .inl ⟨h1, List.mem_cons_of_mem _ h2⟩
        · right; omega
/-- an entry's parent is an entry before it -/
theorem preT_par (ch : Option Nat → List Nat) : ∀ d (J : Option Nat) (ix : Int) (m i : Nat) (h : i < (preT ch d J ix m).length), ((preT ch d J ix m)[i].2 = ix ∧ (preT ch d J ix m)[i].1 ∈ ch J) ∨ ∃ j, ∃ hj : j < i, (preT ch d J ix m)[i].2 = (m : Int) + j ∧ (preT ch d J ix m)[i].1 ∈ ch (some ((preT ch d J ix m)[j]'(by omega)).1)
  | 0, _, _, _, i, h => by simp [preT] at h
  | d + 1, J, ix, m, i, h => by
    have key : ∀ (l : List Nat) (m i : Nat) (h : i < (preL (fun c => preT ch d (some c)) ix l m).length), ((preL (fun c => preT ch d (some c)) ix l m)[i].2 = ix ∧ (preL (fun c => preT ch d (some c)) ix l m)[i].1 ∈ l) ∨ ∃ j, ∃ hj : j < i, (preL (fun c => preT ch d (some c)) ix l m)[i].2 = (m : Int) + j ∧ (preL (fun c => preT ch d (some c)) ix l m)[i].1 ∈ ch (some ((preL (fun c => preT ch d (some c)) ix l m)[j]'(by omega)).1) := by
      intro l
      induction l with
      | nil => intro m i h; simp [preL] at h
      | cons c r ih =>
        intro m i h
        simp only [preL, List.cons_append] at h ⊢
        cases i with
        | zero => exact .inl ⟨rfl, List.mem_cons_self ..⟩
        | succ i =>
          rw [List.length_cons] at h
          simp only [List.getElem_cons_succ]
          by_cases hi : i < (preT ch d (some c) (m : Int) (m + 1)).length
          · right
            rw [List.getElem_append_left hi]
            rcases preT_par ch d (some c) (m : Int) (m + 1) i hi with ⟨h1, h2⟩ | ⟨j, hj, h1, h2⟩
            · refine ⟨0, by omega, by rw [h1]; simp, ?_⟩
              simpa using h2
            · refine ⟨j + 1, by omega, by rw [h1]; omega, ?_⟩
              simp only [List.getElem_cons_succ]
              rw [List.getElem_append_left (by omega)]
              exact h2
          · rw [List.length_append] at h
            rw [List.getElem_append_right (by omega)]
            rcases ih (m + 1 + (preT ch d (some c) (m : Int) (m + 1)).length) (i - (preT ch d (some c) (m : Int) (m + 1)).length) (by omega) with ⟨h1, h2⟩ | ⟨j, hj, h1, h2⟩
            · exact .inl ⟨h1, List.mem_cons_of_mem _ h2⟩
            · right
              refine ⟨j + (preT ch d (some c) (m : Int) (m + 1)).length + 1, by omega, by rw [h1]; omega, ?_⟩
              simp only [List.getElem_cons_succ]
              rw [List.getElem_append_right (by omega)]
              simpa using h2
    exact key (ch J) m i h
/-- siblings stand in their families' order -/
theorem preT_pw {R : Nat → Nat → Prop} (ch : Option Nat → List Nat) (hR : ∀ J, (ch J).Pairwise R) : ∀ d (J : Option Nat) (ix : Int) (m : Nat), ix < (m : Int) → (preT ch d J ix m).Pairwise fun a b => a.2 = b.2 → R a.1 b.1
  | 0, _, _, _, _ => List.Pairwise.nil
  | d + 1, J, ix, m, hm => by
    simp only [preT]
    have hJ := hR J
    generalize ch J = l at *
    have hmem : ∀ (l : List Nat) (m : Nat), ∀ e ∈ preL (fun c => preT ch d (some c)) ix l m, (e.2 = ix ∧ e.1 ∈ l) ∨ (m : Int) ≤ e.2 := by
      intro l
      induction l with
      | nil => intro m e h; cases h
      | cons c r ih =>
        intro m e h
        simp only [preL, List.cons_append, List.mem_cons, List.mem_append] at h
        rcases h with rfl | h | h
        · exact .inl ⟨rfl, List.mem_cons_self ..⟩
        · rcases preT_bnd ch d (some c) (m : Int) (m + 1) e h with ⟨h1, _⟩ | h1
          · right; omega
          · right; omega
        · rcases ih _ e h with ⟨h1, h2⟩ | h1
          · exact .inl ⟨h1, List.mem_cons_of_mem _ h2⟩
          · right; omega
    induction l generalizing m with
    | nil => exact List.Pairwise.nil
    | cons c r ih =>
      rw [List.pairwise_cons] at hJ
      simp only [preL, List.cons_append]
      rw [List.pairwise_cons, List.pairwise_append]
      refine ⟨fun e he h => ?_, preT_pw ch hR d (some c) (m : Int) (m + 1) (by omega), ih (m + 1 + (preT ch d (some c) (m : Int) (m + 1)).length) (by omega) hJ.2, fun a ha b hb h => ?_⟩
      · rcases List.mem_append.1 he with he | he
        · rcases preT_bnd ch d (some c) (m : Int) (m + 1) e he with ⟨h1, _⟩ | h1
          · exfalso; dsimp only at h; omega
          · exfalso; dsimp only at h; omega
        · rcases hmem r _ e he with ⟨h1, h2⟩ | h1
          · exact hJ.1 _ h2
          · exfalso; dsimp only at h; omega
      · exfalso
        have hb' := hmem r _ b hb
        rcases preT_bnd ch d (some c) (m : Int) (m + 1) a ha with ⟨h1, _⟩ | h1
        · rcases hb' with ⟨h2, _⟩ | h2 <;> omega
        · rcases hb' with ⟨h2, _⟩ | h2 <;> omega
/-- the open path from one entry to the next -/
def opS (o : List Int) (m : Nat) (p : Int) : List Int := o.take (o.idxOf p + 1) ++ [(m : Int)]
def opW : Nat → List (Nat × Int) → List Int → Option (List Int)
  | _, [], o => some o
  | m, e :: r, o => if e.2 ∈ o then opW (m + 1) r (opS o m e.2) else none
theorem opW_app : ∀ (l r : List (Nat × Int)) (m : Nat) (o : List Int), opW m (l ++ r) o = (opW m l o).bind (opW (m + l.length) r)
  | [], r, m, o => rfl
  | e :: l, r, m, o => by
    simp only [List.cons_append, opW]
    split
    · rw [opW_app l r, List.length_cons, show m + 1 + l.length = m + (l.length + 1) by omega]
    · rfl
theorem opS_at {A B : List Int} {ix : Int} (h : ix ∉ A) (m : Nat) : opS (A ++ ix :: B) m ix = A ++ [ix] ++ [(m : Int)] := by
  unfold opS
  rw [List.idxOf_append, if_neg h, List.idxOf_cons_self]
  rw [show 0 + A.length + 1 = A.length + 1 by omega, List.take_append, List.take_of_length_le (by omega)]
  simp
theorem preT_op (ch : Option Nat → List Nat) : ∀ d (J : Option Nat) (ix : Int) (m : Nat) (A B : List Int), ix < (m : Int) → (∀ a ∈ A, a < ix) → ∃ B', opW m (preT ch d J ix m) (A ++ ix :: B) = some (A ++ ix :: B')
  | 0, _, _, _, A, B, _, _ => ⟨B, rfl⟩
  | d + 1, J, ix, m, A, B, hm, hA => by
    simp only [preT]
    generalize ch J = l
    induction l generalizing m B with
    | nil => exact ⟨B, rfl⟩
    | cons c r ih =>
      simp only [preL, List.cons_append, opW]
      rw [if_pos (by simp), opS_at (fun h => by have := hA _ h; omega), opW_app]
      obtain ⟨B1, h1⟩ := preT_op ch d (some c) (m : Int) (m + 1) (A ++ [ix]) [] (by omega) (by
        intro a ha
        rcases List.mem_append.1 ha with h | h
        · have := hA a h; omega
        · obtain rfl := List.mem_singleton.1 h; exact hm)
      rw [show (A ++ [ix] ++ [(m : Int)]) = (A ++ [ix]) ++ (m : Int) :: [] from rfl, h1]
      obtain ⟨B2, h2⟩ := ih (m + 1 + (preT ch d (some c) (m : Int) (m + 1)).length) ((m : Int) :: B1) (by omega)
      refine ⟨B2, ?_⟩
      rw [← h2]
      simp [Option.bind]
/-- the place of the span, and of the parent, of the tree's i-th entry -/
def kE (n : Nat) (y : Nat → Nat → Dt) (i : Nat) : Nat := ((enT n y)[i]?.getD (0, -1)).1
def pE (n : Nat) (y : Nat → Nat → Dt) (i : Nat) : Int := ((enT n y)[i]?.getD (0, -1)).2
/-- the open path before the i-th entry -/
def oE (n : Nat) (y : Nat → Nat → Dt) : Nat → List Int
  | 0 => [-1]
  | i + 1 => opS (oE n y i) i (pE n y i)
theorem enT_len {n : Nat} (hn : n ≤ 12) (y : Nat → Nat → Dt) : (enT n y).length = n := by
  unfold enT
  rw [preT_len, (subT_chN hn y).length_eq, List.length_range]
theorem enT_get {n : Nat} (hn : n ≤ 12) (y : Nat → Nat → Dt) {i : Nat} (hi : i < n) : (enT n y)[i]'(by rw [enT_len hn]; exact hi) = (kE n y i, pE n y i) := by
  unfold kE pE
  rw [List.getElem?_eq_getElem (by rw [enT_len hn]; exact hi)]
  rfl
theorem enT_fst {n : Nat} (hn : n ≤ 12) (y : Nat → Nat → Dt) : ((List.range n).map (kE n y)).Perm (List.range n) := by
  have h := preT_fst (chN n y) 13 none (-1) 0
  have h2 : (List.range n).map (kE n y) = (enT n y).map (·.1) := by
    apply List.ext_getElem
    · rw [List.length_map, List.length_map, List.length_range, enT_len hn]
    · intro i h1 h2
      rw [List.length_map, List.length_range] at h1
      rw [List.getElem_map, List.getElem_map, List.getElem_range, enT_get hn y h1]
  rw [h2]
  unfold enT
  rw [h]
  exact subT_chN hn y
theorem kE_lt {n : Nat} (hn : n ≤ 12) {y : Nat → Nat → Dt} {i : Nat} (hi : i < n) : kE n y i < n :=
  List.mem_range.1 ((enT_fst hn y).mem_iff.1 (List.mem_map_of_mem (List.mem_range.2 hi)))
theorem kE_inj {n : Nat} (hn : n ≤ 12) {y : Nat → Nat → Dt} {i j : Nat} (hi : i < n) (hj : j < n) (h : kE n y i = kE n y j) : i = j := by
  have h1 := (enT_fst hn y).nodup_iff.2 List.nodup_range
  rw [List.Nodup, List.pairwise_map, List.pairwise_iff_getElem] at h1
  simp only [List.length_range, List.getElem_range] at h1
  rcases Nat.lt_trichotomy i j with h2 | h2 | h2
  · exact absurd h (h1 i j hi hj h2)
  · exact h2
  · exact absurd h.symm (h1 j i hj hi h2)
theorem kE_sur {n : Nat} (hn : n ≤ 12) (y : Nat → Nat → Dt) {k : Nat} (hk : k < n) : ∃ i, i < n ∧ kE n y i = k := by
  have h := (enT_fst hn y).mem_iff.2 (List.mem_range.2 hk)
  rw [List.mem_map] at h
  obtain ⟨i, hi, e⟩ := h
  exact ⟨i, List.mem_range.1 hi, e⟩
theorem chN_par {n : Nat} {y : Nat → Nat → Dt} {J : Option Nat} {k : Nat} (h : k ∈ chN n y J) : parO (pcN n y) k = J := by
  unfold chN at h
  rw [List.mem_filter, decide_eq_true_eq] at h
  exact h.2
theorem pE_par {n : Nat} (hn : n ≤ 12) {y : Nat → Nat → Dt} {i : Nat} (hi : i < n) : (pE n y i = -1 ∧ parO (pcN n y) (kE n y i) = none) ∨ ∃ j, j < i ∧ pE n y i = (j : Int) ∧ parO (pcN n y) (kE n y i) = some (kE n y j) := by
  have h := preT_par (chN n y) 13 none (-1) 0 i (by rw [show (preT (chN n y) 13 none (-1) 0).length = n from enT_len hn y]; exact hi)
  have e : ∀ (j : Nat) (hj : j < n) (h' : j < (preT (chN n y) 13 none (-1) 0).length), (preT (chN n y) 13 none (-1) 0)[j]'h' = (kE n y j, pE n y j) := fun j hj h' => enT_get hn y hj
  rcases h with ⟨h1, h2⟩ | ⟨j, hj, h1, h2⟩
  · rw [e i hi] at h1 h2
    exact .inl ⟨h1, chN_par h2⟩
  · rw [e i hi] at h1 h2
    rw [e j (by omega)] at h2
    exact .inr ⟨j, hj, by simpa using h1, chN_par h2⟩
/-- a sibling before another -/
def bfN (y : Nat → Nat → Dt) (a b : Nat) : Prop := (y a 5).n < (y b 5).n ∨ ((y a 5).n = (y b 5).n ∧ (y a 1).n < (y b 1).n)
theorem olN_pw (n : Nat) (y : Nat → Nat → Dt) : (olN n y).Pairwise fun a b => ¬ bfN y b a := by
  unfold olN
  rw [List.pairwise_map, List.pairwise_iff_getElem]
  intro i j hi hj hij
  rw [List.length_range] at hi hj
  rw [List.getElem_range, List.getElem_range]
  exact (orN_ok n y).2 i j hij hj
theorem pE_sib {n : Nat} (hn : n ≤ 12) {y : Nat → Nat → Dt} {i j : Nat} (hij : i < j) (hj : j < n) (h : pE n y i = pE n y j) : ¬ bfN y (kE n y j) (kE n y i) := by
  have h1 := preT_pw (R := fun a b => ¬ bfN y b a) (chN n y) (fun J => (olN_pw n y).filter _) 13 none (-1) 0 (by decide)
  rw [List.pairwise_iff_getElem] at h1
  have l := enT_len hn y
  have h2 := h1 i j (by unfold enT at l; omega) (by unfold enT at l; omega) hij
  have e : ∀ (j : Nat) (hj : j < n) (h' : j < (preT (chN n y) 13 none (-1) 0).length), (preT (chN n y) 13 none (-1) 0)[j]'h' = (kE n y j, pE n y j) := fun j hj h' => enT_get hn y hj
  rw [e i (by omega), e j hj] at h2
  exact h2 h
theorem pE_sib' {n : Nat} (hn : n ≤ 12) {y : Nat → Nat → Dt} (hg : Good n y) {i j : Nat} (hij : i < j) (hj : j < n) (h : pE n y i = pE n y j) : bfN y (kE n y i) (kE n y j) := by
  have h1 := pE_sib hn hij hj h
  have h2 : (y (kE n y i) 1).n ≠ (y (kE n y j) 1).n := by
    have a := kE_lt hn (y := y) (show i < n by omega)
    have b := kE_lt hn (y := y) hj
    rcases Nat.lt_trichotomy (kE n y i) (kE n y j) with h3 | h3 | h3
    · have := hg.inc _ _ h3 b; omega
    · have := kE_inj hn (by omega) hj h3; omega
    · have := hg.inc _ _ h3 a; omega
  unfold bfN at h1 ⊢
  omega
theorem oE_mem {n : Nat} (hn : n ≤ 12) {y : Nat → Nat → Dt} {i : Nat} (hi : i < n) : pE n y i ∈ oE n y i := by
  obtain ⟨B, hB⟩ := preT_op (chN n y) 13 none (-1) 0 [] [] (by decide) (fun a h => by cases h)
  have key : ∀ (l : List (Nat × Int)) (m : Nat) (hl : ∀ j (h : j < l.length), l[j].2 = pE n y (m + j)) (r : List Int), opW m l (oE n y m) = some r → ∀ j, j < l.length → pE n y (m + j) ∈ oE n y (m + j) := by
    intro l
    induction l with
    | nil => intro m _ r _ j hj; cases hj
    | cons e l ih =>
      intro m hl r h j hj
      have h0 := hl 0 (by simp)
      simp only [List.getElem_cons_zero, Nat.add_zero] at h0
      simp only [opW] at h
      split at h
      · rename_i hm
        cases j with
        | zero => rw [Nat.add_zero, ← h0]; exact hm
        | succ j =>
          rw [h0] at h
          have := ih (m + 1) (fun j hj => by
            have := hl (j + 1) (by simpa using hj)
            rw [show m + 1 + j = m + (j + 1) by omega, ← this]; rfl) r h j (by simpa using hj)
          rw [show m + (j + 1) = m + 1 + j by omega]
          exact this
      · cases h
  have l := enT_len hn y
  have := key (preT (chN n y) 13 none (-1) 0) 0 (fun j hj => by
    have e := enT_get hn y (i := j) (by unfold enT at l; omega)
    unfold enT at e
    rw [e, Nat.zero_add]) _ hB i (by unfold enT at l; omega)
  simpa using this
/-- what the tree's rows hold -/
theorem rep_at (y : Nat → Nat → Dt) (s : List (Nat × Int)) : ∀ i (h : i < s.length), (repS y s).sp i = nmT (y s[i].1) ∧ ((repS y s).pa i 0).n = s[i].2 := by
  have key : ∀ (r : List (Nat × Int)) (q : List (Nat × Int)), (∀ i (h : i < q.length), (repS y q).sp i = nmT (y q[i].1) ∧ ((repS y q).pa i 0).n = q[i].2) → ∀ i (h : i < (q ++ r).length), (repS y (q ++ r)).sp i = nmT (y (q ++ r)[i].1) ∧ ((repS y (q ++ r)).pa i 0).n = (q ++ r)[i].2 := by
    intro r
    induction r with
    | nil => intro q h; simpa using h
    | cons e r ih =>
      intro q h
      rw [show q ++ e :: r = (q ++ [e]) ++ r by simp]
      refine ih (q ++ [e]) fun i hi => ?_
      rw [← show (repS y q).push (nmT (y e.1)) e.2 = repS y (q ++ [e]) from repS_push y q e.1 e.2]
      rw [List.length_append, List.length_cons, List.length_nil] at hi
      show appEl (repS y q).sp (repS y q).m _ i = _ ∧ (appEl (repS y q).pa (repS y q).m _ i 0).n = _
      rw [repS_m, app_at, app_at]
      by_cases hq : i < q.length
      · rw [if_pos hq, if_pos hq, List.getElem_append_left hq]
        exact h i hq
      · rw [if_neg hq, if_neg hq, show i - q.length = 0 by omega, List.getElem_append_right (by omega)]
        simp only [show i - q.length = 0 by omega, List.getElem_cons_zero]
        exact ⟨rfl, rfl⟩
  intro i h
  simpa using key s [] (fun i h => by cases h) i (by simpa using h)
theorem vt_at {n : Nat} {x : Nat → Nat → Dt} (hn : n ≤ 12) (h : bdE n x = 0) : (vtB n x).m = n ∧ ∀ i, i < n → (vtB n x).sp i = nmT (soF n x (kE n (soF n x) i)) ∧ ((vtB n x).pa i 0).n = pE n (soF n x) i := by
  rw [(okB_true hn h).2]
  refine ⟨by rw [repS_m, enT_len hn], fun i hi => ?_⟩
  have := rep_at (soF n x) (enT n (soF n x)) i (by rw [enT_len hn]; exact hi)
  rw [enT_get hn _ hi] at this
  exact this
end Go.Proofs.Ytfgniheefiefjaa

/- The place of the span with a name. Conditions: none beyond the context's. -/
namespace Go.Proofs.Ytfgniheefiefjaa
open Go.Evl Go.RowKit
structure S21 where
  n : Nat
  y : Nat → Nat → Dt
  ti : Int
  n2 : Nat
  y2 : Nat → Nat → Dt
  m : Nat
  p : Nat → Nat → Dt
  z : Int
  l : Int
  i : Int
  k : Int
abbrev keep21 : List Nat := [0, 1, 4, 7, 8]
abbrev vs21 (s : S21) : List AV := [.isz s.n SS s.y, .fn (.func 22) [.ipt [.int .i64 s.ti, .isz s.n2 SS s.y2, .isz s.m [.int .i64] s.p], .ptr 0 0], .int .i64 s.z, .int .i64 s.l, .int .i64 s.k]
abbrev hp21 (s : S21) : List Ob := [.cells [.int .i64 s.i] 3]
noncomputable def dec21 : List AV → List Ob → Option S21
  | [.isz n [.int .i64, .int .i64, .int .i64, .str, .str, .int .i64, .int .i64, .int .i64, .row [.str, .str], .row [.int .i64, .int .i64]] y, .fn (.func 22) [.ipt [.int .i64 ti, .isz n2 [.int .i64, .int .i64, .int .i64, .str, .str, .int .i64, .int .i64, .int .i64, .row [.str, .str], .row [.int .i64, .int .i64]] y2, .isz m [.int .i64] p], .ptr 0 0], .int .i64 z, .int .i64 l, .int .i64 k], [.cells [.int .i64 i] 3] => some ⟨n, y, ti, n2, y2, m, p, z, l, i, k⟩
  | _, _ => none
noncomputable def rnd21 (s : S21) : Option (Ex × List AV × List Ob) :=
  bif decide (s.k < s.l) then bif decide (0 ≤ s.k) && decide (s.k < ↑s.n) then bif decide (0 ≤ s.i) && decide (s.i < ↑s.n2) then bif (s.y s.k.toNat 1).n == (s.y2 s.i.toNat (0 + 1 + 1)).n then some (.ret, [.isz s.n SS s.y, .fn (Fn.func 22) [.ipt [.int .i64 s.ti, .isz s.n2 SS s.y2, .isz s.m [.int .i64] s.p], .ptr 0 0], .int .i64 s.k, .int .i64 s.l, .int .i64 s.k], [.cells [.int .i64 s.i] 3]) else some (.normal, [.isz s.n SS s.y, .fn (Fn.func 22) [.ipt [.int .i64 s.ti, .isz s.n2 SS s.y2, .isz s.m [.int .i64] s.p], .ptr 0 0], .int .i64 s.z, .int .i64 s.l, .int .i64 (IntKind.i64.wrap (s.k + 1))], [.cells [.int .i64 s.i] 3]) else none else none else some (.exit 0, [.isz s.n SS s.y, .fn (Fn.func 22) [.ipt [.int .i64 s.ti, .isz s.n2 SS s.y2, .isz s.m [.int .i64] s.p], .ptr 0 0], .int .i64 s.z, .int .i64 s.l, .int .i64 s.k], [.cells [.int .i64 s.i] 3])
noncomputable def L21 : Ls S21 := ⟨0, dec21, vs21, hp21, rnd21⟩
theorem L21_ok : L21.Ok := fun vs H s h => by
  have h : dec21 vs H = some s := h
  unfold dec21 at h
  split at h
  · obtain rfl := Option.some.inj h
    exact ⟨rfl, rfl⟩
  · cases h
noncomputable def ok21 (s : S21) : Bool := L21.ok 2 s
noncomputable def out21 (s : S21) : S21 := (L21.end_ s).2
noncomputable def ret21 (s : S21) : Bool := (L21.end_ s).1
noncomputable def fin21 (s : S21) : Tr (Ex × List AV × List Ob) := .node (ret21 s) (.leaf (.ret, vs21 (out21 s), hp21 (out21 s))) (.leaf (.exit 0, vs21 (out21 s), hp21 (out21 s)))
noncomputable abbrev f21s : List AV → List Ob → Tr (Ex × List AV × List Ob) := stF dec21 ok21 fin21
theorem ok21_of {s s1 : S21} {b : Bool} (h : L21.To s b s1) : ok21 s = true := h.ok L21 (m := 2) rfl
theorem out21_of {s s1 : S21} {b : Bool} (h : L21.To s b s1) : out21 s = s1 := congrArg Prod.snd (h.end_ L21)
theorem ret21_of {s s1 : S21} {b : Bool} (h : L21.To s b s1) : ret21 s = b := congrArg Prod.fst (h.end_ L21)
theorem loop21 (s : S21) : evC (β := Ex × List AV × List Ob) Try.prog (spOf []) (inlOf [20, 21, 22]) extD (cKD [] [20, 21, 22]) ((fun _ => .sum keep21 f21s)) (bodyOf Try.prog 21 0) ⟨mkF Try.f21.ntmps keep21 (vs21 s), hp21 s⟩ (fun e st => (cutBack keep21 1 st).map fun q => (e, q.1, q.2)) = rnd21 s := by kernel_rfl
theorem sum21 : LoopOkT Try.prog (spOf []) (inlOf [20, 21, 22]) extD (cKD [] [20, 21, 22]) (fun _ => .sum keep21 f21s) Try.f21.ntmps (bodyOf Try.prog 21 0) (.sum keep21 f21s) := by
  dsimp only [LoopOkT]
  exact ⟨by decide, by decide, sum_ls L21 2 L21_ok loop21⟩
end Go.Proofs.Ytfgniheefiefjaa

/- Contracts by runs with one layer of calls summed up. Conditions: none beyond the context's. -/
namespace Go.Proofs.Ytfgniheefiefjaa
open Go.Evl Go.RowKit
noncomputable abbrev cKL (l : List Ent) (il : List FuncId) (ls : List (FuncId × (Nat → LT))) {β : Type} : CallK β := callLK Try.prog (spOf l) (inlOf il) extD (cKD l il) ls
theorem lps_one {sp : Sp} {inl : FuncId → Bool} {cK : {β : Type} → CallK β} {cf : CallF} (hcf : ∀ {β : Type}, CallEq (β := β) cK cf) {f : FuncId} {lp : Nat → LT} {fn : Func} {c : Code} (hfn : Try.prog.funcs[f]? = some fn) (hb : fn.body = some c)
    (h : ∀ p ∈ loops c, LoopOkT Try.prog sp inl extD cK lp fn.ntmps p.2 (lp p.1)) : LpsOk (mkCx Try.prog sp inl extD) cf [(f, lp)] := by
  intro g lp' hf fn' c' hfn' hc'
  simp only [List.mem_singleton, Prod.mk.injEq] at hf
  obtain ⟨rfl, rfl⟩ := hf
  obtain rfl := Option.some.inj (hfn'.symm.trans hfn)
  obtain rfl := Option.some.inj (hc'.symm.trans hb)
  exact loopsOk_of Try.prog sp inl extD cK hcf h
theorem lps_cons {Γ : Cx} {cf : CallF} {a : FuncId × (Nat → LT)} {l : List (FuncId × (Nat → LT))} (h1 : LpsOk Γ cf [a]) (h2 : LpsOk Γ cf l) : LpsOk Γ cf (a :: l) := fun f lp hf fn c hfn hc => by
  rcases List.mem_cons.1 hf with h | h
  · exact h1 f lp (by rw [h]; exact List.mem_singleton.2 rfl) fn c hfn hc
  · exact h2 f lp h fn c hfn hc
theorem lps_unr {Γ : Cx} {cf : CallF} {f : FuncId} {k : Nat} : LpsOk Γ cf [(f, fun _ => .unroll k)] := by
  intro g lp hf fn c _ _
  simp only [List.mem_singleton, Prod.mk.injEq] at hf
  obtain ⟨rfl, rfl⟩ := hf
  intro p _ keep f' h
  cases h
theorem specDL {l : List Ent} {il : List FuncId} {ls : List (FuncId × (Nat → LT))} (hl : (mkCx Try.prog (spOf l) (inlOf il) extD).Ok InvD) (hls : LpsOk (mkCx Try.prog (spOf l) (inlOf il) extD) (callN (mkCx Try.prog (spOf l) (inlOf il) extD) attD uD 20) ls)
    {f : FuncId} {fn : Func} (hfn : Try.prog.funcs[f]? = some fn) {c : Code} (hb : fn.body = some c) (lp : Nat → LT)
    (hlp : ∀ p ∈ loops c, LoopOkT Try.prog (spOf l) (inlOf il) extD (cKL l il ls) lp fn.ntmps p.2 (lp p.1)) {s : List AV → Tr Res}
    (h : ∀ args r, (s args).run = some r → Nat.ble args.length fn.ntmps = true ∧ okRes r = true ∧ evFn Try.prog (spOf l) (inlOf il) extD (cKL l il ls) lp fn args [] (fun r _ => some r) = some r) :
    SpecHolds Try.prog InvD f fun a => (s a).run :=
  spec_of_ev Try.prog (spOf l) (inlOf il) extD (cKL l il ls) (fun {β} => callLK_eq (β := β) Try.prog (spOf l) (inlOf il) extD (callK_eq (β := β) Try.prog (spOf l) (inlOf il) extD attD uD 20) ls) hl stableD mixedD
    (callLN_sound hl stableD mixedD (callN_sound attD_ok hl stableD mixedD 20) hls) hfn hb lp hlp h
theorem specDLC {l : List Ent} {il : List FuncId} {ls : List (FuncId × (Nat → LT))} (hl : (mkCx Try.prog (spOf l) (inlOf il) extD).Ok InvD) (hls : LpsOk (mkCx Try.prog (spOf l) (inlOf il) extD) (callN (mkCx Try.prog (spOf l) (inlOf il) extD) attD uD 20) ls)
    {f : FuncId} {fn : Func} (hfn : Try.prog.funcs[f]? = some fn) {c : Code} (hb : fn.body = some c) (lp : Nat → LT)
    (hlp : ∀ p ∈ loops c, LoopOkT Try.prog (spOf l) (inlOf il) extD (cKL l il ls) lp fn.ntmps p.2 (lp p.1)) {s : List AV → Tr Res} (ct : Ct)
    (h : ∀ args r, (s args).run = some r → Nat.ble args.length fn.ntmps = true ∧ (evFnT Try.prog (spOf l) (inlOf il) extD (cKL l il ls) lp fn args [] (castT ct)).run = some r) :
    SpecHolds Try.prog InvD f fun a => (s a).run :=
  spec_of_evC Try.prog (spOf l) (inlOf il) extD (cKL l il ls) (fun {β} => callLK_eq (β := β) Try.prog (spOf l) (inlOf il) extD (callK_eq (β := β) Try.prog (spOf l) (inlOf il) extD attD uD 20) ls) hl stableD mixedD
    (callLN_sound hl stableD mixedD (callN_sound attD_ok hl stableD mixedD 20) hls) hfn hb lp hlp ct h
noncomputable abbrev cKH (l : List Ent) (il : List FuncId) (hs : List HEnt) {β : Type} : CallK β := callHK (cKD l il) hs
theorem specDHC {l : List Ent} {il : List FuncId} {hs : List HEnt} (hl : (mkCx Try.prog (spOf l) (inlOf il) extD).Ok InvD) (hh : ∀ f s, (f, s) ∈ hs → FrsHolds Try.prog InvD f fun a => (s a).run)
    {f : FuncId} {fn : Func} (hfn : Try.prog.funcs[f]? = some fn) {c : Code} (hb : fn.body = some c) (lp : Nat → LT)
    (hlp : ∀ p ∈ loops c, LoopOkT Try.prog (spOf l) (inlOf il) extD (cKH l il hs) lp fn.ntmps p.2 (lp p.1)) {s : List AV → Tr Res} (ct : Ct)
    (h : ∀ args r, (s args).run = some r → Nat.ble args.length fn.ntmps = true ∧ (evFnT Try.prog (spOf l) (inlOf il) extD (cKH l il hs) lp fn args [] (castT ct)).run = some r) :
    SpecHolds Try.prog InvD f fun a => (s a).run :=
  spec_of_evC Try.prog (spOf l) (inlOf il) extD (cKH l il hs) (fun {β} => callHK_eq (β := β) (callK_eq (β := β) Try.prog (spOf l) (inlOf il) extD attD uD 20) hs) hl stableD mixedD
    (callHN_sound (callN_sound attD_ok hl stableD mixedD 20) stableD hh) hfn hb lp hlp ct h
end Go.Proofs.Ytfgniheefiefjaa

/- The place of the span with a name: the contract. Conditions: none beyond the context's. -/
namespace Go.Proofs.Ytfgniheefiefjaa
open Go.Evl Go.RowKit
/-- the first span with a name -/
def nmG (y y2 : Nat → Nat → Dt) (i : Nat) (j : Nat) : Option Unit := if (y j 1).n = (y2 i 2).n then some () else none
def nmI (n : Nat) (y : Nat → Nat → Dt) (i : Nat) : Int := match scan (nmG y y i) n 0 with
  | some (_, j) => (j : Int)
  | none => -1
theorem to21 {n : Nat} {y : Nat → Nat → Dt} {ti : Int} {n2 : Nat} {y2 : Nat → Nat → Dt} {m : Nat} {p : Nat → Nat → Dt} {i : Nat} (hn : n ≤ 1000) (hi : i < n2) : ∀ f k z, k + f = n → match scan (nmG y y2 i) f k with
    | some (_, j) => ∃ s, s.z = (j : Int) ∧ L21.To ⟨n, y, ti, n2, y2, m, p, z, (n : Int), (i : Int), (k : Int)⟩ true s
    | none => ∃ s, L21.To ⟨n, y, ti, n2, y2, m, p, z, (n : Int), (i : Int), (k : Int)⟩ false s
  | 0, k, z, hk => by
    simp only [scan]
    refine ⟨⟨n, y, ti, n2, y2, m, p, z, (n : Int), (i : Int), (k : Int)⟩, L21.to_out ?_ rfl⟩
    show rnd21 _ = _
    simp only [rnd21, Int.toNat_natCast]
    rw [condF (decide_eq_false (by omega))]
    rfl
  | f + 1, k, z, hk => by
    have hc1 : decide ((k : Int) < (n : Int)) = true := decide_eq_true (by omega)
    have hc2 : (decide (0 ≤ (k : Int)) && decide ((k : Int) < (n : Int))) = true := by rw [hc1, decide_eq_true (by omega)]; rfl
    have hc3 : (decide (0 ≤ (i : Int)) && decide ((i : Int) < (n2 : Int))) = true := by rw [decide_eq_true (show (0 : Int) ≤ (i : Int) by omega), decide_eq_true (show (i : Int) < (n2 : Int) by omega)]; rfl
    simp only [scan]
    by_cases h : (y k 1).n = (y2 i 2).n
    · rw [show nmG y y2 i k = some () from if_pos h]
      refine ⟨⟨n, y, ti, n2, y2, m, p, (k : Int), (n : Int), (i : Int), (k : Int)⟩, rfl, L21.to_ret ?_ rfl⟩
      show rnd21 _ = _
      simp only [rnd21, Int.toNat_natCast]
      rw [condT hc1, condT hc2, condT hc3, condT (beq_iff_eq.2 h)]
      rfl
    · rw [show nmG y y2 i k = none from if_neg h]
      have ih := to21 (n := n) (y := y) (ti := ti) (n2 := n2) (y2 := y2) (m := m) (p := p) (i := i) hn hi f (k + 1) z (by omega)
      have hr : L21.rnd ⟨n, y, ti, n2, y2, m, p, z, (n : Int), (i : Int), (k : Int)⟩ = some (.normal, L21.vs ⟨n, y, ti, n2, y2, m, p, z, (n : Int), (i : Int), ((k + 1 : Nat) : Int)⟩, L21.hp ⟨n, y, ti, n2, y2, m, p, z, (n : Int), (i : Int), ((k + 1 : Nat) : Int)⟩) := by
        show rnd21 _ = _
        simp only [rnd21, Int.toNat_natCast]
        rw [condT hc1, condT hc2, condT hc3, condF (beq_eq_false_iff_ne.2 h)]
        show some (_, [_, _, _, _, AV.int IntKind.i64 (IntKind.i64.wrap ((k : Int) + 1))], _) = _
        rw [wrapI (by omega) (by omega)]
        rfl
      dsimp only
      cases e : scan (nmG y y2 i) f (k + 1) with
      | none =>
        rw [e] at ih
        obtain ⟨s, hs⟩ := ih
        exact ⟨s, L21.to_on hr rfl hs⟩
      | some q =>
        rw [e] at ih
        obtain ⟨s, h1, hs⟩ := ih
        exact ⟨s, h1, L21.to_on hr rfl hs⟩
def t20 : Ent := ⟨20, fun
  | [.int .i64 i, .ipt [.int .i64 _, .isz n [.int .i64, .int .i64, .int .i64, .str, .str, .int .i64, .int .i64, .int .i64, .row [.str, .str], .row [.int .i64, .int .i64]] y, .isz _ [.int .i64] _]] => .chk (Nat.ble n 1000 && (decide (0 ≤ i) && decide (i < (n : Int)))) (.leaf (.ret (.int .i64 (nmI n y i.toNat))))
  | _ => .non⟩
theorem vt20 (ti : Int) (n : Nat) (y : Nat → Nat → Dt) (m : Nat) (p : Nat → Nat → Dt) (i : Int) : evFn Try.prog (spOf []) (inlOf [20, 21, 22]) extD (cKL [] [20, 21, 22] [(21, fun _ => .sum keep21 f21s)]) (fun _ => .unroll 0) Try.f20 [.int .i64 i, .ipt [.int .i64 ti, .isz n SS y, .isz m [.int .i64] p]] [] (fun r _ => some r) =
    (bif ok21 { n := n, y := y, ti := ti, n2 := n, y2 := y, m := m, p := p, z := 0, l := ↑n, i := i, k := 0 } then bif ret21 { n := n, y := y, ti := ti, n2 := n, y2 := y, m := m, p := p, z := 0, l := ↑n, i := i, k := 0 } then some (.ret (.int .i64 (out21 { n := n, y := y, ti := ti, n2 := n, y2 := y, m := m, p := p, z := 0, l := ↑n, i := i, k := 0 }).z)) else some (.ret (.int .i64 (-1))) else none : Option Res) := by kernel_rfl
set_option maxRecDepth 10000 in
theorem lps20 : LpsOk (mkCx Try.prog (spOf []) (inlOf [20, 21, 22]) extD) (callN (mkCx Try.prog (spOf []) (inlOf [20, 21, 22]) extD) attD uD 20) [(21, fun _ => .sum keep21 f21s)] := by
  refine lps_one (cK := cKD [] [20, 21, 22]) (fun {β} => callK_eq (β := β) Try.prog (spOf []) (inlOf [20, 21, 22]) extD attD uD 20) Try.func21 (c := codeOf Try.prog 21) (by kernel_rfl) fun p hp => ?_
  have hl : loops (codeOf Try.prog 21) = [(0, bodyOf Try.prog 21 0)] := by kernel_rfl
  rw [hl, List.mem_singleton] at hp
  subst hp
  exact sum21
theorem lx20 : (mkCx Try.prog (spOf []) (inlOf [20, 21, 22]) extD).Ok InvD := cx_of [20, 21, 22] (by kernel_rfl) (fun p hp => by cases hp)
set_option maxRecDepth 10000 in
theorem t20_ok : SpecHolds Try.prog InvD 20 fun a => (t20.2 a).run := by
  refine specDL lx20 lps20 Try.func20 (c := codeOf Try.prog 20) (by kernel_rfl) (fun _ => .unroll 0) (fun _ _ => trivial) fun args r hh => ?_
  simp only [t20] at hh
  split at hh
  · rename_i i ti n y m p
    obtain ⟨hg, hh⟩ := chk_run hh
    refine ⟨by kernel_rfl, tr_ok (by rfl) hh, ?_⟩
    refine (vt20 ti n y m p i).trans (Eq.trans ?_ hh)
    simp only [Bool.and_eq_true, decide_eq_true_eq, Nat.ble_eq] at hg
    obtain ⟨k, rfl⟩ : ∃ k : Nat, i = (k : Int) := ⟨i.toNat, by omega⟩
    have h := to21 (y := y) (ti := ti) (n2 := n) (y2 := y) (m := m) (p := p) (i := k) hg.1 (by omega) n 0 0 (by omega)
    rw [show ((0 : Nat) : Int) = 0 from rfl] at h
    unfold nmI
    rw [Int.toNat_natCast]
    cases e : scan (nmG y y k) n 0 with
    | none =>
      rw [e] at h
      obtain ⟨s, hs⟩ := h
      rw [condT (ok21_of hs), condF (ret21_of hs)]
      rfl
    | some q =>
      rw [e] at h
      obtain ⟨s, h1, hs⟩ := h
      rw [condT (ok21_of hs), condT (ret21_of hs), out21_of hs, h1]
      rfl
  · simp [Tr.run] at hh
end Go.Proofs.Ytfgniheefiefjaa

/- SpantreeParents: the loops. Conditions: none beyond the context's. -/
namespace Go.Proofs.Ytfgniheefiefjaa
open Go.Evl Go.RowKit
structure S5i where
  z : Bool
  i : Int
  k : Int
  c : Int
  m1 : Nat
  q : Nat → Nat → Dt
  l : Int
  j : Int
  ti : Int
  n : Nat
  y : Nat → Nat → Dt
  m : Nat
  p : Nat → Nat → Dt
abbrev keep5i : List Nat := [2, 3, 5, 6, 8, 9, 30, 31, 32]
abbrev vs5i (s : S5i) : List AV := [.bool s.z, .ptr 0 0, .fn (.func 20) [.ptr 0 0], .int .i64 s.i, .int .i64 s.k, .int .i64 s.c, .isz s.m1 [.int .i64] s.q, .int .i64 s.l, .int .i64 s.j]
abbrev hp5i (s : S5i) : List Ob := [.cells [.int .i64 s.ti, .isz s.n SS s.y, .isz s.m [.int .i64] s.p] 36]
noncomputable def dec5i : List AV → List Ob → Option S5i
  | [.bool z, .ptr 0 0, .fn (.func 20) [.ptr 0 0], .int .i64 i, .int .i64 k, .int .i64 c, .isz m1 [.int .i64] q, .int .i64 l, .int .i64 j], [.cells [.int .i64 ti, .isz n [.int .i64, .int .i64, .int .i64, .str, .str, .int .i64, .int .i64, .int .i64, .row [.str, .str], .row [.int .i64, .int .i64]] y, .isz m [.int .i64] p] 36] => some ⟨z, i, k, c, m1, q, l, j, ti, n, y, m, p⟩
  | _, _ => none
noncomputable def rnd5i (s : S5i) : Option (Ex × List AV × List Ob) :=
  bif s.k != s.i then bif decide (s.c > ↑s.n) then some (.ret, [.bool false, .ptr 0 0, .fn (Fn.func 20) [.ptr 0 0], .int .i64 s.i, .int .i64 s.k, .int .i64 s.c, .isz s.m1 [.int .i64] s.q, .int .i64 s.l, .int .i64 s.j], [.cells [.int .i64 s.ti, .isz s.n SS s.y, .isz s.m [.int .i64] s.p] 36]) else bif decide (s.k < 0) then some (.ret, [.bool false, .ptr 0 0, .fn (Fn.func 20) [.ptr 0 0], .int .i64 s.i, .int .i64 s.k, .int .i64 s.c, .isz s.m1 [.int .i64] s.q, .int .i64 s.l, .int .i64 s.j], [.cells [.int .i64 s.ti, .isz s.n SS s.y, .isz s.m [.int .i64] s.p] 36]) else bif decide (0 ≤ s.k) && decide (s.k < ↑s.n) then bif decide (0 ≤ s.i) && decide (s.i < ↑s.n) then bif decide ((s.y s.k.toNat 1).n < (s.y s.i.toNat 1).n) then some (.ret, [.bool false, .ptr 0 0, .fn (Fn.func 20) [.ptr 0 0], .int .i64 s.i, .int .i64 s.k, .int .i64 s.c, .isz s.m1 [.int .i64] s.q, .int .i64 s.l, .int .i64 s.j], [.cells [.int .i64 s.ti, .isz s.n SS s.y, .isz s.m [.int .i64] s.p] 36]) else bif s.n.ble 1000 && (decide (0 ≤ s.k) && decide (s.k < ↑s.n)) then some (.normal, [.bool s.z, .ptr 0 0, .fn (Fn.func 20) [.ptr 0 0], .int .i64 s.i, .int .i64 (nmI s.n s.y s.k.toNat), .int .i64 (IntKind.i64.wrap (s.c + 1)), .isz s.m1 [.int .i64] s.q, .int .i64 s.l, .int .i64 s.j], [.cells [.int .i64 s.ti, .isz s.n SS s.y, .isz s.m [.int .i64] s.p] 36]) else none else none else none else some (.exit 2, [.bool s.z, .ptr 0 0, .fn (Fn.func 20) [.ptr 0 0], .int .i64 s.i, .int .i64 s.k, .int .i64 s.c, .isz s.m1 [.int .i64] s.q, .int .i64 s.l, .int .i64 s.j], [.cells [.int .i64 s.ti, .isz s.n SS s.y, .isz s.m [.int .i64] s.p] 36])
noncomputable def L5i : Ls S5i := ⟨2, dec5i, vs5i, hp5i, rnd5i⟩
theorem L5i_ok : L5i.Ok := fun vs H s h => by
  have h : dec5i vs H = some s := h
  unfold dec5i at h
  split at h
  · obtain rfl := Option.some.inj h
    exact ⟨rfl, rfl⟩
  · cases h
noncomputable def ok5i (s : S5i) : Bool := L5i.ok 0 s
noncomputable def out5i (s : S5i) : S5i := (L5i.end_ s).2
noncomputable def ret5i (s : S5i) : Bool := (L5i.end_ s).1
noncomputable def fin5i (s : S5i) : Tr (Ex × List AV × List Ob) := .leaf (.exit 2, vs5i (out5i s), hp5i (out5i s))
noncomputable abbrev f5is : List AV → List Ob → Tr (Ex × List AV × List Ob) := stF dec5i ok5i fin5i
theorem ok5i_of {s s1 : S5i} {b : Bool} (h : L5i.To s b s1) (hb : mdB 0 b = true) : ok5i s = true := h.ok L5i (m := 0) hb
theorem out5i_of {s s1 : S5i} {b : Bool} (h : L5i.To s b s1) : out5i s = s1 := congrArg Prod.snd (h.end_ L5i)
theorem ret5i_of {s s1 : S5i} {b : Bool} (h : L5i.To s b s1) : ret5i s = b := congrArg Prod.fst (h.end_ L5i)
structure S5 where
  z : Bool
  m1 : Nat
  q : Nat → Nat → Dt
  l : Int
  j : Int
  ti : Int
  n : Nat
  y : Nat → Nat → Dt
  m : Nat
  p : Nat → Nat → Dt
abbrev keep5 : List Nat := [2, 3, 5, 30, 31, 32]
abbrev vs5 (s : S5) : List AV := [.bool s.z, .ptr 0 0, .fn (.func 20) [.ptr 0 0], .isz s.m1 [.int .i64] s.q, .int .i64 s.l, .int .i64 s.j]
abbrev hp5 (s : S5) : List Ob := [.cells [.int .i64 s.ti, .isz s.n SS s.y, .isz s.m [.int .i64] s.p] 36]
noncomputable def dec5 : List AV → List Ob → Option S5
  | [.bool z, .ptr 0 0, .fn (.func 20) [.ptr 0 0], .isz m1 [.int .i64] q, .int .i64 l, .int .i64 j], [.cells [.int .i64 ti, .isz n [.int .i64, .int .i64, .int .i64, .str, .str, .int .i64, .int .i64, .int .i64, .row [.str, .str], .row [.int .i64, .int .i64]] y, .isz m [.int .i64] p] 36] => some ⟨z, m1, q, l, j, ti, n, y, m, p⟩
  | _, _ => none
noncomputable def rnd5 (s : S5) : Option (Ex × List AV × List Ob) :=
  bif decide (s.j < s.l) then bif decide (0 ≤ s.j) && decide (s.j < ↑s.m1) then bif decide ((s.q s.j.toNat 0).n ≥ ↑s.n) then some (.ret, [.bool false, .ptr 0 0, .fn (Fn.func 20) [.ptr 0 0], .isz s.m1 [.int .i64] s.q, .int .i64 s.l, .int .i64 s.j], [.cells [.int .i64 s.ti, .isz s.n SS s.y, .isz s.m [.int .i64] s.p] 36]) else bif decide ((s.q s.j.toNat 0).n < -1) then some (.ret, [.bool false, .ptr 0 0, .fn (Fn.func 20) [.ptr 0 0], .isz s.m1 [.int .i64] s.q, .int .i64 s.l, .int .i64 s.j], [.cells [.int .i64 s.ti, .isz s.n SS s.y, .isz s.m [.int .i64] s.p] 36]) else bif decide ((s.q s.j.toNat 0).n ≥ 0) then bif s.n.ble 1000 && (decide (0 ≤ s.j) && decide (s.j < ↑s.n)) then bif (s.q s.j.toNat 0).n != nmI s.n s.y s.j.toNat then some (.ret, [.bool false, .ptr 0 0, .fn (Fn.func 20) [.ptr 0 0], .isz s.m1 [.int .i64] s.q, .int .i64 s.l, .int .i64 s.j], [.cells [.int .i64 s.ti, .isz s.n SS s.y, .isz s.m [.int .i64] s.p] 36]) else bif decide ((s.q s.j.toNat 0).n ≥ 0) then some (.normal, [.bool s.z, .ptr 0 0, .fn (Fn.func 20) [.ptr 0 0], .isz s.m1 [.int .i64] s.q, .int .i64 s.l, .int .i64 (IntKind.i64.wrap (s.j + 1))], [.cells [.int .i64 s.ti, .isz s.n SS s.y, .isz s.m [.int .i64] s.p] 36]) else bif s.n.ble 1000 && (decide (0 ≤ s.j) && decide (s.j < ↑s.n)) then bif decide (nmI s.n s.y s.j.toNat < 0) then some (.normal, [.bool s.z, .ptr 0 0, .fn (Fn.func 20) [.ptr 0 0], .isz s.m1 [.int .i64] s.q, .int .i64 s.l, .int .i64 (IntKind.i64.wrap (s.j + 1))], [.cells [.int .i64 s.ti, .isz s.n SS s.y, .isz s.m [.int .i64] s.p] 36]) else bif s.n.ble 1000 && (decide (0 ≤ s.j) && decide (s.j < ↑s.n)) then bif ok5i { z := s.z, i := s.j, k := nmI s.n s.y s.j.toNat, c := 0, m1 := s.m1, q := s.q, l := s.l, j := s.j, ti := s.ti, n := s.n, y := s.y, m := s.m, p := s.p } then some (.normal, [.bool (out5i { z := s.z, i := s.j, k := nmI s.n s.y s.j.toNat, c := 0, m1 := s.m1, q := s.q, l := s.l, j := s.j, ti := s.ti, n := s.n, y := s.y, m := s.m, p := s.p }).1, .ptr 0 0, .fn (Fn.func 20) [.ptr 0 0], .isz (out5i { z := s.z, i := s.j, k := nmI s.n s.y s.j.toNat, c := 0, m1 := s.m1, q := s.q, l := s.l, j := s.j, ti := s.ti, n := s.n, y := s.y, m := s.m, p := s.p }).5 [.int .i64] (out5i { z := s.z, i := s.j, k := nmI s.n s.y s.j.toNat, c := 0, m1 := s.m1, q := s.q, l := s.l, j := s.j, ti := s.ti, n := s.n, y := s.y, m := s.m, p := s.p }).q, .int .i64 (out5i { z := s.z, i := s.j, k := nmI s.n s.y s.j.toNat, c := 0, m1 := s.m1, q := s.q, l := s.l, j := s.j, ti := s.ti, n := s.n, y := s.y, m := s.m, p := s.p }).7, .int .i64 (IntKind.i64.wrap ((out5i { z := s.z, i := s.j, k := nmI s.n s.y s.j.toNat, c := 0, m1 := s.m1, q := s.q, l := s.l, j := s.j, ti := s.ti, n := s.n, y := s.y, m := s.m, p := s.p }).8 + 1))], [.cells [.int .i64 (out5i { z := s.z, i := s.j, k := nmI s.n s.y s.j.toNat, c := 0, m1 := s.m1, q := s.q, l := s.l, j := s.j, ti := s.ti, n := s.n, y := s.y, m := s.m, p := s.p }).9, .isz (out5i { z := s.z, i := s.j, k := nmI s.n s.y s.j.toNat, c := 0, m1 := s.m1, q := s.q, l := s.l, j := s.j, ti := s.ti, n := s.n, y := s.y, m := s.m, p := s.p }).10 SS (out5i { z := s.z, i := s.j, k := nmI s.n s.y s.j.toNat, c := 0, m1 := s.m1, q := s.q, l := s.l, j := s.j, ti := s.ti, n := s.n, y := s.y, m := s.m, p := s.p }).y, .isz (out5i { z := s.z, i := s.j, k := nmI s.n s.y s.j.toNat, c := 0, m1 := s.m1, q := s.q, l := s.l, j := s.j, ti := s.ti, n := s.n, y := s.y, m := s.m, p := s.p }).12 [.int .i64] (out5i { z := s.z, i := s.j, k := nmI s.n s.y s.j.toNat, c := 0, m1 := s.m1, q := s.q, l := s.l, j := s.j, ti := s.ti, n := s.n, y := s.y, m := s.m, p := s.p }).p] 36]) else none else none else none else none else bif decide ((s.q s.j.toNat 0).n ≥ 0) then some (.normal, [.bool s.z, .ptr 0 0, .fn (Fn.func 20) [.ptr 0 0], .isz s.m1 [.int .i64] s.q, .int .i64 s.l, .int .i64 (IntKind.i64.wrap (s.j + 1))], [.cells [.int .i64 s.ti, .isz s.n SS s.y, .isz s.m [.int .i64] s.p] 36]) else bif s.n.ble 1000 && (decide (0 ≤ s.j) && decide (s.j < ↑s.n)) then bif decide (nmI s.n s.y s.j.toNat < 0) then some (.normal, [.bool s.z, .ptr 0 0, .fn (Fn.func 20) [.ptr 0 0], .isz s.m1 [.int .i64] s.q, .int .i64 s.l, .int .i64 (IntKind.i64.wrap (s.j + 1))], [.cells [.int .i64 s.ti, .isz s.n SS s.y, .isz s.m [.int .i64] s.p] 36]) else bif s.n.ble 1000 && (decide (0 ≤ s.j) && decide (s.j < ↑s.n)) then bif ok5i { z := s.z, i := s.j, k := nmI s.n s.y s.j.toNat, c := 0, m1 := s.m1, q := s.q, l := s.l, j := s.j, ti := s.ti, n := s.n, y := s.y, m := s.m, p := s.p } then some (.normal, [.bool (out5i { z := s.z, i := s.j, k := nmI s.n s.y s.j.toNat, c := 0, m1 := s.m1, q := s.q, l := s.l, j := s.j, ti := s.ti, n := s.n, y := s.y, m := s.m, p := s.p }).1, .ptr 0 0, .fn (Fn.func 20) [.ptr 0 0], .isz (out5i { z := s.z, i := s.j, k := nmI s.n s.y s.j.toNat, c := 0, m1 := s.m1, q := s.q, l := s.l, j := s.j, ti := s.ti, n := s.n, y := s.y, m := s.m, p := s.p }).5 [.int .i64] (out5i { z := s.z, i := s.j, k := nmI s.n s.y s.j.toNat, c := 0, m1 := s.m1, q := s.q, l := s.l, j := s.j, ti := s.ti, n := s.n, y := s.y, m := s.m, p := s.p }).q, .int .i64 (out5i { z := s.z, i := s.j, k := nmI s.n s.y s.j.toNat, c := 0, m1 := s.m1, q := s.q, l := s.l, j := s.j, ti := s.ti, n := s.n, y := s.y, m := s.m, p := s.p }).7, .int .i64 (IntKind.i64.wrap ((out5i { z := s.z, i := s.j, k := nmI s.n s.y s.j.toNat, c := 0, m1 := s.m1, q := s.q, l := s.l, j := s.j, ti := s.ti, n := s.n, y := s.y, m := s.m, p := s.p }).8 + 1))], [.cells [.int .i64 (out5i { z := s.z, i := s.j, k := nmI s.n s.y s.j.toNat, c := 0, m1 := s.m1, q := s.q, l := s.l, j := s.j, ti := s.ti, n := s.n, y := s.y, m := s.m, p := s.p }).9, .isz (out5i { z := s.z, i := s.j, k := nmI s.n s.y s.j.toNat, c := 0, m1 := s.m1, q := s.q, l := s.l, j := s.j, ti := s.ti, n := s.n, y := s.y, m := s.m, p := s.p }).10 SS (out5i { z := s.z, i := s.j, k := nmI s.n s.y s.j.toNat, c := 0, m1 := s.m1, q := s.q, l := s.l, j := s.j, ti := s.ti, n := s.n, y := s.y, m := s.m, p := s.p }).y, .isz (out5i { z := s.z, i := s.j, k := nmI s.n s.y s.j.toNat, c := 0, m1 := s.m1, q := s.q, l := s.l, j := s.j, ti := s.ti, n := s.n, y := s.y, m := s.m, p := s.p }).12 [.int .i64] (out5i { z := s.z, i := s.j, k := nmI s.n s.y s.j.toNat, c := 0, m1 := s.m1, q := s.q, l := s.l, j := s.j, ti := s.ti, n := s.n, y := s.y, m := s.m, p := s.p }).p] 36]) else none else none else none else none else some (.exit 0, [.bool s.z, .ptr 0 0, .fn (Fn.func 20) [.ptr 0 0], .isz s.m1 [.int .i64] s.q, .int .i64 s.l, .int .i64 s.j], [.cells [.int .i64 s.ti, .isz s.n SS s.y, .isz s.m [.int .i64] s.p] 36])
noncomputable def L5 : Ls S5 := ⟨0, dec5, vs5, hp5, rnd5⟩
theorem L5_ok : L5.Ok := fun vs H s h => by
  have h : dec5 vs H = some s := h
  unfold dec5 at h
  split at h
  · obtain rfl := Option.some.inj h
    exact ⟨rfl, rfl⟩
  · cases h
noncomputable def ok5 (s : S5) : Bool := L5.ok 0 s
noncomputable def out5 (s : S5) : S5 := (L5.end_ s).2
noncomputable def ret5 (s : S5) : Bool := (L5.end_ s).1
noncomputable def fin5 (s : S5) : Tr (Ex × List AV × List Ob) := .leaf (.exit 0, vs5 (out5 s), hp5 (out5 s))
noncomputable abbrev f5s : List AV → List Ob → Tr (Ex × List AV × List Ob) := stF dec5 ok5 fin5
theorem ok5_of {s s1 : S5} {b : Bool} (h : L5.To s b s1) (hb : mdB 0 b = true) : ok5 s = true := h.ok L5 (m := 0) hb
theorem out5_of {s s1 : S5} {b : Bool} (h : L5.To s b s1) : out5 s = s1 := congrArg Prod.snd (h.end_ L5)
theorem ret5_of {s s1 : S5} {b : Bool} (h : L5.To s b s1) : ret5 s = b := congrArg Prod.fst (h.end_ L5)
noncomputable abbrev lp5 (i : Nat) : LT := bif Nat.beq i 2 then .sum keep5i f5is else .sum keep5 f5s
theorem loop5i (s : S5i) : evC (β := Ex × List AV × List Ob) Try.prog (spOf [t16, t17, t20, iAw]) (inlOf []) extD (cKD [t16, t17, t20, iAw] []) (lp5) (bodyOf Try.prog 5 2) ⟨mkF Try.f5.ntmps keep5i (vs5i s), hp5i s⟩ (fun e st => (cutBack keep5i 1 st).map fun q => (e, q.1, q.2)) = rnd5i s := by kernel_rfl
theorem sum5i : LoopOkT Try.prog (spOf [t16, t17, t20, iAw]) (inlOf []) extD (cKD [t16, t17, t20, iAw] []) lp5 Try.f5.ntmps (bodyOf Try.prog 5 2) (.sum keep5i f5is) := by
  dsimp only [LoopOkT]
  exact ⟨by decide, by decide, sum_ls L5i 0 L5i_ok loop5i⟩
theorem loop5 (s : S5) : evC (β := Ex × List AV × List Ob) Try.prog (spOf [t16, t17, t20, iAw]) (inlOf []) extD (cKD [t16, t17, t20, iAw] []) (lp5) (bodyOf Try.prog 5 0) ⟨mkF Try.f5.ntmps keep5 (vs5 s), hp5 s⟩ (fun e st => (cutBack keep5 1 st).map fun q => (e, q.1, q.2)) = rnd5 s := by kernel_rfl
theorem sum5 : LoopOkT Try.prog (spOf [t16, t17, t20, iAw]) (inlOf []) extD (cKD [t16, t17, t20, iAw] []) lp5 Try.f5.ntmps (bodyOf Try.prog 5 0) (.sum keep5 f5s) := by
  dsimp only [LoopOkT]
  exact ⟨by decide, by decide, sum_ls L5 0 L5_ok loop5⟩
end Go.Proofs.Ytfgniheefiefjaa

/- SpantreeParents: the loops' ends for a tree that is built. Conditions: none beyond the context's. -/
namespace Go.Proofs.Ytfgniheefiefjaa
open Go.Evl Go.RowKit
theorem scan_some {α : Type} {g : Nat → Option α} {a : α} {j : Nat} : ∀ {f k : Nat}, scan g f k = some (a, j) → g j = some a ∧ k ≤ j ∧ j < k + f
  | 0, k, h => by cases h
  | f + 1, k, h => by
    simp only [scan] at h
    cases e : g k with
    | some b =>
      rw [e] at h
      cases h
      exact ⟨e, Nat.le_refl _, by omega⟩
    | none =>
      rw [e] at h
      have := scan_some h
      exact ⟨this.1, by omega, by omega⟩
/-- the rows of a tree -/
structure TrW (n : Nat) (y w q : Nat → Nat → Dt) : Prop where
  n12 : n ≤ 12
  good : Good n y
  sp : ∀ i, i < n → w i = nmT (y (kE n y i))
  pa : ∀ i, i < n → (q i 0).n = pE n y i
theorem trW_of {n : Nat} {x : Nat → Nat → Dt} (hn : n ≤ 12) (h : bdE n x = 0) : bdN n x = n ∧ TrW n (soF n x) (bdS n x) (bdP n x) := by
  obtain ⟨h1, h2⟩ := vt_at hn h
  have e : (bdE n x == 0) = true := by rw [h]; rfl
  refine ⟨?_, hn, (good_of h).1, fun i hi => ?_, fun i hi => ?_⟩
  · unfold bdN; rw [e]; exact h1
  · unfold bdS; rw [e]; exact (h2 i hi).1
  · unfold bdP; rw [e]; exact (h2 i hi).2
section
variable {n : Nat} {y w q : Nat → Nat → Dt}
theorem id_inj (hg : Good n y) {a b : Nat} (ha : a < n) (hb : b < n) (h : (y a 1).n = (y b 1).n) : a = b := by
  rcases Nat.lt_trichotomy a b with h1 | h1 | h1
  · have := hg.inc a b h1 hb; omega
  · exact h1
  · have := hg.inc b a h1 ha; omega
theorem nm_some (h : TrW n y w q) {i j : Nat} (hi : i < n) (hj : j < n) (hp : parO (p0N n y) (kE n y i) = some (kE n y j)) : nmI n w i = (j : Int) := by
  have hk := kE_lt h.n12 (y := y) hi
  have hid : (y (kE n y j) 1).n = (y (kE n y i) 2).n := by
    rcases (p0_ok n y).2 _ hk with ⟨e, _⟩ | ⟨j', _, e, e2⟩
    · rw [e] at hp; cases hp
    · rw [e] at hp; cases hp; exact e2
  unfold nmI
  cases e : scan (nmG w w i) n 0 with
  | none =>
    have h1 := scan_none e j (Nat.zero_le _) (by omega)
    unfold nmG at h1
    split at h1
    · cases h1
    · rename_i h2
      refine absurd ?_ h2
      rw [h.sp i hi, h.sp j hj]
      exact hid
  | some r =>
    obtain ⟨_, j'⟩ := r
    obtain ⟨h1, _, h2⟩ := scan_some e
    unfold nmG at h1
    split at h1
    · rename_i h3
      rw [h.sp i hi, h.sp j' (by omega)] at h3
      have h4 : (y (kE n y j') 1).n = (y (kE n y j) 1).n := by rw [hid]; exact h3
      have h5 := kE_inj h.n12 (by omega) hj (id_inj h.good (kE_lt h.n12 (by omega)) (kE_lt h.n12 hj) h4)
      simp only [h5]
    · cases h1
theorem nm_none (h : TrW n y w q) {i : Nat} (hi : i < n) (hp : parO (p0N n y) (kE n y i) = none) : nmI n w i = -1 := by
  have hk := kE_lt h.n12 (y := y) hi
  have hid : ∀ j, j < n → (y j 1).n ≠ (y (kE n y i) 2).n := by
    rcases (p0_ok n y).2 _ hk with ⟨_, e⟩ | ⟨j', _, e, e2⟩
    · exact e
    · rw [e] at hp; cases hp
  unfold nmI
  cases e : scan (nmG w w i) n 0 with
  | none => rfl
  | some r =>
    obtain ⟨_, j'⟩ := r
    obtain ⟨h1, _, h2⟩ := scan_some e
    unfold nmG at h1
    split at h1
    · rename_i h3
      rw [h.sp i hi, h.sp j' (by omega)] at h3
      exact absurd h3 (hid _ (kE_lt h.n12 (by omega)))
    · cases h1
theorem to5i {z : Bool} {i : Nat} {m1 : Nat} {q1 : Nat → Nat → Dt} {l j ti : Int} {m : Nat} {p : Nat → Nat → Dt} (hn : n ≤ 1000) (hi : i < n) (ch : Nat → Nat) : ∀ (r s c : Nat), (∀ t, s ≤ t → t < s + r → ch t < n ∧ ch t ≠ i ∧ (w i 1).n ≤ (w (ch t) 1).n ∧ nmI n w (ch t) = (ch (t + 1) : Int)) → ch (s + r) = i → c + r ≤ n + 1 →
    ∃ c', L5i.To ⟨z, (i : Int), (ch s : Int), (c : Int), m1, q1, l, j, ti, n, w, m, p⟩ false ⟨z, (i : Int), (i : Int), c', m1, q1, l, j, ti, n, w, m, p⟩
  | 0, s, c, h, he, hc => by
    refine ⟨(c : Int), L5i.to_out ?_ rfl⟩
    show rnd5i _ = _
    simp only [rnd5i]
    rw [Nat.add_zero] at he
    rw [he, condF (by rw [bne_self_eq_false])]
    rfl
  | r + 1, s, c, h, he, hc => by
    obtain ⟨h1, h2, h3, h4⟩ := h s (Nat.le_refl _) (by omega)
    obtain ⟨c', hc'⟩ := to5i (z := z) (m1 := m1) (q1 := q1) (l := l) (j := j) (ti := ti) (m := m) (p := p) hn hi ch r (s + 1) (c + 1) (fun t ht1 ht2 => h t (by omega) (by omega)) (by rw [← he]; congr 1; omega) (by omega)
    refine ⟨c', L5i.to_on ?_ rfl hc'⟩
    show rnd5i _ = _
    simp only [rnd5i, Int.toNat_natCast]
    rw [condT (by rw [bne_iff_ne]; omega), condF (decide_eq_false (by omega)), condF (decide_eq_false (by omega)), condT (by rw [Bool.and_eq_true, decide_eq_true_eq, decide_eq_true_eq]; omega), condT (by rw [Bool.and_eq_true, decide_eq_true_eq, decide_eq_true_eq]; omega), condF (decide_eq_false (by omega)), condT (by rw [Bool.and_eq_true, Bool.and_eq_true, decide_eq_true_eq, decide_eq_true_eq, Nat.ble_eq]; omega), h4, wrapI (by omega) (by omega)]
    rfl
/-- a circle that is cut leads back -/
theorem cut_chain (h : TrW n y w q) {i j : Nat} (hi : i < n) (hp : parO (p0N n y) (kE n y i) = some j) (hc : parO (pcN n y) (kE n y i) = none) : ∃ (ch : Nat → Nat) (r : Nat), ch r = i ∧ r ≤ n ∧ nmI n w i = (ch 0 : Int) ∧ ∀ t, t < r → ch t < n ∧ ch t ≠ i ∧ (w i 1).n ≤ (w (ch t) 1).n ∧ nmI n w (ch t) = (ch (t + 1) : Int) := by
  have hk := kE_lt h.n12 (y := y) hi
  rcases (okP_true n y).2.2.2 _ hk with e | ⟨_, hcy, hle⟩
  · rw [hp, hc] at e; cases e
  have hlt : ∀ t c, upO (parO (p0N n y)) t (kE n y i) = some c → c < n := fun t c => up_lt (p0_ok n y).1 hk t c
  -- the least period
  have hmin : ∃ P, 0 < P ∧ upO (parO (p0N n y)) P (kE n y i) = some (kE n y i) ∧ ∀ s, 0 < s → s < P → upO (parO (p0N n y)) s (kE n y i) ≠ some (kE n y i) := by
    obtain ⟨t, ht⟩ := hcy
    have key : ∀ d, (∃ s, 0 < s ∧ s ≤ d ∧ upO (parO (p0N n y)) s (kE n y i) = some (kE n y i)) → ∃ P, 0 < P ∧ upO (parO (p0N n y)) P (kE n y i) = some (kE n y i) ∧ ∀ s, 0 < s → s < P → upO (parO (p0N n y)) s (kE n y i) ≠ some (kE n y i) := by
      intro d
      induction d with
      | zero => rintro ⟨s, h1, h2, _⟩; omega
      | succ d ih =>
        rintro ⟨s, h1, h2, h3⟩
        by_cases hx : ∃ s, 0 < s ∧ s ≤ d ∧ upO (parO (p0N n y)) s (kE n y i) = some (kE n y i)
        · exact ih hx
        · have : s = d + 1 := by
            rcases Nat.lt_or_ge s (d + 1) with h4 | h4
            · exact absurd ⟨s, h1, by omega, h3⟩ hx
            · omega
          subst this
          exact ⟨d + 1, h1, h3, fun s h4 h5 h6 => hx ⟨s, h4, by omega, h6⟩⟩
    exact key (t + 1) ⟨t + 1, by omega, Nat.le_refl _, ht⟩
  obtain ⟨P, hP, hper, hne⟩ := hmin
  have hsome : ∀ t, ∃ c, upO (parO (p0N n y)) t (kE n y i) = some c := per_some hper hP
  have hPn : P ≤ n := by
    have hnd : ((List.range P).map fun t => (upO (parO (p0N n y)) t (kE n y i)).getD 0).Nodup := by
      rw [List.Nodup, List.pairwise_map, List.pairwise_iff_getElem]
      simp only [List.length_range, List.getElem_range]
      intro s s' hs hs' hss e
      obtain ⟨a, ha⟩ := hsome s
      obtain ⟨b, hb⟩ := hsome s'
      rw [ha, hb] at e
      simp only [Option.getD_some] at e
      subst e
      have h1 := upO_add (parO (p0N n y)) s' (P - s') (kE n y i)
      have h2 := upO_add (parO (p0N n y)) s (P - s') (kE n y i)
      rw [show s' + (P - s') = P by omega, hper, hb] at h1
      rw [ha] at h2
      exact hne (s + (P - s')) (by omega) (by omega) (by rw [h2, ← h1])
    have := nodup_le n _ hnd (by
      intro k hk'
      rw [List.mem_map] at hk'
      obtain ⟨t, _, rfl⟩ := hk'
      obtain ⟨c, hc⟩ := hsome t
      rw [hc]
      exact hlt t c hc)
    rwa [List.length_map, List.length_range] at this
  have hpos : ∀ t, ∃ a, a < n ∧ upO (parO (p0N n y)) (t + 1) (kE n y i) = some (kE n y a) := fun t => by
    obtain ⟨c, hc⟩ := hsome (t + 1)
    obtain ⟨a, ha, e⟩ := kE_sur h.n12 y (hlt _ _ hc)
    exact ⟨a, ha, by rw [hc, e]⟩
  obtain ⟨ch, hch⟩ : ∃ ch : Nat → Nat, ∀ t, ch t < n ∧ upO (parO (p0N n y)) (t + 1) (kE n y i) = some (kE n y (ch t)) := ⟨fun t => (hpos t).choose, fun t => (hpos t).choose_spec⟩
  refine ⟨ch, P - 1, ?_, by omega, ?_, fun t ht => ⟨(hch t).1, fun e => ?_, ?_, ?_⟩⟩
  · have := (hch (P - 1)).2
    rw [show P - 1 + 1 = P by omega, hper] at this
    exact (kE_inj h.n12 hi (hch _).1 (Option.some.inj this)).symm
  · refine nm_some h hi (hch 0).1 ?_
    have := (hch 0).2
    rw [upO_one] at this
    simpa [upO] using this
  · have := (hch t).2
    rw [e] at this
    exact hne (t + 1) (by omega) (by omega) this
  · rw [h.sp i hi, h.sp _ (hch t).1]
    show (y (kE n y i) 1).n ≤ (y (kE n y (ch t)) 1).n
    have h1 := hle _ _ (hch t).2
    rcases Nat.lt_or_ge (kE n y i) (kE n y (ch t)) with h2 | h2
    · have := h.good.inc _ _ h2 (kE_lt h.n12 (hch t).1); omega
    · rw [show kE n y i = kE n y (ch t) by omega]; exact Int.le_refl _
  · refine nm_some h (hch t).1 (hch (t + 1)).1 ?_
    have h1 := (hch (t + 1)).2
    have h2 : upO (parO (p0N n y)) (t + 1 + 1) (kE n y i) = (upO (parO (p0N n y)) (t + 1) (kE n y i)).bind (parO (p0N n y)) := rfl
    rw [(hch t).2, h1] at h2
    simpa using h2.symm
theorem to5 (h : TrW n y w q) {ti : Int} : ∀ f j, j + f = n → ∃ s, L5.To ⟨false, n, q, (n : Int), (j : Int), ti, n, w, n, q⟩ false s
  | 0, j, hj => by
    refine ⟨⟨false, n, q, (n : Int), (j : Int), ti, n, w, n, q⟩, L5.to_out ?_ rfl⟩
    show rnd5 _ = _
    simp only [rnd5]
    rw [condF (decide_eq_false (by omega))]
    rfl
  | f + 1, j, hj => by
    obtain ⟨s, hs⟩ := to5 h (ti := ti) f (j + 1) (by omega)
    have hn := h.n12
    have hjn : j < n := by omega
    have c1 : decide ((j : Int) < (n : Int)) = true := decide_eq_true (by omega)
    have c2 : (decide (0 ≤ (j : Int)) && decide ((j : Int) < (n : Int))) = true := by rw [c1, decide_eq_true (by omega)]; rfl
    have c3 : (n.ble 1000 && (decide (0 ≤ (j : Int)) && decide ((j : Int) < (n : Int)))) = true := by rw [c2, Nat.ble_eq_true_of_le (by omega)]; rfl
    have w1 : IntKind.i64.wrap ((j : Int) + 1) = ((j + 1 : Nat) : Int) := by rw [wrapI (by omega) (by omega)]; omega
    have hpa := h.pa j hjn
    refine ⟨s, L5.to_on ?_ rfl hs⟩
    show rnd5 _ = _
    simp only [rnd5, Int.toNat_natCast]
    rw [condT c1, condT c2]
    rcases pE_par hn (y := y) hjn with ⟨e1, e2⟩ | ⟨k, hk, e1, e2⟩
    · rw [condF (decide_eq_false (by omega)), condF (decide_eq_false (by omega)), condF (decide_eq_false (by omega)), condF (decide_eq_false (by omega)), condT c3]
      cases hp : parO (p0N n y) (kE n y j) with
      | none =>
        have hnm := nm_none h hjn hp
        rw [condT (decide_eq_true (by omega)), w1]
        rfl
      | some k =>
        obtain ⟨ch, r, r1, r2, r3, r4⟩ := cut_chain h hjn hp e2
        rw [condF (decide_eq_false (by omega)), condT c3, r3]
        obtain ⟨c', hc'⟩ := to5i (w := w) (z := false) (m1 := n) (q1 := q) (l := (n : Int)) (j := (j : Int)) (ti := ti) (m := n) (p := q) (n := n) (i := j) (by omega) hjn ch r 0 0 (fun t _ ht => r4 t (by omega)) (by rw [Nat.zero_add]; exact r1) (by omega)
        rw [show ((0 : Nat) : Int) = 0 from rfl] at hc'
        rw [condT (ok5i_of hc' rfl), out5i_of hc', w1]
        rfl
    · have hkc := (okP_true n y).2.2.2 _ (kE_lt hn (y := y) hjn)
      rcases hkc with hkc | ⟨hkc, _⟩
      · rw [condF (decide_eq_false (by omega)), condF (decide_eq_false (by omega)), condT (decide_eq_true (by omega)), condT c3, condF (by rw [hpa, e1, nm_some h hjn (by omega) (hkc ▸ e2), bne_self_eq_false]), condT (decide_eq_true (by omega)), w1]
        rfl
      · rw [hkc] at e2; cases e2
end
end Go.Proofs.Ytfgniheefiefjaa

/- SpantreeParents' walk. Conditions: none beyond the context's. -/
namespace Go.Proofs.Ytfgniheefiefjaa
open Go.Evl Go.RowKit
theorem lx5 : (mkCx Try.prog (spOf [t16, t17, t20, iAw]) (inlOf []) extD).Ok InvD := cx_of [] (by kernel_rfl) (by
  intro p hp
  simp only [List.mem_cons, List.not_mem_nil, or_false] at hp
  rcases hp with rfl | rfl | rfl | rfl
  · exact t16_ok
  · exact t17_ok
  · exact t20_ok
  · exact iAw_ok)
theorem lt5 (n : Nat) (x : Nat → Nat → Dt) : evFn Try.prog (spOf [t16, t17, t20, iAw]) (inlOf []) extD (cKD [t16, t17, t20, iAw] []) lp5 Try.f5 [.isz n SS x] [] (fun r _ => some r) =
    (bif n.ble 9223372036854775807 && lnB n x then bif glB n x then RB true else bif n.ble 12 && (bdE n x != 0 || okB n x) then bif bdE n x != 0 then RB true else bif ((bdN n x : Nat) : Int) != ((bdN n x : Nat) : Int) then RB false else bif ok5 { z := false, m1 := bdN n x, q := bdP n x, l := ↑(bdN n x), j := 0, ti := bdI n x, n := bdN n x, y := bdS n x, m := bdN n x, p := bdP n x } then RB true else none else none else none : Option Res) := by kernel_rfl
def l5 : Ent := ⟨5, fun
  | [.isz n [.int .i64, .int .i64, .int .i64, .str, .str, .int .i64, .int .i64, .int .i64, .row [.str, .str], .row [.int .i64, .int .i64]] x] => .chk (okL n x) (.leaf (.ret (.bool true)))
  | _ => .non⟩
/-- what a reading gives, unless the spans are too great: the guards of Build -/
theorem okL_bd {n : Nat} {x : Nat → Nat → Dt} (hb : glB n x = false) : (n.ble 12 && (bdE n x != 0 || okB n x)) = true := by
  have h12 := (gl_sm hb).1
  rw [Nat.ble_eq_true_of_le h12, Bool.true_and]
  cases e : bdE n x != 0 with
  | true => rfl
  | false => rw [(okB_true h12 (by simpa using e)).1]; rfl
set_option maxRecDepth 10000 in
theorem l5_ok : SpecHolds Try.prog InvD 5 fun a => (l5.2 a).run := by
  refine specD lx5 Try.func5 (c := codeOf Try.prog 5) (by kernel_rfl) lp5 (fun p hp => by
    have hl : loops (codeOf Try.prog 5) = [(0, bodyOf Try.prog 5 0), (2, bodyOf Try.prog 5 2)] := by kernel_rfl
    rw [hl] at hp
    simp only [List.mem_cons, List.not_mem_nil, or_false] at hp
    rcases hp with rfl | rfl
    · exact sum5
    · exact sum5i) fun args r hh => ?_
  simp only [l5] at hh
  split at hh
  · rename_i n x
    obtain ⟨hg, hh⟩ := chk_run hh
    refine ⟨by kernel_rfl, tr_ok (by rfl) hh, ?_⟩
    refine (lt5 n x).trans (Eq.trans ?_ hh)
    have hg' := hg
    unfold okL at hg'
    simp only [Bool.and_eq_true] at hg'
    rw [condT (by rw [hg'.1, hg'.2.1]; rfl)]
    cases hb : glB n x with
    | true => rfl
    | false =>
      rw [cond_false, condT (okL_bd hb)]
      cases e : bdE n x != 0 with
      | true => rfl
      | false =>
        obtain ⟨e1, e2⟩ := trW_of (gl_sm hb).1 (show bdE n x = 0 by simpa using e)
        obtain ⟨s, hs⟩ := to5 e2 (ti := bdI n x) n 0 (by omega)
        rw [show ((0 : Nat) : Int) = 0 from rfl] at hs
        rw [cond_false, condF (by rw [bne_self_eq_false]), e1, condT (ok5_of hs rfl)]
        rfl
  · simp [Tr.run] at hh
end Go.Proofs.Ytfgniheefiefjaa
