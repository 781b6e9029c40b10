/- Each operation acts by its plan: the whole. Conditions: the context's contracts hold. -/
import Derived.Test.YtekkphoingjidaaDoorEvE
namespace Go.Evl
open Go.RowKit

section
variable {P : Program} {ρ : Nat → Nat} {A : Nat → Prop} {w : World} {n : Nat → Prop}

theorem below_alloc1 (w : World) (o : Obj) : Below w.heap.size w (w.alloc o) := (Below.refl _ _).alloc (Nat.le_refl _) _
theorem buildSliceA_run {t : TypeId} {len : Nat} {parts : List (Nat × AV)} {vals : Array (Nat × Value)} {v : AV} (h : buildSliceA P t len parts = some v) (hA : ∀ b, A b → b < w.heap.size)
    (hp : PRel ρ A w n parts vals.toList) :
    ∃ u w', (Instr.buildSlice t len vals).run P w = .ok u w' ∧ Below w.heap.size w w' ∧ Rv ρ (Grow A w w') w' n v u := by
  unfold buildSliceA at h
  split at h
  · rename_i e hu
    split at h
    · rename_i k z hk hz
      split at h
      · rename_i hc
        simp only [Bool.and_eq_true, Nat.ble_eq, Bool.not_eq_true'] at hc
        obtain ⟨hle, hne'⟩ := hc
        have hne : ¬ len * k = 0 := fun e => by rw [e] at hne'; cases hne'
        split at h
        · rename_i cells hf
          split at h
          · rename_i hb
            simp only [Option.some.injEq] at h
            subst h
            obtain ⟨o, hfo, hro⟩ := fillA_run hp _ (initV len k z.cells) cells hf (.map_const _)
            have hz' : ∀ w', (zeroValue e).run P w' = .ok z w' := by
              intro w'
              cases hi : P.info? e with
              | none => simp [hi] at hz
              | some i => simp [hi] at hz; simp [zeroValue, typeInfo, hi, hz]
            have hlen : o.length = len * k := by
              have h1 : cells.length = o.length := hro.1
              have h2 : cells.length = (initV len k z.cells).length := by
                have : ∀ (parts : List (Nat × AV)) (cs out : List AV) (pl : Nat → Option (Nat × Nat)), fillA pl cs parts = some out → out.length = cs.length := by
                  intro parts
                  induction parts with
                  | nil => intro cs out pl h; simp only [fillA, Option.some.injEq] at h; rw [h]
                  | cons p parts ih =>
                    intro cs out pl h
                    simp only [fillA] at h
                    split at h
                    · simp at h
                    · split at h
                      · rw [ih _ _ _ h, seg_length]
                      · simp at h
                rw [this _ _ _ _ hf]; simp
              rw [← h1, h2]; simp [initV]
            refine ⟨.slice (some ⟨w.heap.size, 0, none⟩) len len, w.alloc (.cells o.toArray e), ?_, below_alloc1 _ _, ?_⟩
            · simp only [Instr.buildSlice, Sem.run_bind, run_underlying' hu, Result.andThen_ok, run_sizeOf hk]
              rw [if_neg (by omega)]
              simp only [Sem.run_bind, Sem.run_pure, Result.andThen_ok, if_neg hne, hz']
              have : ((Array.range (len * k)).map (z.cells[· % z.cells.size]!)) = (initV len k z.cells).toArray := by simp only [initV, Array.toArray_toList]
              simp only [this, hfo, newRow, Sem.run_bind, run_newObj, Result.andThen_ok, Sem.run_pure]
              rfl
            · have hcell : ∀ j (hj : j < o.length), (w.alloc (.cells o.toArray e)).cell? ⟨w.heap.size, j, none⟩ = some o[j] := by
                intro j hj
                rw [World.cell?_alloc_new]; simp [hj]
              have hro' := (hro.bnd0 hb).mono (ρ' := ρ) (A' := Grow A w (w.alloc (.cells o.toArray e))) (w' := w.alloc (.cells o.toArray e)) (fun _ h => h) (fun _ _ => rfl) (fun _ h => .inl h)
                (fun b hb' => (below_alloc1 w _).block b (hA b hb'))
              have hidx : ∀ i, i < len → ∀ j, j < k → i * k + j < o.length := by
                intro i hi j hj
                rw [hlen]
                calc i * k + j < i * k + k := by omega
                  _ = (i + 1) * k := by rw [Nat.add_mul, Nat.one_mul]
                  _ ≤ len * k := Nat.mul_le_mul_right k hi
              have hcl : cells.length = o.length := hro.1
              refine .isl (us := fun i j => (o[i * k + j]?).getD undef) (.inr ⟨Nat.le_refl _, by simp⟩) ?_ ?_ ?_ (Nat.le_refl _)
              · intro i hi
                simp only [List.length_take, List.length_drop]
                have : (i + 1) * k ≤ len * k := Nat.mul_le_mul_right k hi
                rw [Nat.add_mul, Nat.one_mul] at this
                omega
              · intro i hi j hj
                have := hidx i hi j hj
                rw [show 0 + i * k + j = i * k + j by omega, hcell _ this]
                simp [this]
              · intro i hi j hj
                simp only [List.length_take, List.length_drop] at hj
                have hj' : i * k + j < o.length := by omega
                have hc' : i * k + j < cells.length := by omega
                have := hro'.2 (i * k + j) hc' hj'
                simp only [List.getElem_take, List.getElem_drop]
                simpa [hj'] using this
          · simp at h
        · simp at h
      · simp at h
    · simp at h
  · simp at h

theorem fieldAddrA_run {s : TypeId} {f : Nat} {x v : AV} {u : Value} (h : fieldAddrA P s f x = some v) (hx : Rv ρ A w n x u) (w' : World) :
    ∃ u', (Instr.fieldAt s u f).run P w' = .ok u' w' ∧ Rv ρ A w n v u' := by
  unfold fieldAddrA at h
  split at h
  · rename_i fs hu
    split at h
    · rename_i g hg
      have hfp : ∀ {k : Nat} (hk : size? P g.type = some (k + 1)) (b off : Nat), (Instr.fieldAt s (.pointer (some ⟨b, off, none⟩)) f).run P w' = .ok (.pointer (some ⟨b, off + g.offset, none⟩)) w' := by
        intro k hk b off
        simp [Instr.fieldAt, run_underlying' hu, hg, Instr.sureAddr, fieldPlace, run_sizeOf hk, addr_add]
      split at h
      · rename_i k id off hk
        obtain ⟨rfl, hid⟩ := hx.of_ptr
        simp only [Option.some.injEq] at h
        subst h
        exact ⟨_, hfp hk _ _, .ptr hid⟩
      · rename_i k cells hk
        simp only [Option.some.injEq] at h
        subst h
        cases hx with
        | ipt us hb hc hr =>
          refine ⟨_, hfp hk _ _, .ipt (fun j => us (g.offset + j)) hb (fun j hj => ?_) (fun j hj => ?_)⟩
          · simp only [List.length_drop] at hj
            rw [← hc (g.offset + j) (by omega)]; congr 2; omega
          · simp only [List.length_drop] at hj
            simp only [List.getElem_drop]
            exact hr (g.offset + j) (by omega)
      · simp at h
    · simp at h
  · simp at h

theorem fieldA_run {s : TypeId} {f : Nat} {x v : AV} {u : Value} (h : fieldA P s f x = some v) (hx : Rv ρ A w n x u) (w' : World) :
    ∃ u', (Instr.field s u f).run P w' = .ok u' w' ∧ Rv ρ A w n v u' := by
  unfold fieldA at h
  split at h
  · rename_i fs cs hu
    split at h
    · rename_i g hg
      obtain ⟨vs, rfl, hvs⟩ := hx.of_agg
      obtain ⟨u', hr, hv⟩ := partA_run h hvs w'
      exact ⟨u', by simp [Instr.field, run_underlying' hu, hg, asAgg, hr], hv⟩
    · simp at h
  · simp at h

theorem indexAddrA_run {t : TypeId} {x i v : AV} {c : Bool} {u ui : Value} (h : indexAddrA P t x i = some (c, v)) (hc : c = true) (hx : Rv ρ A w n x u) (hi : Rv ρ A w n i ui) (w' : World) :
    ∃ u', (Instr.indexAt t u ui).run P w' = .ok u' w' ∧ Rv ρ A w n v u' := by
  subst hc
  unfold indexAddrA at h
  split at h
  · rename_i e len k el kk j hu
    cases hi.of_int
    split at h
    · rename_i k' hk
      split at h
      · rename_i hkk
        subst hkk
        simp only [Option.some.injEq, Prod.mk.injEq, Bool.and_eq_true, decide_eq_true_eq] at h
        obtain ⟨⟨h0, h1⟩, rfl⟩ := h
        cases hx with
        | isl0 => omega
        | isl us hb hkl hcl hr hcap =>
          rename_i b off cap
          have hj : j.toNat < len := by omega
          refine ⟨.pointer (some ⟨b, off + j.toNat * k, none⟩), ?_, .ipt (us j.toNat) hb (fun q hq => ?_) (fun q hq => hr j.toNat hj q hq)⟩
          · simp [Instr.indexAt, asIntOf, run_underlying' hu, h0, h1, run_sizeOf hk, addr_add]
          · rw [hkl _ hj] at hq
            exact hcl _ hj q hq
      · simp at h
    · simp at h
  · simp at h

theorem indexA_run {t : TypeId} {x i v : AV} {c : Bool} {u ui : Value} (h : indexA P t x i = some (c, v)) (hc : c = true) (hx : Rv ρ A w n x u) (hi : Rv ρ A w n i ui) (w' : World) :
    ∃ u', (Instr.index t u ui).run P w' = .ok u' w' ∧ Rv ρ A w n v u' := by
  subst hc
  unfold indexA at h
  split at h
  · rename_i s kk j hu
    cases hi.of_int
    cases hx.of_str
    simp only [Option.some.injEq, Prod.mk.injEq, Bool.and_eq_true, decide_eq_true_eq] at h
    obtain ⟨⟨h0, h1⟩, rfl⟩ := h
    have hj : j.toNat < s.size := by omega
    refine ⟨.int .u8 ((s[j.toNat]?).getD 0).toNat, ?_, .int⟩
    simp [Instr.index, asIntOf, run_underlying' hu, h0, hj]
  · simp at h

theorem loadI_run {t : TypeId} {cells : List AV} {v : AV} {u : Value} (h : loadI P t cells = some v) (hx : Rv ρ A w n (.ipt cells) u) :
    ∃ u', (Instr.loadAt t u).run P w = .ok u' w ∧ Rv ρ A w n v u' := by
  unfold loadI at h
  cases hx with
  | ipt us hb hc hr =>
    split at h
    · rename_i k hg hk
      split at h
      · rename_i hle
        simp only [Nat.ble_eq] at hle
        simp only [Option.some.injEq] at h
        subst h
        have hl : ((List.range k).map us).length = k := by simp
        refine ⟨.agg ((List.range k).map us).toArray, ?_, .agg (by simp; omega) (fun i h1 h2 => ?_)⟩
        · have := run_loadVar (P := P) (us := (List.range k).map us) hg (by rw [hl]; exact hk) (by simp) (fun j hj => by
            simp only [List.length_map, List.length_range] at hj
            simpa using hc j (by omega))
          simp only [if_true] at this
          simp [Instr.loadAt, Instr.sureAddr, this]
        · simp only [List.length_take] at h1
          simp only [List.getElem_take, List.getElem_map, List.getElem_range]
          exact (hr i (by omega)).any
      · simp at h
    · rename_i hg hk
      cases cells with
      | nil => simp at h
      | cons c cells =>
        simp only [List.head?_cons, Option.some.injEq] at h
        subst h
        have := run_loadVar (P := P) (us := [us 0]) hg (by simpa using hk) (by simp) (fun j hj => by
          simp only [List.length_cons, List.length_nil] at hj
          have : j = 0 := by omega
          subst this
          exact hc 0 (by simp))
        simp only [Bool.false_eq_true, if_false, List.headD_cons] at this
        exact ⟨us 0, by simp [Instr.loadAt, Instr.sureAddr, this], (hr 0 (by simp)).any⟩
    · simp at h

theorem lenA_run {t : TypeId} {x v : AV} {u : Value} (h : lenA P t x = some v) (hx : Rv ρ A w n x u) (at_ : Array TypeId) (ht : at_[0]? = some t) (ty : TypeId) (w' : World) :
    ∃ u', (Builtin.len_ at_ ty #[u]).run P w' = .ok u' w' ∧ Rv ρ A w n v u' := by
  unfold lenA at h
  split at h
  · rename_i s hu
    cases hx.of_str
    simp only [Option.some.injEq] at h; subst h
    exact ⟨.int .i64 s.size, by simp [Builtin.len_, ht, run_underlying' hu, goInt], .int⟩
  · rename_i e len k el hu
    simp only [Option.some.injEq] at h; subst h
    cases hx with
    | isl0 => exact ⟨.int .i64 (0 : Nat), by simp [Builtin.len_, ht, run_underlying' hu, goInt], .int⟩
    | isl us hb hkl hcl hr hcap => exact ⟨.int .i64 len, by simp [Builtin.len_, ht, run_underlying' hu, goInt], .int⟩
  · simp at h
theorem unA_run {op : UnOp} {x v : AV} {u : Value} (h : unA op x = some v) (hx : Rv ρ A w n x u) (w' : World) : ∃ u', (Op.unary op u).run P w' = .ok u' w' ∧ Rv ρ A w n v u' := by
  unfold unA at h
  split at h
  · cases hx.of_int; simp only [Option.some.injEq] at h; subst h; exact ⟨_, rfl, .int⟩
  · cases hx.of_bool; simp only [Option.some.injEq] at h; subst h; exact ⟨_, rfl, .bool⟩
  · simp at h
theorem convA_run {s d : TypeId} {x v : AV} {u : Value} (h : convA P s d x = some v) (hx : Rv ρ A w n x u) (w' : World) : ∃ u', (convert s d u).run P w' = .ok u' w' ∧ Rv ρ A w n v u' := by
  unfold convA at h
  split at h
  · rename_i hs hd
    cases hx.of_int; simp only [Option.some.injEq] at h; subst h
    exact ⟨_, by simp only [convert, Sem.run_bind, run_underlying' hs, run_underlying' hd, Result.andThen_ok, Conv.intToInt, Sem.run_pure], .int⟩
  · rename_i hs hd
    cases hx.of_str; simp only [Option.some.injEq] at h; subst h
    exact ⟨_, by simp only [convert, Sem.run_bind, run_underlying' hs, run_underlying' hd, Result.andThen_ok, Sem.run_pure], .str⟩
  · simp at h
theorem ifaceA_run {t : TypeId} {x v : AV} {u : Value} (h : ifaceA P t x = some v) (hx : Rv ρ A w n x u) (w' : World) : ∃ u', (Instr.makeInterface t u).run P w' = .ok u' w' ∧ Rv ρ A w n v u' := by
  unfold ifaceA at h
  split at h
  · simp at h
  · rename_i d hd hne
    simp only [Option.some.injEq] at h; subst h
    refine ⟨.iface t u, ?_, .iface hx⟩
    simp only [Instr.makeInterface, Sem.run_bind, run_underlying' hne, Result.andThen_ok]
    cases d <;> first | rfl | exact absurd hne (hd _)
  · simp at h
theorem pickA_rv {t : Bool} {a b : AV} {x y : Value} (hx : Rv ρ A w n a x) (hy : Rv ρ A w n b y) : Rv ρ A w n (pickA t a b) (if t then x else y) := by
  unfold pickA
  split
  · cases hx.of_bool; cases hy.of_bool; cases t <;> exact .bool
  · split
    · rename_i h; subst h; cases hx.of_int; cases hy.of_int; cases t <;> exact .int
    · cases t
      · exact hy
      · exact hx
  · cases t
    · exact hy
    · exact hx
end
end Go.Evl
