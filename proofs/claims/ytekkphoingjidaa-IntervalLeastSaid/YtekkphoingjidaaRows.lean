/-
  No cell of these rows narrows 'for every input' (looked for: loops, veiled, ifaces, maps, wideKeys, modest, calm, conditions, laid).
  DERIVED. THE GIVEN ROWS OF THIS SEAT. 8 by the template 'for every input the law returns true; each argument reads behind the call as it read before'; 0 by the template 'total and deterministic' (their statements: YtekkphoingjidaaTotals.lean).
  GIVEN WITH THE SEED: the statements are not yours to turn. If you find one false, say at which input.
  Laid BY PROGRAM, IN A SANDBOX (cutbox-rows.mjs): the forced cells as the released guide's own fill.sh prints them over the translation 2a3c35daac5a79ee… (all of the seat's roots in one cut). By AI agents, Wed Nov 11 2026. No macro, syntax, notation, axiom, sorry.
-/
import Derived.Test.YtekkphoingjidaaChecked
import GoSem.Claim
import GoSem.ClaimJoined
import GoSem.ClaimMapViews
import Derived.JoinedTies
import Derived.KernelRfl
namespace Go.Proofs.Ytekkphoingjidaa
/- THE CELL 'sum', in the pinned program and in every row, IS THE sha256 OF THE DUMP (.gsa) THAT YtekkphoingjidaaProg.lean LOADS. Nothing in Lean hashes anything: it is a label: what it is worth is what the hold of that sum in a sandbox is worth. -/
noncomputable def Try.pinned : Pinned := { name := "ytekkphoingjidaa", sum := "2a3c35daac5a79ee6a3937c26516d7c1786fb46bf5e82f8a0bdab9857c61dbac", checked := Try.checked }
namespace Rows
def none {H : Type} : Left H := { results := [], args := [] }

/-- 'lookoutlaw04.IntervalDecides': WHATEVER THE INPUT: true; the input reads as it did. -/
def intervalDecidesSpec : ChangeSpec := { name := "intervalDecides", fn := fun _ => fun
  | [d1, d2, d3, d4] => { results := [.lit (.bool true)], args := [d1, d2, d3, d4] }
  | _ => none }
def intervalDecidesRow : OpenClaim := { program := "ytekkphoingjidaa", sum := "2a3c35daac5a79ee6a3937c26516d7c1786fb46bf5e82f8a0bdab9857c61dbac", func := "lookout/lookoutlaw04.IntervalDecides", spec := "intervalDecides", unfollowed := true, recurses := true, apart := false }
def IntervalDecidesSaid : Prop := intervalDecidesRow.holds Try.pinned (OpenSpec.ofChange intervalDecidesSpec)

/-- ITS FALSE NEIGHBOUR: 'it returns false'. Refute it at one input. -/
def intervalDecidesWrong : ChangeSpec := { name := "intervalDecides", fn := fun _ => fun
  | [d1, d2, d3, d4] => { results := [.lit (.bool false)], args := [d1, d2, d3, d4] }
  | _ => none }
def IntervalDecidesWrongFalsely : Prop := intervalDecidesRow.holds Try.pinned (OpenSpec.ofChange intervalDecidesWrong)

/-- 'lookoutlaw04.IntervalOrder': WHATEVER THE INPUT: true; the input reads as it did. -/
def intervalOrderSpec : ChangeSpec := { name := "intervalOrder", fn := fun _ => fun
  | [d1, d2, d3] => { results := [.lit (.bool true)], args := [d1, d2, d3] }
  | _ => none }
def intervalOrderRow : OpenClaim := { program := "ytekkphoingjidaa", sum := "2a3c35daac5a79ee6a3937c26516d7c1786fb46bf5e82f8a0bdab9857c61dbac", func := "lookout/lookoutlaw04.IntervalOrder", spec := "intervalOrder", unfollowed := true, recurses := true, apart := false }
def IntervalOrderSaid : Prop := intervalOrderRow.holds Try.pinned (OpenSpec.ofChange intervalOrderSpec)

/-- ITS FALSE NEIGHBOUR: 'it returns false'. Refute it at one input. -/
def intervalOrderWrong : ChangeSpec := { name := "intervalOrder", fn := fun _ => fun
  | [d1, d2, d3] => { results := [.lit (.bool false)], args := [d1, d2, d3] }
  | _ => none }
def IntervalOrderWrongFalsely : Prop := intervalOrderRow.holds Try.pinned (OpenSpec.ofChange intervalOrderWrong)

/-- 'lookoutlaw04.IntervalLattice': WHATEVER THE INPUT: true; the input reads as it did. -/
def intervalLatticeSpec : ChangeSpec := { name := "intervalLattice", fn := fun _ => fun
  | [d1, d2, d3] => { results := [.lit (.bool true)], args := [d1, d2, d3] }
  | _ => none }
def intervalLatticeRow : OpenClaim := { program := "ytekkphoingjidaa", sum := "2a3c35daac5a79ee6a3937c26516d7c1786fb46bf5e82f8a0bdab9857c61dbac", func := "lookout/lookoutlaw04.IntervalLattice", spec := "intervalLattice", unfollowed := true, recurses := true, apart := false }
def IntervalLatticeSaid : Prop := intervalLatticeRow.holds Try.pinned (OpenSpec.ofChange intervalLatticeSpec)

/-- ITS FALSE NEIGHBOUR: 'it returns false'. Refute it at one input. -/
def intervalLatticeWrong : ChangeSpec := { name := "intervalLattice", fn := fun _ => fun
  | [d1, d2, d3] => { results := [.lit (.bool false)], args := [d1, d2, d3] }
  | _ => none }
def IntervalLatticeWrongFalsely : Prop := intervalLatticeRow.holds Try.pinned (OpenSpec.ofChange intervalLatticeWrong)

/-- 'lookoutlaw04.IntervalCheck': WHATEVER THE INPUT: true; the input reads as it did. -/
def intervalCheckSpec : ChangeSpec := { name := "intervalCheck", fn := fun _ => fun
  | [d1, d2] => { results := [.lit (.bool true)], args := [d1, d2] }
  | _ => none }
def intervalCheckRow : OpenClaim := { program := "ytekkphoingjidaa", sum := "2a3c35daac5a79ee6a3937c26516d7c1786fb46bf5e82f8a0bdab9857c61dbac", func := "lookout/lookoutlaw04.IntervalCheck", spec := "intervalCheck", inPlace := ["math/bits.Add64", "math/bits.Sub64"], unfollowed := true, recurses := true, named := ["math/bits.divideError", "math/bits.overflowError"], apart := false }
def IntervalCheckSaid : Prop := intervalCheckRow.holds Try.pinned (OpenSpec.ofChange intervalCheckSpec)

/-- ITS FALSE NEIGHBOUR: 'it returns false'. Refute it at one input. -/
def intervalCheckWrong : ChangeSpec := { name := "intervalCheck", fn := fun _ => fun
  | [d1, d2] => { results := [.lit (.bool false)], args := [d1, d2] }
  | _ => none }
def IntervalCheckWrongFalsely : Prop := intervalCheckRow.holds Try.pinned (OpenSpec.ofChange intervalCheckWrong)

/-- 'lookoutlaw04.IntervalArithmetic': WHATEVER THE INPUT: true; the input reads as it did. -/
def intervalArithmeticSpec : ChangeSpec := { name := "intervalArithmetic", fn := fun _ => fun
  | [d1, d2] => { results := [.lit (.bool true)], args := [d1, d2] }
  | _ => none }
def intervalArithmeticRow : OpenClaim := { program := "ytekkphoingjidaa", sum := "2a3c35daac5a79ee6a3937c26516d7c1786fb46bf5e82f8a0bdab9857c61dbac", func := "lookout/lookoutlaw04.IntervalArithmetic", spec := "intervalArithmetic", inPlace := ["math/bits.Add64", "math/bits.Sub64"], unfollowed := true, recurses := true, named := ["math/bits.divideError", "math/bits.overflowError"], apart := false }
def IntervalArithmeticSaid : Prop := intervalArithmeticRow.holds Try.pinned (OpenSpec.ofChange intervalArithmeticSpec)

/-- ITS FALSE NEIGHBOUR: 'it returns false'. Refute it at one input. -/
def intervalArithmeticWrong : ChangeSpec := { name := "intervalArithmetic", fn := fun _ => fun
  | [d1, d2] => { results := [.lit (.bool false)], args := [d1, d2] }
  | _ => none }
def IntervalArithmeticWrongFalsely : Prop := intervalArithmeticRow.holds Try.pinned (OpenSpec.ofChange intervalArithmeticWrong)

/-- 'lookoutlaw04.IntervalLeast': WHATEVER THE INPUT: true; the input reads as it did. -/
def intervalLeastSpec : ChangeSpec := { name := "intervalLeast", fn := fun _ => fun
  | [d1, d2, d3] => { results := [.lit (.bool true)], args := [d1, d2, d3] }
  | _ => none }
def intervalLeastRow : OpenClaim := { program := "ytekkphoingjidaa", sum := "2a3c35daac5a79ee6a3937c26516d7c1786fb46bf5e82f8a0bdab9857c61dbac", func := "lookout/lookoutlaw04.IntervalLeast", spec := "intervalLeast", inPlace := ["math/bits.Add64", "math/bits.Sub64"], unfollowed := true, recurses := true, named := ["math/bits.divideError", "math/bits.overflowError"], apart := false }
def IntervalLeastSaid : Prop := intervalLeastRow.holds Try.pinned (OpenSpec.ofChange intervalLeastSpec)

/-- ITS FALSE NEIGHBOUR: 'it returns false'. Refute it at one input. -/
def intervalLeastWrong : ChangeSpec := { name := "intervalLeast", fn := fun _ => fun
  | [d1, d2, d3] => { results := [.lit (.bool false)], args := [d1, d2, d3] }
  | _ => none }
def IntervalLeastWrongFalsely : Prop := intervalLeastRow.holds Try.pinned (OpenSpec.ofChange intervalLeastWrong)

/-- 'lookoutlaw04.IntervalElements': WHATEVER THE INPUT: true; the input reads as it did. -/
def intervalElementsSpec : ChangeSpec := { name := "intervalElements", fn := fun _ => fun
  | [d1, d2, d3, d4] => { results := [.lit (.bool true)], args := [d1, d2, d3, d4] }
  | _ => none }
def intervalElementsRow : OpenClaim := { program := "ytekkphoingjidaa", sum := "2a3c35daac5a79ee6a3937c26516d7c1786fb46bf5e82f8a0bdab9857c61dbac", func := "lookout/lookoutlaw04.IntervalElements", spec := "intervalElements", inPlace := ["math/bits.Add64", "math/bits.Sub64"], unfollowed := true, recurses := true, named := ["math/bits.divideError", "math/bits.overflowError"], apart := false }
def IntervalElementsSaid : Prop := intervalElementsRow.holds Try.pinned (OpenSpec.ofChange intervalElementsSpec)

/-- ITS FALSE NEIGHBOUR: 'it returns false'. Refute it at one input. -/
def intervalElementsWrong : ChangeSpec := { name := "intervalElements", fn := fun _ => fun
  | [d1, d2, d3, d4] => { results := [.lit (.bool false)], args := [d1, d2, d3, d4] }
  | _ => none }
def IntervalElementsWrongFalsely : Prop := intervalElementsRow.holds Try.pinned (OpenSpec.ofChange intervalElementsWrong)

/-- 'lookoutlaw04.IntervalMonotone': WHATEVER THE INPUT: true; the input reads as it did. -/
def intervalMonotoneSpec : ChangeSpec := { name := "intervalMonotone", fn := fun _ => fun
  | [d1, d2, d3, d4] => { results := [.lit (.bool true)], args := [d1, d2, d3, d4] }
  | _ => none }
def intervalMonotoneRow : OpenClaim := { program := "ytekkphoingjidaa", sum := "2a3c35daac5a79ee6a3937c26516d7c1786fb46bf5e82f8a0bdab9857c61dbac", func := "lookout/lookoutlaw04.IntervalMonotone", spec := "intervalMonotone", inPlace := ["math/bits.Add64", "math/bits.Sub64"], unfollowed := true, recurses := true, named := ["math/bits.divideError", "math/bits.overflowError"], apart := false }
def IntervalMonotoneSaid : Prop := intervalMonotoneRow.holds Try.pinned (OpenSpec.ofChange intervalMonotoneSpec)

/-- ITS FALSE NEIGHBOUR: 'it returns false'. Refute it at one input. -/
def intervalMonotoneWrong : ChangeSpec := { name := "intervalMonotone", fn := fun _ => fun
  | [d1, d2, d3, d4] => { results := [.lit (.bool false)], args := [d1, d2, d3, d4] }
  | _ => none }
def IntervalMonotoneWrongFalsely : Prop := intervalMonotoneRow.holds Try.pinned (OpenSpec.ofChange intervalMonotoneWrong)

/- THE SECOND FORM. 'bulk': how many values and letters a reading holds, each counted each time it is reached (what is shared counts as often as it is met; a slice's spare places count too). A statement '..UptoSaid' is the law's where the arguments, and the package variables that the reading takes, are together of bulk at most 1048576: NARROWER than '..Said'. Prove '..Said' where nothing that the law and all that it calls make is longer than what came in: it says more and counts as full. Else prove '..UptoSaid'. A law counts once. -/
mutual
def uptoBulk {H : Type} : DataW H → Nat
  | .lit (.string bytes) => bytes.length + 1
  | .lit _ => 1
  | .nil => 1
  | .ptr d => uptoBulk d + 1
  | .slice elems spare => uptoBulkAll elems + uptoBulkAll spare + 1
  | .agg parts => uptoBulkAll parts + 1
  | .iface _ d => uptoBulk d + 1
  | .map entries => uptoBulkEntries entries + 1
  | .held _ => 1
def uptoBulkAll {H : Type} : List (DataW H) → Nat
  | [] => 0
  | d :: r => uptoBulk d + uptoBulkAll r
def uptoBulkEntries {H : Type} : List (Lit × DataW H) → Nat
  | [] => 0
  | x :: r => uptoBulkEntry x + uptoBulkEntries r
def uptoBulkEntry {H : Type} : Lit × DataW H → Nat
  | (.string bytes, d) => bytes.length + uptoBulk d + 1
  | (_, d) => uptoBulk d + 1
 end
def uptoSmall : (H : Type) → List (DataW H) → Bool := fun _ ds => decide (uptoBulkAll ds ≤ 1048576)
def OpenSpec.upto (s : _root_.Go.ChangeSpec) : _root_.Go.OpenSpec := { _root_.Go.OpenSpec.ofChange s with cond := some uptoSmall }

/-- 'lookoutlaw04.IntervalDecides', WHERE WHAT IT READS IS OF BULK AT MOST 1048576: true; the input reads as it did. -/
def intervalDecidesUptoRow : OpenClaim := { program := "ytekkphoingjidaa", sum := "2a3c35daac5a79ee6a3937c26516d7c1786fb46bf5e82f8a0bdab9857c61dbac", func := "lookout/lookoutlaw04.IntervalDecides", spec := "intervalDecides", unfollowed := true, recurses := true, apart := false, narrowed := true }
def IntervalDecidesUptoSaid : Prop := intervalDecidesUptoRow.holds Try.pinned (OpenSpec.upto intervalDecidesSpec)

/-- 'lookoutlaw04.IntervalOrder', WHERE WHAT IT READS IS OF BULK AT MOST 1048576: true; the input reads as it did. -/
def intervalOrderUptoRow : OpenClaim := { program := "ytekkphoingjidaa", sum := "2a3c35daac5a79ee6a3937c26516d7c1786fb46bf5e82f8a0bdab9857c61dbac", func := "lookout/lookoutlaw04.IntervalOrder", spec := "intervalOrder", unfollowed := true, recurses := true, apart := false, narrowed := true }
def IntervalOrderUptoSaid : Prop := intervalOrderUptoRow.holds Try.pinned (OpenSpec.upto intervalOrderSpec)

/-- 'lookoutlaw04.IntervalLattice', WHERE WHAT IT READS IS OF BULK AT MOST 1048576: true; the input reads as it did. -/
def intervalLatticeUptoRow : OpenClaim := { program := "ytekkphoingjidaa", sum := "2a3c35daac5a79ee6a3937c26516d7c1786fb46bf5e82f8a0bdab9857c61dbac", func := "lookout/lookoutlaw04.IntervalLattice", spec := "intervalLattice", unfollowed := true, recurses := true, apart := false, narrowed := true }
def IntervalLatticeUptoSaid : Prop := intervalLatticeUptoRow.holds Try.pinned (OpenSpec.upto intervalLatticeSpec)

/-- 'lookoutlaw04.IntervalCheck', WHERE WHAT IT READS IS OF BULK AT MOST 1048576: true; the input reads as it did. -/
def intervalCheckUptoRow : OpenClaim := { program := "ytekkphoingjidaa", sum := "2a3c35daac5a79ee6a3937c26516d7c1786fb46bf5e82f8a0bdab9857c61dbac", func := "lookout/lookoutlaw04.IntervalCheck", spec := "intervalCheck", inPlace := ["math/bits.Add64", "math/bits.Sub64"], unfollowed := true, recurses := true, named := ["math/bits.divideError", "math/bits.overflowError"], apart := false, narrowed := true }
def IntervalCheckUptoSaid : Prop := intervalCheckUptoRow.holds Try.pinned (OpenSpec.upto intervalCheckSpec)

/-- 'lookoutlaw04.IntervalArithmetic', WHERE WHAT IT READS IS OF BULK AT MOST 1048576: true; the input reads as it did. -/
def intervalArithmeticUptoRow : OpenClaim := { program := "ytekkphoingjidaa", sum := "2a3c35daac5a79ee6a3937c26516d7c1786fb46bf5e82f8a0bdab9857c61dbac", func := "lookout/lookoutlaw04.IntervalArithmetic", spec := "intervalArithmetic", inPlace := ["math/bits.Add64", "math/bits.Sub64"], unfollowed := true, recurses := true, named := ["math/bits.divideError", "math/bits.overflowError"], apart := false, narrowed := true }
def IntervalArithmeticUptoSaid : Prop := intervalArithmeticUptoRow.holds Try.pinned (OpenSpec.upto intervalArithmeticSpec)

/-- 'lookoutlaw04.IntervalLeast', WHERE WHAT IT READS IS OF BULK AT MOST 1048576: true; the input reads as it did. -/
def intervalLeastUptoRow : OpenClaim := { program := "ytekkphoingjidaa", sum := "2a3c35daac5a79ee6a3937c26516d7c1786fb46bf5e82f8a0bdab9857c61dbac", func := "lookout/lookoutlaw04.IntervalLeast", spec := "intervalLeast", inPlace := ["math/bits.Add64", "math/bits.Sub64"], unfollowed := true, recurses := true, named := ["math/bits.divideError", "math/bits.overflowError"], apart := false, narrowed := true }
def IntervalLeastUptoSaid : Prop := intervalLeastUptoRow.holds Try.pinned (OpenSpec.upto intervalLeastSpec)

/-- 'lookoutlaw04.IntervalElements', WHERE WHAT IT READS IS OF BULK AT MOST 1048576: true; the input reads as it did. -/
def intervalElementsUptoRow : OpenClaim := { program := "ytekkphoingjidaa", sum := "2a3c35daac5a79ee6a3937c26516d7c1786fb46bf5e82f8a0bdab9857c61dbac", func := "lookout/lookoutlaw04.IntervalElements", spec := "intervalElements", inPlace := ["math/bits.Add64", "math/bits.Sub64"], unfollowed := true, recurses := true, named := ["math/bits.divideError", "math/bits.overflowError"], apart := false, narrowed := true }
def IntervalElementsUptoSaid : Prop := intervalElementsUptoRow.holds Try.pinned (OpenSpec.upto intervalElementsSpec)

/-- 'lookoutlaw04.IntervalMonotone', WHERE WHAT IT READS IS OF BULK AT MOST 1048576: true; the input reads as it did. -/
def intervalMonotoneUptoRow : OpenClaim := { program := "ytekkphoingjidaa", sum := "2a3c35daac5a79ee6a3937c26516d7c1786fb46bf5e82f8a0bdab9857c61dbac", func := "lookout/lookoutlaw04.IntervalMonotone", spec := "intervalMonotone", inPlace := ["math/bits.Add64", "math/bits.Sub64"], unfollowed := true, recurses := true, named := ["math/bits.divideError", "math/bits.overflowError"], apart := false, narrowed := true }
def IntervalMonotoneUptoSaid : Prop := intervalMonotoneUptoRow.holds Try.pinned (OpenSpec.upto intervalMonotoneSpec)

end Rows
end Go.Proofs.Ytekkphoingjidaa
