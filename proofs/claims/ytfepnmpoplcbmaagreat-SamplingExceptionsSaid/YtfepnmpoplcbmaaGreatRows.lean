/-
  No cell of these rows narrows 'for every input' (looked for: loops, veiled, ifaces, maps, wideKeys, modest, calm, conditions, laid).
  DERIVED. THE GIVEN ROWS OF THIS SEAT. 5 by the template 'for every input the law returns true; each argument reads behind the call as it read before'; 0 by the template 'total and deterministic' (their statements: YtfepnmpoplcbmaaGreatTotals.lean).
  GIVEN WITH THE SEED: the statements are not yours to turn. If you find one false, say at which input.
  Laid BY PROGRAM, IN A SANDBOX (cutbox-rows.mjs): the forced cells as the released guide's own fill.sh prints them over the translation 330f7a4813a40056… (all of the seat's roots in one cut). By AI agents, Wed Nov 11 2026. No macro, syntax, notation, axiom, sorry.
-/
import Derived.Test.YtfepnmpoplcbmaaGreatChecked
import GoSem.Claim
import GoSem.ClaimJoined
import GoSem.ClaimMapViews
import Derived.JoinedTies
import Derived.KernelRfl
namespace Go.Proofs.YtfepnmpoplcbmaaGreat
/- THE CELL 'sum', in the pinned program and in every row, IS THE sha256 OF THE DUMP (.gsa) THAT YtfepnmpoplcbmaaGreatProg.lean LOADS. Nothing in Lean hashes anything: it is a label: what it is worth is what the hold of that sum in a sandbox is worth. -/
noncomputable def Tryz.pinned : Pinned := { name := "ytfepnmpoplcbmaagreat", sum := "330f7a4813a400564422f7d0ec6fc8c8309a27d5682aa023c25c7926da253ab1", checked := Tryz.checked }
namespace Rows
def none {H : Type} : Left H := { results := [], args := [] }

/-- 'lookoutlaw56.SamplingTail': WHATEVER THE INPUT: true; the input reads as it did. -/
def samplingTailSpec : ChangeSpec := { name := "samplingTail", fn := fun _ => fun
  | [d1, d2, d3] => { results := [.lit (.bool true)], args := [d1, d2, d3] }
  | _ => none }
def samplingTailRow : OpenClaim := { program := "ytfepnmpoplcbmaagreat", sum := "330f7a4813a400564422f7d0ec6fc8c8309a27d5682aa023c25c7926da253ab1", func := "lookout/lookoutlaw56.SamplingTail", spec := "samplingTail", inPlace := ["math/bits.Add64", "math/bits.Sub64"], unfollowed := true, recurses := true, named := ["math/bits.divideError", "math/bits.overflowError"], apart := false }
def SamplingTailSaid : Prop := samplingTailRow.holds Tryz.pinned (OpenSpec.ofChange samplingTailSpec)

/-- ITS FALSE NEIGHBOUR: 'it returns false'. Refute it at one input. -/
def samplingTailWrong : ChangeSpec := { name := "samplingTail", fn := fun _ => fun
  | [d1, d2, d3] => { results := [.lit (.bool false)], args := [d1, d2, d3] }
  | _ => none }
def SamplingTailWrongFalsely : Prop := samplingTailRow.holds Tryz.pinned (OpenSpec.ofChange samplingTailWrong)

/-- 'lookoutlaw56.SamplingExceptions': WHATEVER THE INPUT: true; the input reads as it did. -/
def samplingExceptionsSpec : ChangeSpec := { name := "samplingExceptions", fn := fun _ => fun
  | [d1, d2, d3, d4, d5, d6] => { results := [.lit (.bool true)], args := [d1, d2, d3, d4, d5, d6] }
  | _ => none }
def samplingExceptionsRow : OpenClaim := { program := "ytfepnmpoplcbmaagreat", sum := "330f7a4813a400564422f7d0ec6fc8c8309a27d5682aa023c25c7926da253ab1", func := "lookout/lookoutlaw56.SamplingExceptions", spec := "samplingExceptions", inPlace := ["math/bits.Add64", "math/bits.Sub64"], unfollowed := true, recurses := true, named := ["math/bits.divideError", "math/bits.overflowError"], apart := false }
def SamplingExceptionsSaid : Prop := samplingExceptionsRow.holds Tryz.pinned (OpenSpec.ofChange samplingExceptionsSpec)

/-- ITS FALSE NEIGHBOUR: 'it returns false'. Refute it at one input. -/
def samplingExceptionsWrong : ChangeSpec := { name := "samplingExceptions", fn := fun _ => fun
  | [d1, d2, d3, d4, d5, d6] => { results := [.lit (.bool false)], args := [d1, d2, d3, d4, d5, d6] }
  | _ => none }
def SamplingExceptionsWrongFalsely : Prop := samplingExceptionsRow.holds Tryz.pinned (OpenSpec.ofChange samplingExceptionsWrong)

/-- 'lookoutlaw56.SamplingSample': WHATEVER THE INPUT: true; the input reads as it did. -/
def samplingSampleSpec : ChangeSpec := { name := "samplingSample", fn := fun _ => fun
  | [d1, d2] => { results := [.lit (.bool true)], args := [d1, d2] }
  | _ => none }
def samplingSampleRow : OpenClaim := { program := "ytfepnmpoplcbmaagreat", sum := "330f7a4813a400564422f7d0ec6fc8c8309a27d5682aa023c25c7926da253ab1", func := "lookout/lookoutlaw56.SamplingSample", spec := "samplingSample", inPlace := ["math/bits.Add64", "math/bits.Sub64"], unfollowed := true, recurses := true, named := ["math/bits.divideError", "math/bits.overflowError"], apart := false }
def SamplingSampleSaid : Prop := samplingSampleRow.holds Tryz.pinned (OpenSpec.ofChange samplingSampleSpec)

/-- ITS FALSE NEIGHBOUR: 'it returns false'. Refute it at one input. -/
def samplingSampleWrong : ChangeSpec := { name := "samplingSample", fn := fun _ => fun
  | [d1, d2] => { results := [.lit (.bool false)], args := [d1, d2] }
  | _ => none }
def SamplingSampleWrongFalsely : Prop := samplingSampleRow.holds Tryz.pinned (OpenSpec.ofChange samplingSampleWrong)

/-- 'lookoutlaw56.SamplingTraces': WHATEVER THE INPUT: true; the input reads as it did. -/
def samplingTracesSpec : ChangeSpec := { name := "samplingTraces", fn := fun _ => fun
  | [d1, d2] => { results := [.lit (.bool true)], args := [d1, d2] }
  | _ => none }
def samplingTracesRow : OpenClaim := { program := "ytfepnmpoplcbmaagreat", sum := "330f7a4813a400564422f7d0ec6fc8c8309a27d5682aa023c25c7926da253ab1", func := "lookout/lookoutlaw56.SamplingTraces", spec := "samplingTraces", inPlace := ["math/bits.Add64", "math/bits.Sub64"], unfollowed := true, recurses := true, named := ["math/bits.divideError", "math/bits.overflowError"], apart := false }
def SamplingTracesSaid : Prop := samplingTracesRow.holds Tryz.pinned (OpenSpec.ofChange samplingTracesSpec)

/-- ITS FALSE NEIGHBOUR: 'it returns false'. Refute it at one input. -/
def samplingTracesWrong : ChangeSpec := { name := "samplingTraces", fn := fun _ => fun
  | [d1, d2] => { results := [.lit (.bool false)], args := [d1, d2] }
  | _ => none }
def SamplingTracesWrongFalsely : Prop := samplingTracesRow.holds Tryz.pinned (OpenSpec.ofChange samplingTracesWrong)

/-- 'lookoutlaw56.SamplingStages': WHATEVER THE INPUT: true; the input reads as it did. -/
def samplingStagesSpec : ChangeSpec := { name := "samplingStages", fn := fun _ => fun
  | [d1, d2, d3, d4] => { results := [.lit (.bool true)], args := [d1, d2, d3, d4] }
  | _ => none }
def samplingStagesRow : OpenClaim := { program := "ytfepnmpoplcbmaagreat", sum := "330f7a4813a400564422f7d0ec6fc8c8309a27d5682aa023c25c7926da253ab1", func := "lookout/lookoutlaw56.SamplingStages", spec := "samplingStages", inPlace := ["math/bits.Add64", "math/bits.Sub64"], unfollowed := true, recurses := true, named := ["math/bits.divideError", "math/bits.overflowError"], apart := false }
def SamplingStagesSaid : Prop := samplingStagesRow.holds Tryz.pinned (OpenSpec.ofChange samplingStagesSpec)

/-- ITS FALSE NEIGHBOUR: 'it returns false'. Refute it at one input. -/
def samplingStagesWrong : ChangeSpec := { name := "samplingStages", fn := fun _ => fun
  | [d1, d2, d3, d4] => { results := [.lit (.bool false)], args := [d1, d2, d3, d4] }
  | _ => none }
def SamplingStagesWrongFalsely : Prop := samplingStagesRow.holds Tryz.pinned (OpenSpec.ofChange samplingStagesWrong)

/- THE SECOND FORM. 'bulk': how many values and letters a reading holds, each counted each time it is reached (what is shared counts as often as it is met; a slice's spare places count too). A statement '..UptoSaid' is the law's where the arguments, and the package variables that the reading takes, are together of bulk at most 1048576: NARROWER than '..Said'. Prove '..Said' where nothing that the law and all that it calls make is longer than what came in: it says more and counts as full. Else prove '..UptoSaid'. A law counts once. -/
mutual
def uptoBulk {H : Type} : DataW H → Nat
  | .lit (.string bytes) => bytes.length + 1
  | .lit _ => 1
  | .nil => 1
  | .ptr d => uptoBulk d + 1
  | .slice elems spare => uptoBulkAll elems + uptoBulkAll spare + 1
  | .agg parts => uptoBulkAll parts + 1
  | .iface _ d => uptoBulk d + 1
  | .map entries => uptoBulkEntries entries + 1
  | .held _ => 1
def uptoBulkAll {H : Type} : List (DataW H) → Nat
  | [] => 0
  | d :: r => uptoBulk d + uptoBulkAll r
def uptoBulkEntries {H : Type} : List (Lit × DataW H) → Nat
  | [] => 0
  | x :: r => uptoBulkEntry x + uptoBulkEntries r
def uptoBulkEntry {H : Type} : Lit × DataW H → Nat
  | (.string bytes, d) => bytes.length + uptoBulk d + 1
  | (_, d) => uptoBulk d + 1
 end
def uptoSmall : (H : Type) → List (DataW H) → Bool := fun _ ds => decide (uptoBulkAll ds ≤ 1048576)
def OpenSpec.upto (s : _root_.Go.ChangeSpec) : _root_.Go.OpenSpec := { _root_.Go.OpenSpec.ofChange s with cond := some uptoSmall }

/-- 'lookoutlaw56.SamplingTail', WHERE WHAT IT READS IS OF BULK AT MOST 1048576: true; the input reads as it did. -/
def samplingTailUptoRow : OpenClaim := { program := "ytfepnmpoplcbmaagreat", sum := "330f7a4813a400564422f7d0ec6fc8c8309a27d5682aa023c25c7926da253ab1", func := "lookout/lookoutlaw56.SamplingTail", spec := "samplingTail", inPlace := ["math/bits.Add64", "math/bits.Sub64"], unfollowed := true, recurses := true, named := ["math/bits.divideError", "math/bits.overflowError"], apart := false, narrowed := true }
def SamplingTailUptoSaid : Prop := samplingTailUptoRow.holds Tryz.pinned (OpenSpec.upto samplingTailSpec)

/-- 'lookoutlaw56.SamplingExceptions', WHERE WHAT IT READS IS OF BULK AT MOST 1048576: true; the input reads as it did. -/
def samplingExceptionsUptoRow : OpenClaim := { program := "ytfepnmpoplcbmaagreat", sum := "330f7a4813a400564422f7d0ec6fc8c8309a27d5682aa023c25c7926da253ab1", func := "lookout/lookoutlaw56.SamplingExceptions", spec := "samplingExceptions", inPlace := ["math/bits.Add64", "math/bits.Sub64"], unfollowed := true, recurses := true, named := ["math/bits.divideError", "math/bits.overflowError"], apart := false, narrowed := true }
def SamplingExceptionsUptoSaid : Prop := samplingExceptionsUptoRow.holds Tryz.pinned (OpenSpec.upto samplingExceptionsSpec)

/-- 'lookoutlaw56.SamplingSample', WHERE WHAT IT READS IS OF BULK AT MOST 1048576: true; the input reads as it did. -/
def samplingSampleUptoRow : OpenClaim := { program := "ytfepnmpoplcbmaagreat", sum := "330f7a4813a400564422f7d0ec6fc8c8309a27d5682aa023c25c7926da253ab1", func := "lookout/lookoutlaw56.SamplingSample", spec := "samplingSample", inPlace := ["math/bits.Add64", "math/bits.Sub64"], unfollowed := true, recurses := true, named := ["math/bits.divideError", "math/bits.overflowError"], apart := false, narrowed := true }
def SamplingSampleUptoSaid : Prop := samplingSampleUptoRow.holds Tryz.pinned (OpenSpec.upto samplingSampleSpec)

/-- 'lookoutlaw56.SamplingTraces', WHERE WHAT IT READS IS OF BULK AT MOST 1048576: true; the input reads as it did. -/
def samplingTracesUptoRow : OpenClaim := { program := "ytfepnmpoplcbmaagreat", sum := "330f7a4813a400564422f7d0ec6fc8c8309a27d5682aa023c25c7926da253ab1", func := "lookout/lookoutlaw56.SamplingTraces", spec := "samplingTraces", inPlace := ["math/bits.Add64", "math/bits.Sub64"], unfollowed := true, recurses := true, named := ["math/bits.divideError", "math/bits.overflowError"], apart := false, narrowed := true }
def SamplingTracesUptoSaid : Prop := samplingTracesUptoRow.holds Tryz.pinned (OpenSpec.upto samplingTracesSpec)

/-- 'lookoutlaw56.SamplingStages', WHERE WHAT IT READS IS OF BULK AT MOST 1048576: true; the input reads as it did. -/
def samplingStagesUptoRow : OpenClaim := { program := "ytfepnmpoplcbmaagreat", sum := "330f7a4813a400564422f7d0ec6fc8c8309a27d5682aa023c25c7926da253ab1", func := "lookout/lookoutlaw56.SamplingStages", spec := "samplingStages", inPlace := ["math/bits.Add64", "math/bits.Sub64"], unfollowed := true, recurses := true, named := ["math/bits.divideError", "math/bits.overflowError"], apart := false, narrowed := true }
def SamplingStagesUptoSaid : Prop := samplingStagesUptoRow.holds Tryz.pinned (OpenSpec.upto samplingStagesSpec)

end Rows
end Go.Proofs.YtfepnmpoplcbmaaGreat
