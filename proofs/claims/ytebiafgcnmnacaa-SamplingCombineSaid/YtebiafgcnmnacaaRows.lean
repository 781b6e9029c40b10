/-
  No cell of these rows narrows 'for every input' (looked for: loops, veiled, ifaces, maps, wideKeys, modest, calm, conditions, laid).
  DERIVED. THE GIVEN ROWS OF THIS SEAT. 5 by the template 'for every input the law returns true; each argument reads behind the call as it read before'; 0 by the template 'total and deterministic' (their statements: YtebiafgcnmnacaaTotals.lean).
  GIVEN WITH THE SEED: the statements are not yours to turn. If you find one false, say at which input.
  Laid BY PROGRAM, IN A SANDBOX (cutbox-rows.mjs): the forced cells as the released guide's own fill.sh prints them over the translation 3460b842abdfb6fd… (all of the seat's roots in one cut). By AI agents, Wed Nov 11 2026. No macro, syntax, notation, axiom, sorry.
-/
import Derived.Test.YtebiafgcnmnacaaChecked
import GoSem.Claim
import GoSem.ClaimJoined
import GoSem.ClaimMapViews
import Derived.JoinedTies
import Derived.KernelRfl
namespace Go.Proofs.Ytebiafgcnmnacaa
/- THE CELL 'sum', in the pinned program and in every row, IS THE sha256 OF THE DUMP (.gsa) THAT YtebiafgcnmnacaaProg.lean LOADS. Nothing in Lean hashes anything: it is a label: what it is worth is what the hold of that sum in a sandbox is worth. -/
noncomputable def Try.pinned : Pinned := { name := "ytebiafgcnmnacaa", sum := "3460b842abdfb6fd57dc6ab2e17ee2036a43c4ca2de02bcfee499f2dc3f920a4", checked := Try.checked }
namespace Rows
def none {H : Type} : Left H := { results := [], args := [] }

/-- 'lookoutlaw56.SamplingHead': WHATEVER THE INPUT: true; the input reads as it did. -/
def samplingHeadSpec : ChangeSpec := { name := "samplingHead", fn := fun _ => fun
  | [d1, d2, d3, d4] => { results := [.lit (.bool true)], args := [d1, d2, d3, d4] }
  | _ => none }
def samplingHeadRow : OpenClaim := { program := "ytebiafgcnmnacaa", sum := "3460b842abdfb6fd57dc6ab2e17ee2036a43c4ca2de02bcfee499f2dc3f920a4", func := "lookout/lookoutlaw56.SamplingHead", spec := "samplingHead", inPlace := ["math/bits.Add64", "math/bits.Sub64"], unfollowed := true, recurses := true, named := ["math/bits.divideError", "math/bits.overflowError"], apart := false }
def SamplingHeadSaid : Prop := samplingHeadRow.holds Try.pinned (OpenSpec.ofChange samplingHeadSpec)

/-- ITS FALSE NEIGHBOUR: 'it returns false'. Refute it at one input. -/
def samplingHeadWrong : ChangeSpec := { name := "samplingHead", fn := fun _ => fun
  | [d1, d2, d3, d4] => { results := [.lit (.bool false)], args := [d1, d2, d3, d4] }
  | _ => none }
def SamplingHeadWrongFalsely : Prop := samplingHeadRow.holds Try.pinned (OpenSpec.ofChange samplingHeadWrong)

/-- 'lookoutlaw56.SamplingParts': WHATEVER THE INPUT: true; the input reads as it did. -/
def samplingPartsSpec : ChangeSpec := { name := "samplingParts", fn := fun _ => fun
  | [d1, d2, d3, d4] => { results := [.lit (.bool true)], args := [d1, d2, d3, d4] }
  | _ => none }
def samplingPartsRow : OpenClaim := { program := "ytebiafgcnmnacaa", sum := "3460b842abdfb6fd57dc6ab2e17ee2036a43c4ca2de02bcfee499f2dc3f920a4", func := "lookout/lookoutlaw56.SamplingParts", spec := "samplingParts", inPlace := ["math/bits.Add64", "math/bits.Sub64"], unfollowed := true, recurses := true, named := ["math/bits.divideError", "math/bits.overflowError"], apart := false }
def SamplingPartsSaid : Prop := samplingPartsRow.holds Try.pinned (OpenSpec.ofChange samplingPartsSpec)

/-- ITS FALSE NEIGHBOUR: 'it returns false'. Refute it at one input. -/
def samplingPartsWrong : ChangeSpec := { name := "samplingParts", fn := fun _ => fun
  | [d1, d2, d3, d4] => { results := [.lit (.bool false)], args := [d1, d2, d3, d4] }
  | _ => none }
def SamplingPartsWrongFalsely : Prop := samplingPartsRow.holds Try.pinned (OpenSpec.ofChange samplingPartsWrong)

/-- 'lookoutlaw56.SamplingPriority': WHATEVER THE INPUT: true; the input reads as it did. -/
def samplingPrioritySpec : ChangeSpec := { name := "samplingPriority", fn := fun _ => fun
  | [d1, d2, d3] => { results := [.lit (.bool true)], args := [d1, d2, d3] }
  | _ => none }
def samplingPriorityRow : OpenClaim := { program := "ytebiafgcnmnacaa", sum := "3460b842abdfb6fd57dc6ab2e17ee2036a43c4ca2de02bcfee499f2dc3f920a4", func := "lookout/lookoutlaw56.SamplingPriority", spec := "samplingPriority", inPlace := ["math/bits.Add64", "math/bits.Sub64"], unfollowed := true, recurses := true, named := ["math/bits.divideError", "math/bits.overflowError"], apart := false }
def SamplingPrioritySaid : Prop := samplingPriorityRow.holds Try.pinned (OpenSpec.ofChange samplingPrioritySpec)

/-- ITS FALSE NEIGHBOUR: 'it returns false'. Refute it at one input. -/
def samplingPriorityWrong : ChangeSpec := { name := "samplingPriority", fn := fun _ => fun
  | [d1, d2, d3] => { results := [.lit (.bool false)], args := [d1, d2, d3] }
  | _ => none }
def SamplingPriorityWrongFalsely : Prop := samplingPriorityRow.holds Try.pinned (OpenSpec.ofChange samplingPriorityWrong)

/-- 'lookoutlaw56.SamplingSums': WHATEVER THE INPUT: true; the input reads as it did. -/
def samplingSumsSpec : ChangeSpec := { name := "samplingSums", fn := fun _ => fun
  | [d1, d2, d3, d4] => { results := [.lit (.bool true)], args := [d1, d2, d3, d4] }
  | _ => none }
def samplingSumsRow : OpenClaim := { program := "ytebiafgcnmnacaa", sum := "3460b842abdfb6fd57dc6ab2e17ee2036a43c4ca2de02bcfee499f2dc3f920a4", func := "lookout/lookoutlaw56.SamplingSums", spec := "samplingSums", inPlace := ["math/bits.Add64", "math/bits.Sub64"], unfollowed := true, recurses := true, named := ["math/bits.divideError", "math/bits.overflowError"], apart := false }
def SamplingSumsSaid : Prop := samplingSumsRow.holds Try.pinned (OpenSpec.ofChange samplingSumsSpec)

/-- ITS FALSE NEIGHBOUR: 'it returns false'. Refute it at one input. -/
def samplingSumsWrong : ChangeSpec := { name := "samplingSums", fn := fun _ => fun
  | [d1, d2, d3, d4] => { results := [.lit (.bool false)], args := [d1, d2, d3, d4] }
  | _ => none }
def SamplingSumsWrongFalsely : Prop := samplingSumsRow.holds Try.pinned (OpenSpec.ofChange samplingSumsWrong)

/-- 'lookoutlaw56.SamplingCombine': WHATEVER THE INPUT: true; the input reads as it did. -/
def samplingCombineSpec : ChangeSpec := { name := "samplingCombine", fn := fun _ => fun
  | [d1, d2, d3] => { results := [.lit (.bool true)], args := [d1, d2, d3] }
  | _ => none }
def samplingCombineRow : OpenClaim := { program := "ytebiafgcnmnacaa", sum := "3460b842abdfb6fd57dc6ab2e17ee2036a43c4ca2de02bcfee499f2dc3f920a4", func := "lookout/lookoutlaw56.SamplingCombine", spec := "samplingCombine", inPlace := ["math/bits.Add64", "math/bits.Sub64"], unfollowed := true, recurses := true, named := ["math/bits.divideError", "math/bits.overflowError"], apart := false }
def SamplingCombineSaid : Prop := samplingCombineRow.holds Try.pinned (OpenSpec.ofChange samplingCombineSpec)

/-- ITS FALSE NEIGHBOUR: 'it returns false'. Refute it at one input. -/
def samplingCombineWrong : ChangeSpec := { name := "samplingCombine", fn := fun _ => fun
  | [d1, d2, d3] => { results := [.lit (.bool false)], args := [d1, d2, d3] }
  | _ => none }
def SamplingCombineWrongFalsely : Prop := samplingCombineRow.holds Try.pinned (OpenSpec.ofChange samplingCombineWrong)

/- THE SECOND FORM. 'bulk': how many values and letters a reading holds, each counted each time it is reached (what is shared counts as often as it is met; a slice's spare places count too). A statement '..UptoSaid' is the law's where the arguments, and the package variables that the reading takes, are together of bulk at most 1048576: NARROWER than '..Said'. Prove '..Said' where nothing that the law and all that it calls make is longer than what came in: it says more and counts as full. Else prove '..UptoSaid'. A law counts once. -/
mutual
def uptoBulk {H : Type} : DataW H → Nat
  | .lit (.string bytes) => bytes.length + 1
  | .lit _ => 1
  | .nil => 1
  | .ptr d => uptoBulk d + 1
  | .slice elems spare => uptoBulkAll elems + uptoBulkAll spare + 1
  | .agg parts => uptoBulkAll parts + 1
  | .iface _ d => uptoBulk d + 1
  | .map entries => uptoBulkEntries entries + 1
  | .held _ => 1
def uptoBulkAll {H : Type} : List (DataW H) → Nat
  | [] => 0
  | d :: r => uptoBulk d + uptoBulkAll r
def uptoBulkEntries {H : Type} : List (Lit × DataW H) → Nat
  | [] => 0
  | x :: r => uptoBulkEntry x + uptoBulkEntries r
def uptoBulkEntry {H : Type} : Lit × DataW H → Nat
  | (.string bytes, d) => bytes.length + uptoBulk d + 1
  | (_, d) => uptoBulk d + 1
 end
def uptoSmall : (H : Type) → List (DataW H) → Bool := fun _ ds => decide (uptoBulkAll ds ≤ 1048576)
def OpenSpec.upto (s : _root_.Go.ChangeSpec) : _root_.Go.OpenSpec := { _root_.Go.OpenSpec.ofChange s with cond := some uptoSmall }

/-- 'lookoutlaw56.SamplingHead', WHERE WHAT IT READS IS OF BULK AT MOST 1048576: true; the input reads as it did. -/
def samplingHeadUptoRow : OpenClaim := { program := "ytebiafgcnmnacaa", sum := "3460b842abdfb6fd57dc6ab2e17ee2036a43c4ca2de02bcfee499f2dc3f920a4", func := "lookout/lookoutlaw56.SamplingHead", spec := "samplingHead", inPlace := ["math/bits.Add64", "math/bits.Sub64"], unfollowed := true, recurses := true, named := ["math/bits.divideError", "math/bits.overflowError"], apart := false, narrowed := true }
def SamplingHeadUptoSaid : Prop := samplingHeadUptoRow.holds Try.pinned (OpenSpec.upto samplingHeadSpec)

/-- 'lookoutlaw56.SamplingParts', WHERE WHAT IT READS IS OF BULK AT MOST 1048576: true; the input reads as it did. -/
def samplingPartsUptoRow : OpenClaim := { program := "ytebiafgcnmnacaa", sum := "3460b842abdfb6fd57dc6ab2e17ee2036a43c4ca2de02bcfee499f2dc3f920a4", func := "lookout/lookoutlaw56.SamplingParts", spec := "samplingParts", inPlace := ["math/bits.Add64", "math/bits.Sub64"], unfollowed := true, recurses := true, named := ["math/bits.divideError", "math/bits.overflowError"], apart := false, narrowed := true }
def SamplingPartsUptoSaid : Prop := samplingPartsUptoRow.holds Try.pinned (OpenSpec.upto samplingPartsSpec)

/-- 'lookoutlaw56.SamplingPriority', WHERE WHAT IT READS IS OF BULK AT MOST 1048576: true; the input reads as it did. -/
def samplingPriorityUptoRow : OpenClaim := { program := "ytebiafgcnmnacaa", sum := "3460b842abdfb6fd57dc6ab2e17ee2036a43c4ca2de02bcfee499f2dc3f920a4", func := "lookout/lookoutlaw56.SamplingPriority", spec := "samplingPriority", inPlace := ["math/bits.Add64", "math/bits.Sub64"], unfollowed := true, recurses := true, named := ["math/bits.divideError", "math/bits.overflowError"], apart := false, narrowed := true }
def SamplingPriorityUptoSaid : Prop := samplingPriorityUptoRow.holds Try.pinned (OpenSpec.upto samplingPrioritySpec)

/-- 'lookoutlaw56.SamplingSums', WHERE WHAT IT READS IS OF BULK AT MOST 1048576: true; the input reads as it did. -/
def samplingSumsUptoRow : OpenClaim := { program := "ytebiafgcnmnacaa", sum := "3460b842abdfb6fd57dc6ab2e17ee2036a43c4ca2de02bcfee499f2dc3f920a4", func := "lookout/lookoutlaw56.SamplingSums", spec := "samplingSums", inPlace := ["math/bits.Add64", "math/bits.Sub64"], unfollowed := true, recurses := true, named := ["math/bits.divideError", "math/bits.overflowError"], apart := false, narrowed := true }
def SamplingSumsUptoSaid : Prop := samplingSumsUptoRow.holds Try.pinned (OpenSpec.upto samplingSumsSpec)

/-- 'lookoutlaw56.SamplingCombine', WHERE WHAT IT READS IS OF BULK AT MOST 1048576: true; the input reads as it did. -/
def samplingCombineUptoRow : OpenClaim := { program := "ytebiafgcnmnacaa", sum := "3460b842abdfb6fd57dc6ab2e17ee2036a43c4ca2de02bcfee499f2dc3f920a4", func := "lookout/lookoutlaw56.SamplingCombine", spec := "samplingCombine", inPlace := ["math/bits.Add64", "math/bits.Sub64"], unfollowed := true, recurses := true, named := ["math/bits.divideError", "math/bits.overflowError"], apart := false, narrowed := true }
def SamplingCombineUptoSaid : Prop := samplingCombineUptoRow.holds Try.pinned (OpenSpec.upto samplingCombineSpec)

end Rows
end Go.Proofs.Ytebiafgcnmnacaa
