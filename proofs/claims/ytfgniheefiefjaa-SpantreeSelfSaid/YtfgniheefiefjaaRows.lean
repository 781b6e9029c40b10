/-
  No cell of these rows narrows 'for every input' (looked for: loops, veiled, ifaces, maps, wideKeys, modest, calm, conditions, laid).
  DERIVED. THE GIVEN ROWS OF THIS SEAT. 7 by the template 'for every input the law returns true; each argument reads behind the call as it read before'; 0 by the template 'total and deterministic' (their statements: YtfgniheefiefjaaTotals.lean).
  GIVEN WITH THE SEED: the statements are not yours to turn. If you find one false, say at which input.
  Laid BY PROGRAM, IN A SANDBOX (cutbox-rows.mjs): the forced cells as the released guide's own fill.sh prints them over the translation ec35317b4c1558d2… (all of the seat's roots in one cut). By AI agents, Wed Nov 11 2026. No macro, syntax, notation, axiom, sorry.
-/
import Derived.Test.YtfgniheefiefjaaChecked
import GoSem.Claim
import GoSem.ClaimJoined
import GoSem.ClaimMapViews
import Derived.JoinedTies
import Derived.KernelRfl
namespace Go.Proofs.Ytfgniheefiefjaa
/- THE CELL 'sum', in the pinned program and in every row, IS THE sha256 OF THE DUMP (.gsa) THAT YtfgniheefiefjaaProg.lean LOADS. Nothing in Lean hashes anything: it is a label: what it is worth is what the hold of that sum in a sandbox is worth. -/
noncomputable def Try.pinned : Pinned := { name := "ytfgniheefiefjaa", sum := "ec35317b4c1558d287f87defdf521fc6b894ff554bdb25d58a83bd956afff456", checked := Try.checked }
namespace Rows
def none {H : Type} : Left H := { results := [], args := [] }

/-- 'lookoutlaw13.SpantreeCheck': WHATEVER THE INPUT: true; the input reads as it did. -/
def spantreeCheckSpec : ChangeSpec := { name := "spantreeCheck", fn := fun _ => fun
  | [d1, d2] => { results := [.lit (.bool true)], args := [d1, d2] }
  | _ => none }
def spantreeCheckRow : OpenClaim := { program := "ytfgniheefiefjaa", sum := "ec35317b4c1558d287f87defdf521fc6b894ff554bdb25d58a83bd956afff456", func := "lookout/lookoutlaw13.SpantreeCheck", spec := "spantreeCheck", unfollowed := true, recurses := true, apart := false }
def SpantreeCheckSaid : Prop := spantreeCheckRow.holds Try.pinned (OpenSpec.ofChange spantreeCheckSpec)

/-- ITS FALSE NEIGHBOUR: 'it returns false'. Refute it at one input. -/
def spantreeCheckWrong : ChangeSpec := { name := "spantreeCheck", fn := fun _ => fun
  | [d1, d2] => { results := [.lit (.bool false)], args := [d1, d2] }
  | _ => none }
def SpantreeCheckWrongFalsely : Prop := spantreeCheckRow.holds Try.pinned (OpenSpec.ofChange spantreeCheckWrong)

/-- 'lookoutlaw13.SpantreeCritical': WHATEVER THE INPUT: true; the input reads as it did. -/
def spantreeCriticalSpec : ChangeSpec := { name := "spantreeCritical", fn := fun _ => fun
  | [d] => { results := [.lit (.bool true)], args := [d] }
  | _ => none }
def spantreeCriticalRow : OpenClaim := { program := "ytfgniheefiefjaa", sum := "ec35317b4c1558d287f87defdf521fc6b894ff554bdb25d58a83bd956afff456", func := "lookout/lookoutlaw13.SpantreeCritical", spec := "spantreeCritical", unfollowed := true, recurses := true, apart := false }
def SpantreeCriticalSaid : Prop := spantreeCriticalRow.holds Try.pinned (OpenSpec.ofChange spantreeCriticalSpec)

/-- ITS FALSE NEIGHBOUR: 'it returns false'. Refute it at one input. -/
def spantreeCriticalWrong : ChangeSpec := { name := "spantreeCritical", fn := fun _ => fun
  | [d] => { results := [.lit (.bool false)], args := [d] }
  | _ => none }
def SpantreeCriticalWrongFalsely : Prop := spantreeCriticalRow.holds Try.pinned (OpenSpec.ofChange spantreeCriticalWrong)

/-- 'lookoutlaw13.SpantreeParents': WHATEVER THE INPUT: true; the input reads as it did. -/
def spantreeParentsSpec : ChangeSpec := { name := "spantreeParents", fn := fun _ => fun
  | [d] => { results := [.lit (.bool true)], args := [d] }
  | _ => none }
def spantreeParentsRow : OpenClaim := { program := "ytfgniheefiefjaa", sum := "ec35317b4c1558d287f87defdf521fc6b894ff554bdb25d58a83bd956afff456", func := "lookout/lookoutlaw13.SpantreeParents", spec := "spantreeParents", unfollowed := true, recurses := true, apart := false }
def SpantreeParentsSaid : Prop := spantreeParentsRow.holds Try.pinned (OpenSpec.ofChange spantreeParentsSpec)

/-- ITS FALSE NEIGHBOUR: 'it returns false'. Refute it at one input. -/
def spantreeParentsWrong : ChangeSpec := { name := "spantreeParents", fn := fun _ => fun
  | [d] => { results := [.lit (.bool false)], args := [d] }
  | _ => none }
def SpantreeParentsWrongFalsely : Prop := spantreeParentsRow.holds Try.pinned (OpenSpec.ofChange spantreeParentsWrong)

/-- 'lookoutlaw13.SpantreeSelf': WHATEVER THE INPUT: true; the input reads as it did. -/
def spantreeSelfSpec : ChangeSpec := { name := "spantreeSelf", fn := fun _ => fun
  | [d] => { results := [.lit (.bool true)], args := [d] }
  | _ => none }
def spantreeSelfRow : OpenClaim := { program := "ytfgniheefiefjaa", sum := "ec35317b4c1558d287f87defdf521fc6b894ff554bdb25d58a83bd956afff456", func := "lookout/lookoutlaw13.SpantreeSelf", spec := "spantreeSelf", unfollowed := true, recurses := true, apart := false }
def SpantreeSelfSaid : Prop := spantreeSelfRow.holds Try.pinned (OpenSpec.ofChange spantreeSelfSpec)

/-- ITS FALSE NEIGHBOUR: 'it returns false'. Refute it at one input. -/
def spantreeSelfWrong : ChangeSpec := { name := "spantreeSelf", fn := fun _ => fun
  | [d] => { results := [.lit (.bool false)], args := [d] }
  | _ => none }
def SpantreeSelfWrongFalsely : Prop := spantreeSelfRow.holds Try.pinned (OpenSpec.ofChange spantreeSelfWrong)

/-- 'lookoutlaw13.SpantreeOnce': WHATEVER THE INPUT: true; the input reads as it did. -/
def spantreeOnceSpec : ChangeSpec := { name := "spantreeOnce", fn := fun _ => fun
  | [d] => { results := [.lit (.bool true)], args := [d] }
  | _ => none }
def spantreeOnceRow : OpenClaim := { program := "ytfgniheefiefjaa", sum := "ec35317b4c1558d287f87defdf521fc6b894ff554bdb25d58a83bd956afff456", func := "lookout/lookoutlaw13.SpantreeOnce", spec := "spantreeOnce", unfollowed := true, recurses := true, apart := false }
def SpantreeOnceSaid : Prop := spantreeOnceRow.holds Try.pinned (OpenSpec.ofChange spantreeOnceSpec)

/-- ITS FALSE NEIGHBOUR: 'it returns false'. Refute it at one input. -/
def spantreeOnceWrong : ChangeSpec := { name := "spantreeOnce", fn := fun _ => fun
  | [d] => { results := [.lit (.bool false)], args := [d] }
  | _ => none }
def SpantreeOnceWrongFalsely : Prop := spantreeOnceRow.holds Try.pinned (OpenSpec.ofChange spantreeOnceWrong)

/-- 'lookoutlaw13.SpantreeGroup': WHATEVER THE INPUT: true; the input reads as it did. -/
def spantreeGroupSpec : ChangeSpec := { name := "spantreeGroup", fn := fun _ => fun
  | [d] => { results := [.lit (.bool true)], args := [d] }
  | _ => none }
def spantreeGroupRow : OpenClaim := { program := "ytfgniheefiefjaa", sum := "ec35317b4c1558d287f87defdf521fc6b894ff554bdb25d58a83bd956afff456", func := "lookout/lookoutlaw13.SpantreeGroup", spec := "spantreeGroup", unfollowed := true, recurses := true, apart := false }
def SpantreeGroupSaid : Prop := spantreeGroupRow.holds Try.pinned (OpenSpec.ofChange spantreeGroupSpec)

/-- ITS FALSE NEIGHBOUR: 'it returns false'. Refute it at one input. -/
def spantreeGroupWrong : ChangeSpec := { name := "spantreeGroup", fn := fun _ => fun
  | [d] => { results := [.lit (.bool false)], args := [d] }
  | _ => none }
def SpantreeGroupWrongFalsely : Prop := spantreeGroupRow.holds Try.pinned (OpenSpec.ofChange spantreeGroupWrong)

/-- 'lookoutlaw13.SpantreeArrival': WHATEVER THE INPUT: true; the input reads as it did. -/
def spantreeArrivalSpec : ChangeSpec := { name := "spantreeArrival", fn := fun _ => fun
  | [d1, d2] => { results := [.lit (.bool true)], args := [d1, d2] }
  | _ => none }
def spantreeArrivalRow : OpenClaim := { program := "ytfgniheefiefjaa", sum := "ec35317b4c1558d287f87defdf521fc6b894ff554bdb25d58a83bd956afff456", func := "lookout/lookoutlaw13.SpantreeArrival", spec := "spantreeArrival", unfollowed := true, recurses := true, apart := false }
def SpantreeArrivalSaid : Prop := spantreeArrivalRow.holds Try.pinned (OpenSpec.ofChange spantreeArrivalSpec)

/-- ITS FALSE NEIGHBOUR: 'it returns false'. Refute it at one input. -/
def spantreeArrivalWrong : ChangeSpec := { name := "spantreeArrival", fn := fun _ => fun
  | [d1, d2] => { results := [.lit (.bool false)], args := [d1, d2] }
  | _ => none }
def SpantreeArrivalWrongFalsely : Prop := spantreeArrivalRow.holds Try.pinned (OpenSpec.ofChange spantreeArrivalWrong)

/- THE SECOND FORM. 'bulk': how many values and letters a reading holds, each counted each time it is reached (what is shared counts as often as it is met; a slice's spare places count too). A statement '..UptoSaid' is the law's where the arguments, and the package variables that the reading takes, are together of bulk at most 1048576: NARROWER than '..Said'. Prove '..Said' where nothing that the law and all that it calls make is longer than what came in: it says more and counts as full. Else prove '..UptoSaid'. A law counts once. -/
mutual
def uptoBulk {H : Type} : DataW H → Nat
  | .lit (.string bytes) => bytes.length + 1
  | .lit _ => 1
  | .nil => 1
  | .ptr d => uptoBulk d + 1
  | .slice elems spare => uptoBulkAll elems + uptoBulkAll spare + 1
  | .agg parts => uptoBulkAll parts + 1
  | .iface _ d => uptoBulk d + 1
  | .map entries => uptoBulkEntries entries + 1
  | .held _ => 1
def uptoBulkAll {H : Type} : List (DataW H) → Nat
  | [] => 0
  | d :: r => uptoBulk d + uptoBulkAll r
def uptoBulkEntries {H : Type} : List (Lit × DataW H) → Nat
  | [] => 0
  | x :: r => uptoBulkEntry x + uptoBulkEntries r
def uptoBulkEntry {H : Type} : Lit × DataW H → Nat
  | (.string bytes, d) => bytes.length + uptoBulk d + 1
  | (_, d) => uptoBulk d + 1
 end
def uptoSmall : (H : Type) → List (DataW H) → Bool := fun _ ds => decide (uptoBulkAll ds ≤ 1048576)
def OpenSpec.upto (s : _root_.Go.ChangeSpec) : _root_.Go.OpenSpec := { _root_.Go.OpenSpec.ofChange s with cond := some uptoSmall }

/-- 'lookoutlaw13.SpantreeCheck', WHERE WHAT IT READS IS OF BULK AT MOST 1048576: true; the input reads as it did. -/
def spantreeCheckUptoRow : OpenClaim := { program := "ytfgniheefiefjaa", sum := "ec35317b4c1558d287f87defdf521fc6b894ff554bdb25d58a83bd956afff456", func := "lookout/lookoutlaw13.SpantreeCheck", spec := "spantreeCheck", unfollowed := true, recurses := true, apart := false, narrowed := true }
def SpantreeCheckUptoSaid : Prop := spantreeCheckUptoRow.holds Try.pinned (OpenSpec.upto spantreeCheckSpec)

/-- 'lookoutlaw13.SpantreeCritical', WHERE WHAT IT READS IS OF BULK AT MOST 1048576: true; the input reads as it did. -/
def spantreeCriticalUptoRow : OpenClaim := { program := "ytfgniheefiefjaa", sum := "ec35317b4c1558d287f87defdf521fc6b894ff554bdb25d58a83bd956afff456", func := "lookout/lookoutlaw13.SpantreeCritical", spec := "spantreeCritical", unfollowed := true, recurses := true, apart := false, narrowed := true }
def SpantreeCriticalUptoSaid : Prop := spantreeCriticalUptoRow.holds Try.pinned (OpenSpec.upto spantreeCriticalSpec)

/-- 'lookoutlaw13.SpantreeParents', WHERE WHAT IT READS IS OF BULK AT MOST 1048576: true; the input reads as it did. -/
def spantreeParentsUptoRow : OpenClaim := { program := "ytfgniheefiefjaa", sum := "ec35317b4c1558d287f87defdf521fc6b894ff554bdb25d58a83bd956afff456", func := "lookout/lookoutlaw13.SpantreeParents", spec := "spantreeParents", unfollowed := true, recurses := true, apart := false, narrowed := true }
def SpantreeParentsUptoSaid : Prop := spantreeParentsUptoRow.holds Try.pinned (OpenSpec.upto spantreeParentsSpec)

/-- 'lookoutlaw13.SpantreeSelf', WHERE WHAT IT READS IS OF BULK AT MOST 1048576: true; the input reads as it did. -/
def spantreeSelfUptoRow : OpenClaim := { program := "ytfgniheefiefjaa", sum := "ec35317b4c1558d287f87defdf521fc6b894ff554bdb25d58a83bd956afff456", func := "lookout/lookoutlaw13.SpantreeSelf", spec := "spantreeSelf", unfollowed := true, recurses := true, apart := false, narrowed := true }
def SpantreeSelfUptoSaid : Prop := spantreeSelfUptoRow.holds Try.pinned (OpenSpec.upto spantreeSelfSpec)

/-- 'lookoutlaw13.SpantreeOnce', WHERE WHAT IT READS IS OF BULK AT MOST 1048576: true; the input reads as it did. -/
def spantreeOnceUptoRow : OpenClaim := { program := "ytfgniheefiefjaa", sum := "ec35317b4c1558d287f87defdf521fc6b894ff554bdb25d58a83bd956afff456", func := "lookout/lookoutlaw13.SpantreeOnce", spec := "spantreeOnce", unfollowed := true, recurses := true, apart := false, narrowed := true }
def SpantreeOnceUptoSaid : Prop := spantreeOnceUptoRow.holds Try.pinned (OpenSpec.upto spantreeOnceSpec)

/-- 'lookoutlaw13.SpantreeGroup', WHERE WHAT IT READS IS OF BULK AT MOST 1048576: true; the input reads as it did. -/
def spantreeGroupUptoRow : OpenClaim := { program := "ytfgniheefiefjaa", sum := "ec35317b4c1558d287f87defdf521fc6b894ff554bdb25d58a83bd956afff456", func := "lookout/lookoutlaw13.SpantreeGroup", spec := "spantreeGroup", unfollowed := true, recurses := true, apart := false, narrowed := true }
def SpantreeGroupUptoSaid : Prop := spantreeGroupUptoRow.holds Try.pinned (OpenSpec.upto spantreeGroupSpec)

/-- 'lookoutlaw13.SpantreeArrival', WHERE WHAT IT READS IS OF BULK AT MOST 1048576: true; the input reads as it did. -/
def spantreeArrivalUptoRow : OpenClaim := { program := "ytfgniheefiefjaa", sum := "ec35317b4c1558d287f87defdf521fc6b894ff554bdb25d58a83bd956afff456", func := "lookout/lookoutlaw13.SpantreeArrival", spec := "spantreeArrival", unfollowed := true, recurses := true, apart := false, narrowed := true }
def SpantreeArrivalUptoSaid : Prop := spantreeArrivalUptoRow.holds Try.pinned (OpenSpec.upto spantreeArrivalSpec)

end Rows
end Go.Proofs.Ytfgniheefiefjaa
