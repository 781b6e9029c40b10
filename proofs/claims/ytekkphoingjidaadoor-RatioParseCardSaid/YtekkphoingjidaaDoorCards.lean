/-
  DERIVED. GIVEN WITH THE SEED: THE CARDS: each row of YtekkphoingjidaaDoorRows.lean that lists a variable, with what it lists TIED to the program's text (the seventh form; the later family's looks); each row that meets fmt, with fmt's text TOLD by the authors' own Lean function (tested against real Go, not proved from fmt's source: count such statements apart). THE CARD IS WHAT COUNTS. Prove the row's statement (the work); the ties are given (YtekkphoingjidaaDoorTie.lean); close each card by the builder's one call (the guide's Derived/Test/ToyasCard.lean, 'card_holds'). Laid BY PROGRAM, IN A SANDBOX (cutbox-door.mjs). By AI agents, Wed Nov 11 2026. No macro, syntax, notation, axiom, sorry.
-/
import Derived.Test.YtekkphoingjidaaDoorRows
import GoSem.ClaimSeven
namespace Go.Proofs.YtekkphoingjidaaDoor
namespace Rows

/-- THE TIED CARD OF 'lookoutlaw03.RatioMake'. -/
def ratioMakeCard : Claim7 := { stood := { row := ratioMakeRow, standIns := [], harness := (true, "1379b761534bc6fcd36d08c11d6da8ef3fefd5fae7e448a1bfb79f481a6f43dc"), looks := true }, kinds := [], alts := [], laidByText := true, laidKinds := [.data, .data, .data], laidTests := true, laidLooks := .later }
def RatioMakeCardSaid : Prop := Claim7.holds Tryd.pinned (.plain (OpenSpec.ofChange ratioMakeSpec)) ratioMakeCard

/-- THE TIED CARD OF 'lookoutlaw03.RatioReduced'. -/
def ratioReducedCard : Claim7 := { stood := { row := ratioReducedRow, standIns := [], harness := (true, "1379b761534bc6fcd36d08c11d6da8ef3fefd5fae7e448a1bfb79f481a6f43dc"), looks := true }, kinds := [], alts := [], laidByText := true, laidKinds := [.data, .data, .data], laidTests := true, laidLooks := .later }
def RatioReducedCardSaid : Prop := Claim7.holds Tryd.pinned (.plain (OpenSpec.ofChange ratioReducedSpec)) ratioReducedCard

/-- THE TIED CARD OF 'lookoutlaw03.RatioField'. -/
def ratioFieldCard : Claim7 := { stood := { row := ratioFieldRow, standIns := [], harness := (true, "1379b761534bc6fcd36d08c11d6da8ef3fefd5fae7e448a1bfb79f481a6f43dc"), looks := true }, kinds := [], alts := [], laidByText := true, laidKinds := [.data, .data, .data], laidTests := true, laidLooks := .later }
def RatioFieldCardSaid : Prop := Claim7.holds Tryd.pinned (.plain (OpenSpec.ofChange ratioFieldSpec)) ratioFieldCard

/-- THE TIED CARD OF 'lookoutlaw03.RatioOrder'. -/
def ratioOrderCard : Claim7 := { stood := { row := ratioOrderRow, standIns := [], harness := (true, "1379b761534bc6fcd36d08c11d6da8ef3fefd5fae7e448a1bfb79f481a6f43dc"), looks := true }, kinds := [], alts := [], laidByText := true, laidKinds := [.data, .data, .data], laidTests := true, laidLooks := .later }
def RatioOrderCardSaid : Prop := Claim7.holds Tryd.pinned (.plain (OpenSpec.ofChange ratioOrderSpec)) ratioOrderCard

/-- THE TIED CARD OF 'lookoutlaw03.RatioFloor'. -/
def ratioFloorCard : Claim7 := { stood := { row := ratioFloorRow, standIns := [], harness := (true, "1379b761534bc6fcd36d08c11d6da8ef3fefd5fae7e448a1bfb79f481a6f43dc"), looks := true }, kinds := [], alts := [], laidByText := true, laidKinds := [.data, .data, .data], laidTests := true, laidLooks := .later }
def RatioFloorCardSaid : Prop := Claim7.holds Tryd.pinned (.plain (OpenSpec.ofChange ratioFloorSpec)) ratioFloorCard

/-- THE TIED CARD OF 'lookoutlaw03.RatioArithmetic'. -/
def ratioArithmeticCard : Claim7 := { stood := { row := ratioArithmeticRow, standIns := [], harness := (true, "1379b761534bc6fcd36d08c11d6da8ef3fefd5fae7e448a1bfb79f481a6f43dc"), looks := true }, kinds := [], alts := [], laidByText := true, laidKinds := [.data, .data, .data], laidTests := true, laidLooks := .later }
def RatioArithmeticCardSaid : Prop := Claim7.holds Tryd.pinned (.plain (OpenSpec.ofChange ratioArithmeticSpec)) ratioArithmeticCard

/-- THE TIED CARD OF 'lookoutlaw03.RatioParse'. -/
def ratioParseCard : Claim7 := { stood := { row := ratioParseRow, standIns := [], harness := (true, "1379b761534bc6fcd36d08c11d6da8ef3fefd5fae7e448a1bfb79f481a6f43dc"), looks := true }, kinds := [], alts := [], laidByText := true, laidKinds := [.data, .data, .data, .sentinel, .sentinel], laidTests := true, laidLooks := .later }
def RatioParseCardSaid : Prop := Claim7.holds Tryd.pinned (.plain (OpenSpec.ofChange ratioParseSpec)) ratioParseCard

/-- THE TIED CARD OF 'lookoutlaw03.RatioText'. -/
def ratioTextCard : Claim7 := { stood := { row := ratioTextRow, standIns := [], harness := (true, "1379b761534bc6fcd36d08c11d6da8ef3fefd5fae7e448a1bfb79f481a6f43dc"), looks := true }, kinds := [], alts := [], laidByText := true, laidKinds := [.data, .data, .data, .sentinel, .sentinel], laidTests := true, laidLooks := .later }
def RatioTextCardSaid : Prop := Claim7.holds Tryd.pinned (.plain (OpenSpec.ofChange ratioTextSpec)) ratioTextCard

/-- THE SECOND FORM's CARD OF 'lookoutlaw03.RatioMake'. -/
def ratioMakeUptoCard : Claim7 := { stood := { row := ratioMakeUptoRow, standIns := [], harness := (true, "1379b761534bc6fcd36d08c11d6da8ef3fefd5fae7e448a1bfb79f481a6f43dc"), looks := true }, kinds := [], alts := [], laidByText := true, laidKinds := [.data, .data, .data], laidTests := true, laidLooks := .later }
def RatioMakeUptoCardSaid : Prop := Claim7.holds Tryd.pinned (.plain (OpenSpec.upto ratioMakeSpec)) ratioMakeUptoCard

/-- THE SECOND FORM's CARD OF 'lookoutlaw03.RatioReduced'. -/
def ratioReducedUptoCard : Claim7 := { stood := { row := ratioReducedUptoRow, standIns := [], harness := (true, "1379b761534bc6fcd36d08c11d6da8ef3fefd5fae7e448a1bfb79f481a6f43dc"), looks := true }, kinds := [], alts := [], laidByText := true, laidKinds := [.data, .data, .data], laidTests := true, laidLooks := .later }
def RatioReducedUptoCardSaid : Prop := Claim7.holds Tryd.pinned (.plain (OpenSpec.upto ratioReducedSpec)) ratioReducedUptoCard

/-- THE SECOND FORM's CARD OF 'lookoutlaw03.RatioField'. -/
def ratioFieldUptoCard : Claim7 := { stood := { row := ratioFieldUptoRow, standIns := [], harness := (true, "1379b761534bc6fcd36d08c11d6da8ef3fefd5fae7e448a1bfb79f481a6f43dc"), looks := true }, kinds := [], alts := [], laidByText := true, laidKinds := [.data, .data, .data], laidTests := true, laidLooks := .later }
def RatioFieldUptoCardSaid : Prop := Claim7.holds Tryd.pinned (.plain (OpenSpec.upto ratioFieldSpec)) ratioFieldUptoCard

/-- THE SECOND FORM's CARD OF 'lookoutlaw03.RatioOrder'. -/
def ratioOrderUptoCard : Claim7 := { stood := { row := ratioOrderUptoRow, standIns := [], harness := (true, "1379b761534bc6fcd36d08c11d6da8ef3fefd5fae7e448a1bfb79f481a6f43dc"), looks := true }, kinds := [], alts := [], laidByText := true, laidKinds := [.data, .data, .data], laidTests := true, laidLooks := .later }
def RatioOrderUptoCardSaid : Prop := Claim7.holds Tryd.pinned (.plain (OpenSpec.upto ratioOrderSpec)) ratioOrderUptoCard

/-- THE SECOND FORM's CARD OF 'lookoutlaw03.RatioFloor'. -/
def ratioFloorUptoCard : Claim7 := { stood := { row := ratioFloorUptoRow, standIns := [], harness := (true, "1379b761534bc6fcd36d08c11d6da8ef3fefd5fae7e448a1bfb79f481a6f43dc"), looks := true }, kinds := [], alts := [], laidByText := true, laidKinds := [.data, .data, .data], laidTests := true, laidLooks := .later }
def RatioFloorUptoCardSaid : Prop := Claim7.holds Tryd.pinned (.plain (OpenSpec.upto ratioFloorSpec)) ratioFloorUptoCard

/-- THE SECOND FORM's CARD OF 'lookoutlaw03.RatioArithmetic'. -/
def ratioArithmeticUptoCard : Claim7 := { stood := { row := ratioArithmeticUptoRow, standIns := [], harness := (true, "1379b761534bc6fcd36d08c11d6da8ef3fefd5fae7e448a1bfb79f481a6f43dc"), looks := true }, kinds := [], alts := [], laidByText := true, laidKinds := [.data, .data, .data], laidTests := true, laidLooks := .later }
def RatioArithmeticUptoCardSaid : Prop := Claim7.holds Tryd.pinned (.plain (OpenSpec.upto ratioArithmeticSpec)) ratioArithmeticUptoCard

/-- THE SECOND FORM's CARD OF 'lookoutlaw03.RatioParse'. -/
def ratioParseUptoCard : Claim7 := { stood := { row := ratioParseUptoRow, standIns := [], harness := (true, "1379b761534bc6fcd36d08c11d6da8ef3fefd5fae7e448a1bfb79f481a6f43dc"), looks := true }, kinds := [], alts := [], laidByText := true, laidKinds := [.data, .data, .data, .sentinel, .sentinel], laidTests := true, laidLooks := .later }
def RatioParseUptoCardSaid : Prop := Claim7.holds Tryd.pinned (.plain (OpenSpec.upto ratioParseSpec)) ratioParseUptoCard

/-- THE SECOND FORM's CARD OF 'lookoutlaw03.RatioText'. -/
def ratioTextUptoCard : Claim7 := { stood := { row := ratioTextUptoRow, standIns := [], harness := (true, "1379b761534bc6fcd36d08c11d6da8ef3fefd5fae7e448a1bfb79f481a6f43dc"), looks := true }, kinds := [], alts := [], laidByText := true, laidKinds := [.data, .data, .data, .sentinel, .sentinel], laidTests := true, laidLooks := .later }
def RatioTextUptoCardSaid : Prop := Claim7.holds Tryd.pinned (.plain (OpenSpec.upto ratioTextSpec)) ratioTextUptoCard
end Rows
end Go.Proofs.YtekkphoingjidaaDoor
