/-
  DERIVED. GIVEN WITH THE SEED: THE CARDS: each row of YtpdpajafaifcjaaGreatDoorRows.lean that lists a variable, with what it lists TIED to the program's text (the seventh form; the later family's looks); each row that meets fmt, with fmt's text TOLD by the authors' own Lean function (tested against real Go, not proved from fmt's source: count such statements apart). THE CARD IS WHAT COUNTS. Prove the row's statement (the work); the ties are given (YtpdpajafaifcjaaGreatDoorTie.lean); close each card by the builder's one call (the guide's Derived/Test/ToyasCard.lean, 'card_holds'). Laid BY PROGRAM, IN A SANDBOX (cutbox-door.mjs). By AI agents, Wed Nov 11 2026. No macro, syntax, notation, axiom, sorry.
-/
import Derived.Test.YtpdpajafaifcjaaGreatDoorRows
import GoSem.ClaimSeven
namespace Go.Proofs.YtpdpajafaifcjaaGreatDoor
namespace Rows

/-- THE TIED CARD OF 'aviarylaw11.CodeBack'. -/
def codeBackCard : Claim7 := { stood := { row := codeBackRow, standIns := [], harness := (true, "72c5f92099248871d526c008d46978becbfdf622f05f0ba5f8ceb9ec19125f32"), looks := true }, kinds := [], alts := [], laidByText := true, laidKinds := [.sentinel, .sentinel, .sentinel, .sentinel], laidTests := true, laidLooks := .later }
def CodeBackCardSaid : Prop := Claim7.holds Tryz.pinned (.plain (OpenSpec.ofChange codeBackSpec)) codeBackCard

/-- THE TIED CARD OF 'aviarylaw11.CodeApart'. -/
def codeApartCard : Claim7 := { stood := { row := codeApartRow, standIns := [], harness := (true, "72c5f92099248871d526c008d46978becbfdf622f05f0ba5f8ceb9ec19125f32"), looks := true }, kinds := [], alts := [], laidByText := true, laidKinds := [.sentinel, .sentinel, .sentinel, .sentinel], laidTests := true, laidLooks := .later }
def CodeApartCardSaid : Prop := Claim7.holds Tryz.pinned (.plain (OpenSpec.ofChange codeApartSpec)) codeApartCard

/-- THE TIED CARD OF 'aviarylaw11.CodeSizes'. -/
def codeSizesCard : Claim7 := { stood := { row := codeSizesRow, standIns := [], harness := (true, "72c5f92099248871d526c008d46978becbfdf622f05f0ba5f8ceb9ec19125f32"), looks := true }, kinds := [], alts := [], laidByText := true, laidKinds := [.sentinel, .sentinel, .sentinel, .sentinel], laidTests := true, laidLooks := .later }
def CodeSizesCardSaid : Prop := Claim7.holds Tryz.pinned (.plain (OpenSpec.ofChange codeSizesSpec)) codeSizesCard

/-- THE SECOND FORM's CARD OF 'aviarylaw11.CodeBack'. -/
def codeBackUptoCard : Claim7 := { stood := { row := codeBackUptoRow, standIns := [], harness := (true, "72c5f92099248871d526c008d46978becbfdf622f05f0ba5f8ceb9ec19125f32"), looks := true }, kinds := [], alts := [], laidByText := true, laidKinds := [.sentinel, .sentinel, .sentinel, .sentinel], laidTests := true, laidLooks := .later }
def CodeBackUptoCardSaid : Prop := Claim7.holds Tryz.pinned (.plain (OpenSpec.upto codeBackSpec)) codeBackUptoCard

/-- THE SECOND FORM's CARD OF 'aviarylaw11.CodeApart'. -/
def codeApartUptoCard : Claim7 := { stood := { row := codeApartUptoRow, standIns := [], harness := (true, "72c5f92099248871d526c008d46978becbfdf622f05f0ba5f8ceb9ec19125f32"), looks := true }, kinds := [], alts := [], laidByText := true, laidKinds := [.sentinel, .sentinel, .sentinel, .sentinel], laidTests := true, laidLooks := .later }
def CodeApartUptoCardSaid : Prop := Claim7.holds Tryz.pinned (.plain (OpenSpec.upto codeApartSpec)) codeApartUptoCard

/-- THE SECOND FORM's CARD OF 'aviarylaw11.CodeSizes'. -/
def codeSizesUptoCard : Claim7 := { stood := { row := codeSizesUptoRow, standIns := [], harness := (true, "72c5f92099248871d526c008d46978becbfdf622f05f0ba5f8ceb9ec19125f32"), looks := true }, kinds := [], alts := [], laidByText := true, laidKinds := [.sentinel, .sentinel, .sentinel, .sentinel], laidTests := true, laidLooks := .later }
def CodeSizesUptoCardSaid : Prop := Claim7.holds Tryz.pinned (.plain (OpenSpec.upto codeSizesSpec)) codeSizesUptoCard
end Rows
end Go.Proofs.YtpdpajafaifcjaaGreatDoor
