/-
  DERIVED. GIVEN WITH THE SEED: THE CARDS: each row of YtikjigkkhdkibaaGreatDoorRows.lean that lists a variable, with what it lists TIED to the program's text (the seventh form; the later family's looks); each row that meets fmt, with fmt's text TOLD by the authors' own Lean function (tested against real Go, not proved from fmt's source: count such statements apart). THE CARD IS WHAT COUNTS. Prove the row's statement (the work); the ties are given (YtikjigkkhdkibaaGreatDoorTie.lean); close each card by the builder's one call (the guide's Derived/Test/ToyasCard.lean, 'card_holds'). Laid BY PROGRAM, IN A SANDBOX (cutbox-door.mjs). By AI agents, Wed Nov 11 2026. No macro, syntax, notation, axiom, sorry.
-/
import Derived.Test.YtikjigkkhdkibaaGreatDoorRows
import GoSem.ClaimSeven
namespace Go.Proofs.YtikjigkkhdkibaaGreatDoor
namespace Rows

/-- THE TIED CARD OF 'aviarylaw10.LadderMerges'. -/
def ladderMergesCard : Claim7 := { stood := { row := ladderMergesRow, standIns := [], harness := (true, "6376b105e2b68690215ecc2df72d7bd192a7d59d02b22c814246f9becf63a2f0"), looks := true }, kinds := [], alts := [], laidByText := true, laidKinds := [.handle], laidTests := true, laidLooks := .later }
def LadderMergesCardSaid : Prop := Claim7.holds Tryz.pinned (.plain (OpenSpec.ofChange ladderMergesSpec)) ladderMergesCard

/-- THE TIED CARD OF 'aviarylaw10.LadderLowers'. -/
def ladderLowersCard : Claim7 := { stood := { row := ladderLowersRow, standIns := [], harness := (true, "6376b105e2b68690215ecc2df72d7bd192a7d59d02b22c814246f9becf63a2f0"), looks := true }, kinds := [], alts := [], laidByText := true, laidKinds := [.handle], laidTests := true, laidLooks := .later }
def LadderLowersCardSaid : Prop := Claim7.holds Tryz.pinned (.plain (OpenSpec.ofChange ladderLowersSpec)) ladderLowersCard

/-- THE TIED CARD OF 'aviarylaw10.LadderCosts'. -/
def ladderCostsCard : Claim7 := { stood := { row := ladderCostsRow, standIns := [], harness := (true, "6376b105e2b68690215ecc2df72d7bd192a7d59d02b22c814246f9becf63a2f0"), looks := true }, kinds := [], alts := [], laidByText := true, laidKinds := [.handle], laidTests := true, laidLooks := .later }
def LadderCostsCardSaid : Prop := Claim7.holds Tryz.pinned (.plain (OpenSpec.ofChange ladderCostsSpec)) ladderCostsCard

/-- THE TIED CARD OF 'aviarylaw10.LadderParts'. -/
def ladderPartsCard : Claim7 := { stood := { row := ladderPartsRow, standIns := [], harness := (true, "6376b105e2b68690215ecc2df72d7bd192a7d59d02b22c814246f9becf63a2f0"), looks := true }, kinds := [], alts := [], laidByText := true, laidKinds := [.handle], laidTests := true, laidLooks := .later }
def LadderPartsCardSaid : Prop := Claim7.holds Tryz.pinned (.plain (OpenSpec.ofChange ladderPartsSpec)) ladderPartsCard

/-- THE TIED CARD OF 'aviarylaw10.LadderRules'. -/
def ladderRulesCard : Claim7 := { stood := { row := ladderRulesRow, standIns := [], harness := (true, "6376b105e2b68690215ecc2df72d7bd192a7d59d02b22c814246f9becf63a2f0"), looks := true }, kinds := [], alts := [], laidByText := true, laidKinds := [.handle], laidTests := true, laidLooks := .later }
def LadderRulesCardSaid : Prop := Claim7.holds Tryz.pinned (.plain (OpenSpec.ofChange ladderRulesSpec)) ladderRulesCard

/-- THE TIED CARD OF 'aviarylaw10.LadderAdds'. -/
def ladderAddsCard : Claim7 := { stood := { row := ladderAddsRow, standIns := [], harness := (true, "6376b105e2b68690215ecc2df72d7bd192a7d59d02b22c814246f9becf63a2f0"), looks := true }, kinds := [], alts := [], laidByText := true, laidKinds := [.handle], laidTests := true, laidLooks := .later }
def LadderAddsCardSaid : Prop := Claim7.holds Tryz.pinned (.plain (OpenSpec.ofChange ladderAddsSpec)) ladderAddsCard

/-- THE TIED CARD OF 'aviarylaw10.LadderAsks'. -/
def ladderAsksCard : Claim7 := { stood := { row := ladderAsksRow, standIns := [], harness := (true, "6376b105e2b68690215ecc2df72d7bd192a7d59d02b22c814246f9becf63a2f0"), looks := true }, kinds := [], alts := [], laidByText := true, laidKinds := [.handle], laidTests := true, laidLooks := .later }
def LadderAsksCardSaid : Prop := Claim7.holds Tryz.pinned (.plain (OpenSpec.ofChange ladderAsksSpec)) ladderAsksCard

/-- THE TIED CARD OF 'aviarylaw11.CodeMerges'. -/
def codeMergesCard : Claim7 := { stood := { row := codeMergesRow, standIns := [], harness := (true, "6376b105e2b68690215ecc2df72d7bd192a7d59d02b22c814246f9becf63a2f0"), looks := true }, kinds := [], alts := [], laidByText := true, laidKinds := [.handle, .sentinel, .sentinel, .sentinel, .sentinel], laidTests := true, laidLooks := .later }
def CodeMergesCardSaid : Prop := Claim7.holds Tryz.pinned (.plain (OpenSpec.ofChange codeMergesSpec)) codeMergesCard

/-- THE SECOND FORM's CARD OF 'aviarylaw10.LadderMerges'. -/
def ladderMergesUptoCard : Claim7 := { stood := { row := ladderMergesUptoRow, standIns := [], harness := (true, "6376b105e2b68690215ecc2df72d7bd192a7d59d02b22c814246f9becf63a2f0"), looks := true }, kinds := [], alts := [], laidByText := true, laidKinds := [.handle], laidTests := true, laidLooks := .later }
def LadderMergesUptoCardSaid : Prop := Claim7.holds Tryz.pinned (.plain (OpenSpec.upto ladderMergesSpec)) ladderMergesUptoCard

/-- THE SECOND FORM's CARD OF 'aviarylaw10.LadderLowers'. -/
def ladderLowersUptoCard : Claim7 := { stood := { row := ladderLowersUptoRow, standIns := [], harness := (true, "6376b105e2b68690215ecc2df72d7bd192a7d59d02b22c814246f9becf63a2f0"), looks := true }, kinds := [], alts := [], laidByText := true, laidKinds := [.handle], laidTests := true, laidLooks := .later }
def LadderLowersUptoCardSaid : Prop := Claim7.holds Tryz.pinned (.plain (OpenSpec.upto ladderLowersSpec)) ladderLowersUptoCard

/-- THE SECOND FORM's CARD OF 'aviarylaw10.LadderCosts'. -/
def ladderCostsUptoCard : Claim7 := { stood := { row := ladderCostsUptoRow, standIns := [], harness := (true, "6376b105e2b68690215ecc2df72d7bd192a7d59d02b22c814246f9becf63a2f0"), looks := true }, kinds := [], alts := [], laidByText := true, laidKinds := [.handle], laidTests := true, laidLooks := .later }
def LadderCostsUptoCardSaid : Prop := Claim7.holds Tryz.pinned (.plain (OpenSpec.upto ladderCostsSpec)) ladderCostsUptoCard

/-- THE SECOND FORM's CARD OF 'aviarylaw10.LadderParts'. -/
def ladderPartsUptoCard : Claim7 := { stood := { row := ladderPartsUptoRow, standIns := [], harness := (true, "6376b105e2b68690215ecc2df72d7bd192a7d59d02b22c814246f9becf63a2f0"), looks := true }, kinds := [], alts := [], laidByText := true, laidKinds := [.handle], laidTests := true, laidLooks := .later }
def LadderPartsUptoCardSaid : Prop := Claim7.holds Tryz.pinned (.plain (OpenSpec.upto ladderPartsSpec)) ladderPartsUptoCard

/-- THE SECOND FORM's CARD OF 'aviarylaw10.LadderRules'. -/
def ladderRulesUptoCard : Claim7 := { stood := { row := ladderRulesUptoRow, standIns := [], harness := (true, "6376b105e2b68690215ecc2df72d7bd192a7d59d02b22c814246f9becf63a2f0"), looks := true }, kinds := [], alts := [], laidByText := true, laidKinds := [.handle], laidTests := true, laidLooks := .later }
def LadderRulesUptoCardSaid : Prop := Claim7.holds Tryz.pinned (.plain (OpenSpec.upto ladderRulesSpec)) ladderRulesUptoCard

/-- THE SECOND FORM's CARD OF 'aviarylaw10.LadderAdds'. -/
def ladderAddsUptoCard : Claim7 := { stood := { row := ladderAddsUptoRow, standIns := [], harness := (true, "6376b105e2b68690215ecc2df72d7bd192a7d59d02b22c814246f9becf63a2f0"), looks := true }, kinds := [], alts := [], laidByText := true, laidKinds := [.handle], laidTests := true, laidLooks := .later }
def LadderAddsUptoCardSaid : Prop := Claim7.holds Tryz.pinned (.plain (OpenSpec.upto ladderAddsSpec)) ladderAddsUptoCard

/-- THE SECOND FORM's CARD OF 'aviarylaw10.LadderAsks'. -/
def ladderAsksUptoCard : Claim7 := { stood := { row := ladderAsksUptoRow, standIns := [], harness := (true, "6376b105e2b68690215ecc2df72d7bd192a7d59d02b22c814246f9becf63a2f0"), looks := true }, kinds := [], alts := [], laidByText := true, laidKinds := [.handle], laidTests := true, laidLooks := .later }
def LadderAsksUptoCardSaid : Prop := Claim7.holds Tryz.pinned (.plain (OpenSpec.upto ladderAsksSpec)) ladderAsksUptoCard

/-- THE SECOND FORM's CARD OF 'aviarylaw11.CodeMerges'. -/
def codeMergesUptoCard : Claim7 := { stood := { row := codeMergesUptoRow, standIns := [], harness := (true, "6376b105e2b68690215ecc2df72d7bd192a7d59d02b22c814246f9becf63a2f0"), looks := true }, kinds := [], alts := [], laidByText := true, laidKinds := [.handle, .sentinel, .sentinel, .sentinel, .sentinel], laidTests := true, laidLooks := .later }
def CodeMergesUptoCardSaid : Prop := Claim7.holds Tryz.pinned (.plain (OpenSpec.upto codeMergesSpec)) codeMergesUptoCard
end Rows
end Go.Proofs.YtikjigkkhdkibaaGreatDoor
