/-
  NARROWER THAN 'FOR EVERY INPUT', by the rows' own cells (each row's printed sentence says how): LadderMerges: laid · LadderLowers: laid · LadderCosts: laid · LadderParts: laid · LadderRules: laid · LadderAdds: laid · LadderAsks: laid · CodeMerges: laid.
  DERIVED. THE GIVEN ROWS OF THIS SEAT. 8 by the template 'for every input the law returns true; each argument reads behind the call as it read before'; 0 by the template 'total and deterministic' (their statements: YtikjigkkhdkibaaGreatDoorTotals.lean).
  GIVEN WITH THE SEED: the statements are not yours to turn. If you find one false, say at which input.
  Laid BY PROGRAM, IN A SANDBOX (cutbox-rows.mjs): the forced cells as the released guide's own fill.sh prints them over the translation a9ffc332bd419bf2… (all of the seat's roots in one cut). By AI agents, Wed Nov 11 2026. No macro, syntax, notation, axiom, sorry.
-/
import Derived.Test.YtikjigkkhdkibaaGreatDoorChecked
import GoSem.Claim
import GoSem.ClaimJoined
import GoSem.ClaimMapViews
import Derived.JoinedTies
import Derived.KernelRfl
namespace Go.Proofs.YtikjigkkhdkibaaGreatDoor
/- THE CELL 'sum', in the pinned program and in every row, IS THE sha256 OF THE DUMP (.gsa) THAT YtikjigkkhdkibaaGreatDoorProg.lean LOADS. Nothing in Lean hashes anything: it is a label: what it is worth is what the hold of that sum in a sandbox is worth. -/
noncomputable def Tryz.pinned : Pinned := { name := "ytikjigkkhdkibaagreatdoor", sum := "a9ffc332bd419bf280d9f25489e74b9f9a7b66f932d097aafcffdc53f7422a10", checked := Tryz.checked }
namespace Rows
def none {H : Type} : Left H := { results := [], args := [] }

/- WHAT THE LISTED PACKAGE-LEVEL VARIABLES READ AS WHEN THE CALL BEGINS. Each datum BY PROGRAM (the guide's laid-datum.mjs) off the statement by which the dump's own 'gosem.cut.vars' lays the variable. In a bare row this is a premise. The card (YtikjigkkhdkibaaGreatDoorCards.lean) ties it to the program's text. -/
def laid_errors_errorType {H : Type} : DataW H := .iface "internal/reflectlite.rtype" (.agg [.ptr (.lit (.string [101, 114, 114, 111, 114]))])
def laid_aviary_field_errMore {H : Type} : DataW H := .iface "*errors.errorString" (.ptr (.agg [.lit (.string [109, 111, 114, 101])]))
def laid_aviary_field_errNone {H : Type} : DataW H := .iface "*errors.errorString" (.ptr (.agg [.lit (.string [110, 111, 32, 102, 105, 101, 108, 100])]))
def laid_aviary_code_errMore {H : Type} : DataW H := .iface "*errors.errorString" (.ptr (.agg [.lit (.string [109, 111, 114, 101])]))
def laid_aviary_code_errNone {H : Type} : DataW H := .iface "*errors.errorString" (.ptr (.agg [.lit (.string [110, 111, 32, 115, 107, 101, 116, 99, 104])]))

/-- 'aviarylaw10.LadderMerges': WHATEVER THE INPUT: true; the input reads as it did. -/
def ladderMergesSpec : ChangeSpec := { name := "ladderMerges", fn := fun _ => fun
  | [d1, d2, d3] => { results := [.lit (.bool true)], args := [d1, d2, d3] }
  | _ => none }
def ladderMergesRow : OpenClaim := { program := "ytikjigkkhdkibaagreatdoor", sum := "a9ffc332bd419bf280d9f25489e74b9f9a7b66f932d097aafcffdc53f7422a10", func := "aviary/aviarylaw10.LadderMerges", spec := "ladderMerges", inPlace := ["internal/reflectlite.ValueOf", "(internal/reflectlite.Value).Type", "(internal/reflectlite.Value).IsNil", "internal/reflectlite.TypeOf", "(internal/reflectlite.Value).Elem", "(internal/reflectlite.Value).Set"], unfollowed := true, recurses := true, named := ["errors.errorType"], apart := false, laid := [("errors.errorType", laid_errors_errorType)] }
def LadderMergesSaid : Prop := ladderMergesRow.holds Tryz.pinned (OpenSpec.ofChange ladderMergesSpec)

/-- ITS FALSE NEIGHBOUR: 'it returns false'. Refute it at one input. -/
def ladderMergesWrong : ChangeSpec := { name := "ladderMerges", fn := fun _ => fun
  | [d1, d2, d3] => { results := [.lit (.bool false)], args := [d1, d2, d3] }
  | _ => none }
def LadderMergesWrongFalsely : Prop := ladderMergesRow.holds Tryz.pinned (OpenSpec.ofChange ladderMergesWrong)

/-- 'aviarylaw10.LadderLowers': WHATEVER THE INPUT: true; the input reads as it did. -/
def ladderLowersSpec : ChangeSpec := { name := "ladderLowers", fn := fun _ => fun
  | [d1, d2, d3, d4] => { results := [.lit (.bool true)], args := [d1, d2, d3, d4] }
  | _ => none }
def ladderLowersRow : OpenClaim := { program := "ytikjigkkhdkibaagreatdoor", sum := "a9ffc332bd419bf280d9f25489e74b9f9a7b66f932d097aafcffdc53f7422a10", func := "aviary/aviarylaw10.LadderLowers", spec := "ladderLowers", inPlace := ["internal/reflectlite.ValueOf", "(internal/reflectlite.Value).Type", "(internal/reflectlite.Value).IsNil", "internal/reflectlite.TypeOf", "(internal/reflectlite.Value).Elem", "(internal/reflectlite.Value).Set"], unfollowed := true, recurses := true, named := ["errors.errorType"], apart := false, laid := [("errors.errorType", laid_errors_errorType)] }
def LadderLowersSaid : Prop := ladderLowersRow.holds Tryz.pinned (OpenSpec.ofChange ladderLowersSpec)

/-- ITS FALSE NEIGHBOUR: 'it returns false'. Refute it at one input. -/
def ladderLowersWrong : ChangeSpec := { name := "ladderLowers", fn := fun _ => fun
  | [d1, d2, d3, d4] => { results := [.lit (.bool false)], args := [d1, d2, d3, d4] }
  | _ => none }
def LadderLowersWrongFalsely : Prop := ladderLowersRow.holds Tryz.pinned (OpenSpec.ofChange ladderLowersWrong)

/-- 'aviarylaw10.LadderCosts': WHATEVER THE INPUT: true; the input reads as it did. -/
def ladderCostsSpec : ChangeSpec := { name := "ladderCosts", fn := fun _ => fun
  | [d1, d2, d3] => { results := [.lit (.bool true)], args := [d1, d2, d3] }
  | _ => none }
def ladderCostsRow : OpenClaim := { program := "ytikjigkkhdkibaagreatdoor", sum := "a9ffc332bd419bf280d9f25489e74b9f9a7b66f932d097aafcffdc53f7422a10", func := "aviary/aviarylaw10.LadderCosts", spec := "ladderCosts", inPlace := ["internal/reflectlite.ValueOf", "(internal/reflectlite.Value).Type", "(internal/reflectlite.Value).IsNil", "internal/reflectlite.TypeOf", "(internal/reflectlite.Value).Elem", "(internal/reflectlite.Value).Set"], unfollowed := true, recurses := true, named := ["errors.errorType"], apart := false, laid := [("errors.errorType", laid_errors_errorType)] }
def LadderCostsSaid : Prop := ladderCostsRow.holds Tryz.pinned (OpenSpec.ofChange ladderCostsSpec)

/-- ITS FALSE NEIGHBOUR: 'it returns false'. Refute it at one input. -/
def ladderCostsWrong : ChangeSpec := { name := "ladderCosts", fn := fun _ => fun
  | [d1, d2, d3] => { results := [.lit (.bool false)], args := [d1, d2, d3] }
  | _ => none }
def LadderCostsWrongFalsely : Prop := ladderCostsRow.holds Tryz.pinned (OpenSpec.ofChange ladderCostsWrong)

/-- 'aviarylaw10.LadderParts': WHATEVER THE INPUT: true; the input reads as it did. -/
def ladderPartsSpec : ChangeSpec := { name := "ladderParts", fn := fun _ => fun
  | [d1, d2, d3, d4, d5] => { results := [.lit (.bool true)], args := [d1, d2, d3, d4, d5] }
  | _ => none }
def ladderPartsRow : OpenClaim := { program := "ytikjigkkhdkibaagreatdoor", sum := "a9ffc332bd419bf280d9f25489e74b9f9a7b66f932d097aafcffdc53f7422a10", func := "aviary/aviarylaw10.LadderParts", spec := "ladderParts", inPlace := ["internal/reflectlite.ValueOf", "(internal/reflectlite.Value).Type", "(internal/reflectlite.Value).IsNil", "internal/reflectlite.TypeOf", "(internal/reflectlite.Value).Elem", "(internal/reflectlite.Value).Set"], unfollowed := true, recurses := true, named := ["errors.errorType"], apart := false, laid := [("errors.errorType", laid_errors_errorType)] }
def LadderPartsSaid : Prop := ladderPartsRow.holds Tryz.pinned (OpenSpec.ofChange ladderPartsSpec)

/-- ITS FALSE NEIGHBOUR: 'it returns false'. Refute it at one input. -/
def ladderPartsWrong : ChangeSpec := { name := "ladderParts", fn := fun _ => fun
  | [d1, d2, d3, d4, d5] => { results := [.lit (.bool false)], args := [d1, d2, d3, d4, d5] }
  | _ => none }
def LadderPartsWrongFalsely : Prop := ladderPartsRow.holds Tryz.pinned (OpenSpec.ofChange ladderPartsWrong)

/-- 'aviarylaw10.LadderRules': WHATEVER THE INPUT: true; the input reads as it did. -/
def ladderRulesSpec : ChangeSpec := { name := "ladderRules", fn := fun _ => fun
  | [d1, d2, d3, d4, d5] => { results := [.lit (.bool true)], args := [d1, d2, d3, d4, d5] }
  | _ => none }
def ladderRulesRow : OpenClaim := { program := "ytikjigkkhdkibaagreatdoor", sum := "a9ffc332bd419bf280d9f25489e74b9f9a7b66f932d097aafcffdc53f7422a10", func := "aviary/aviarylaw10.LadderRules", spec := "ladderRules", inPlace := ["internal/reflectlite.ValueOf", "(internal/reflectlite.Value).Type", "(internal/reflectlite.Value).IsNil", "internal/reflectlite.TypeOf", "(internal/reflectlite.Value).Elem", "(internal/reflectlite.Value).Set"], unfollowed := true, recurses := true, named := ["errors.errorType"], apart := false, laid := [("errors.errorType", laid_errors_errorType)] }
def LadderRulesSaid : Prop := ladderRulesRow.holds Tryz.pinned (OpenSpec.ofChange ladderRulesSpec)

/-- ITS FALSE NEIGHBOUR: 'it returns false'. Refute it at one input. -/
def ladderRulesWrong : ChangeSpec := { name := "ladderRules", fn := fun _ => fun
  | [d1, d2, d3, d4, d5] => { results := [.lit (.bool false)], args := [d1, d2, d3, d4, d5] }
  | _ => none }
def LadderRulesWrongFalsely : Prop := ladderRulesRow.holds Tryz.pinned (OpenSpec.ofChange ladderRulesWrong)

/-- 'aviarylaw10.LadderAdds': WHATEVER THE INPUT: true; the input reads as it did. -/
def ladderAddsSpec : ChangeSpec := { name := "ladderAdds", fn := fun _ => fun
  | [d1, d2, d3, d4] => { results := [.lit (.bool true)], args := [d1, d2, d3, d4] }
  | _ => none }
def ladderAddsRow : OpenClaim := { program := "ytikjigkkhdkibaagreatdoor", sum := "a9ffc332bd419bf280d9f25489e74b9f9a7b66f932d097aafcffdc53f7422a10", func := "aviary/aviarylaw10.LadderAdds", spec := "ladderAdds", inPlace := ["internal/reflectlite.ValueOf", "(internal/reflectlite.Value).Type", "(internal/reflectlite.Value).IsNil", "internal/reflectlite.TypeOf", "(internal/reflectlite.Value).Elem", "(internal/reflectlite.Value).Set"], unfollowed := true, recurses := true, named := ["errors.errorType"], apart := false, laid := [("errors.errorType", laid_errors_errorType)] }
def LadderAddsSaid : Prop := ladderAddsRow.holds Tryz.pinned (OpenSpec.ofChange ladderAddsSpec)

/-- ITS FALSE NEIGHBOUR: 'it returns false'. Refute it at one input. -/
def ladderAddsWrong : ChangeSpec := { name := "ladderAdds", fn := fun _ => fun
  | [d1, d2, d3, d4] => { results := [.lit (.bool false)], args := [d1, d2, d3, d4] }
  | _ => none }
def LadderAddsWrongFalsely : Prop := ladderAddsRow.holds Tryz.pinned (OpenSpec.ofChange ladderAddsWrong)

/-- 'aviarylaw10.LadderAsks': WHATEVER THE INPUT: true; the input reads as it did. -/
def ladderAsksSpec : ChangeSpec := { name := "ladderAsks", fn := fun _ => fun
  | [d1, d2, d3, d4] => { results := [.lit (.bool true)], args := [d1, d2, d3, d4] }
  | _ => none }
def ladderAsksRow : OpenClaim := { program := "ytikjigkkhdkibaagreatdoor", sum := "a9ffc332bd419bf280d9f25489e74b9f9a7b66f932d097aafcffdc53f7422a10", func := "aviary/aviarylaw10.LadderAsks", spec := "ladderAsks", inPlace := ["internal/reflectlite.ValueOf", "(internal/reflectlite.Value).Type", "(internal/reflectlite.Value).IsNil", "internal/reflectlite.TypeOf", "(internal/reflectlite.Value).Elem", "(internal/reflectlite.Value).Set"], unfollowed := true, recurses := true, named := ["errors.errorType"], apart := false, laid := [("errors.errorType", laid_errors_errorType)] }
def LadderAsksSaid : Prop := ladderAsksRow.holds Tryz.pinned (OpenSpec.ofChange ladderAsksSpec)

/-- ITS FALSE NEIGHBOUR: 'it returns false'. Refute it at one input. -/
def ladderAsksWrong : ChangeSpec := { name := "ladderAsks", fn := fun _ => fun
  | [d1, d2, d3, d4] => { results := [.lit (.bool false)], args := [d1, d2, d3, d4] }
  | _ => none }
def LadderAsksWrongFalsely : Prop := ladderAsksRow.holds Tryz.pinned (OpenSpec.ofChange ladderAsksWrong)

/-- 'aviarylaw11.CodeMerges': WHATEVER THE INPUT: true; the input reads as it did. -/
def codeMergesSpec : ChangeSpec := { name := "codeMerges", fn := fun _ => fun
  | [d1, d2] => { results := [.lit (.bool true)], args := [d1, d2] }
  | _ => none }
def codeMergesRow : OpenClaim := { program := "ytikjigkkhdkibaagreatdoor", sum := "a9ffc332bd419bf280d9f25489e74b9f9a7b66f932d097aafcffdc53f7422a10", func := "aviary/aviarylaw11.CodeMerges", spec := "codeMerges", inPlace := ["internal/abi.NoEscape", "internal/reflectlite.TypeOf", "internal/reflectlite.ValueOf", "(internal/reflectlite.Value).Type", "(internal/reflectlite.Value).IsNil", "(internal/reflectlite.Value).Elem", "(internal/reflectlite.Value).Set"], unfollowed := true, recurses := true, named := ["aviary/code.errNone", "aviary/code.errMore", "aviary/field.errNone", "aviary/field.errMore", "errors.errorType"], apart := false, laid := [("errors.errorType", laid_errors_errorType), ("aviary/field.errMore", laid_aviary_field_errMore), ("aviary/field.errNone", laid_aviary_field_errNone), ("aviary/code.errMore", laid_aviary_code_errMore), ("aviary/code.errNone", laid_aviary_code_errNone)] }
def CodeMergesSaid : Prop := codeMergesRow.holds Tryz.pinned (OpenSpec.ofChange codeMergesSpec)

/-- ITS FALSE NEIGHBOUR: 'it returns false'. Refute it at one input. -/
def codeMergesWrong : ChangeSpec := { name := "codeMerges", fn := fun _ => fun
  | [d1, d2] => { results := [.lit (.bool false)], args := [d1, d2] }
  | _ => none }
def CodeMergesWrongFalsely : Prop := codeMergesRow.holds Tryz.pinned (OpenSpec.ofChange codeMergesWrong)

/- THE SECOND FORM. 'bulk': how many values and letters a reading holds, each counted each time it is reached (what is shared counts as often as it is met; a slice's spare places count too). A statement '..UptoSaid' is the law's where the arguments, and the package variables that the reading takes, are together of bulk at most 1048576: NARROWER than '..Said'. Prove '..Said' where nothing that the law and all that it calls make is longer than what came in: it says more and counts as full. Else prove '..UptoSaid'. A law counts once. -/
mutual
def uptoBulk {H : Type} : DataW H → Nat
  | .lit (.string bytes) => bytes.length + 1
  | .lit _ => 1
  | .nil => 1
  | .ptr d => uptoBulk d + 1
  | .slice elems spare => uptoBulkAll elems + uptoBulkAll spare + 1
  | .agg parts => uptoBulkAll parts + 1
  | .iface _ d => uptoBulk d + 1
  | .map entries => uptoBulkEntries entries + 1
  | .held _ => 1
def uptoBulkAll {H : Type} : List (DataW H) → Nat
  | [] => 0
  | d :: r => uptoBulk d + uptoBulkAll r
def uptoBulkEntries {H : Type} : List (Lit × DataW H) → Nat
  | [] => 0
  | x :: r => uptoBulkEntry x + uptoBulkEntries r
def uptoBulkEntry {H : Type} : Lit × DataW H → Nat
  | (.string bytes, d) => bytes.length + uptoBulk d + 1
  | (_, d) => uptoBulk d + 1
 end
def uptoSmall : (H : Type) → List (DataW H) → Bool := fun _ ds => decide (uptoBulkAll ds ≤ 1048576)
def OpenSpec.upto (s : _root_.Go.ChangeSpec) : _root_.Go.OpenSpec := { _root_.Go.OpenSpec.ofChange s with cond := some uptoSmall }

/-- 'aviarylaw10.LadderMerges', WHERE WHAT IT READS IS OF BULK AT MOST 1048576: true; the input reads as it did. -/
def ladderMergesUptoRow : OpenClaim := { program := "ytikjigkkhdkibaagreatdoor", sum := "a9ffc332bd419bf280d9f25489e74b9f9a7b66f932d097aafcffdc53f7422a10", func := "aviary/aviarylaw10.LadderMerges", spec := "ladderMerges", inPlace := ["internal/reflectlite.ValueOf", "(internal/reflectlite.Value).Type", "(internal/reflectlite.Value).IsNil", "internal/reflectlite.TypeOf", "(internal/reflectlite.Value).Elem", "(internal/reflectlite.Value).Set"], unfollowed := true, recurses := true, named := ["errors.errorType"], apart := false, laid := [("errors.errorType", laid_errors_errorType)], narrowed := true }
def LadderMergesUptoSaid : Prop := ladderMergesUptoRow.holds Tryz.pinned (OpenSpec.upto ladderMergesSpec)

/-- 'aviarylaw10.LadderLowers', WHERE WHAT IT READS IS OF BULK AT MOST 1048576: true; the input reads as it did. -/
def ladderLowersUptoRow : OpenClaim := { program := "ytikjigkkhdkibaagreatdoor", sum := "a9ffc332bd419bf280d9f25489e74b9f9a7b66f932d097aafcffdc53f7422a10", func := "aviary/aviarylaw10.LadderLowers", spec := "ladderLowers", inPlace := ["internal/reflectlite.ValueOf", "(internal/reflectlite.Value).Type", "(internal/reflectlite.Value).IsNil", "internal/reflectlite.TypeOf", "(internal/reflectlite.Value).Elem", "(internal/reflectlite.Value).Set"], unfollowed := true, recurses := true, named := ["errors.errorType"], apart := false, laid := [("errors.errorType", laid_errors_errorType)], narrowed := true }
def LadderLowersUptoSaid : Prop := ladderLowersUptoRow.holds Tryz.pinned (OpenSpec.upto ladderLowersSpec)

/-- 'aviarylaw10.LadderCosts', WHERE WHAT IT READS IS OF BULK AT MOST 1048576: true; the input reads as it did. -/
def ladderCostsUptoRow : OpenClaim := { program := "ytikjigkkhdkibaagreatdoor", sum := "a9ffc332bd419bf280d9f25489e74b9f9a7b66f932d097aafcffdc53f7422a10", func := "aviary/aviarylaw10.LadderCosts", spec := "ladderCosts", inPlace := ["internal/reflectlite.ValueOf", "(internal/reflectlite.Value).Type", "(internal/reflectlite.Value).IsNil", "internal/reflectlite.TypeOf", "(internal/reflectlite.Value).Elem", "(internal/reflectlite.Value).Set"], unfollowed := true, recurses := true, named := ["errors.errorType"], apart := false, laid := [("errors.errorType", laid_errors_errorType)], narrowed := true }
def LadderCostsUptoSaid : Prop := ladderCostsUptoRow.holds Tryz.pinned (OpenSpec.upto ladderCostsSpec)

/-- 'aviarylaw10.LadderParts', WHERE WHAT IT READS IS OF BULK AT MOST 1048576: true; the input reads as it did. -/
def ladderPartsUptoRow : OpenClaim := { program := "ytikjigkkhdkibaagreatdoor", sum := "a9ffc332bd419bf280d9f25489e74b9f9a7b66f932d097aafcffdc53f7422a10", func := "aviary/aviarylaw10.LadderParts", spec := "ladderParts", inPlace := ["internal/reflectlite.ValueOf", "(internal/reflectlite.Value).Type", "(internal/reflectlite.Value).IsNil", "internal/reflectlite.TypeOf", "(internal/reflectlite.Value).Elem", "(internal/reflectlite.Value).Set"], unfollowed := true, recurses := true, named := ["errors.errorType"], apart := false, laid := [("errors.errorType", laid_errors_errorType)], narrowed := true }
def LadderPartsUptoSaid : Prop := ladderPartsUptoRow.holds Tryz.pinned (OpenSpec.upto ladderPartsSpec)

/-- 'aviarylaw10.LadderRules', WHERE WHAT IT READS IS OF BULK AT MOST 1048576: true; the input reads as it did. -/
def ladderRulesUptoRow : OpenClaim := { program := "ytikjigkkhdkibaagreatdoor", sum := "a9ffc332bd419bf280d9f25489e74b9f9a7b66f932d097aafcffdc53f7422a10", func := "aviary/aviarylaw10.LadderRules", spec := "ladderRules", inPlace := ["internal/reflectlite.ValueOf", "(internal/reflectlite.Value).Type", "(internal/reflectlite.Value).IsNil", "internal/reflectlite.TypeOf", "(internal/reflectlite.Value).Elem", "(internal/reflectlite.Value).Set"], unfollowed := true, recurses := true, named := ["errors.errorType"], apart := false, laid := [("errors.errorType", laid_errors_errorType)], narrowed := true }
def LadderRulesUptoSaid : Prop := ladderRulesUptoRow.holds Tryz.pinned (OpenSpec.upto ladderRulesSpec)

/-- 'aviarylaw10.LadderAdds', WHERE WHAT IT READS IS OF BULK AT MOST 1048576: true; the input reads as it did. -/
def ladderAddsUptoRow : OpenClaim := { program := "ytikjigkkhdkibaagreatdoor", sum := "a9ffc332bd419bf280d9f25489e74b9f9a7b66f932d097aafcffdc53f7422a10", func := "aviary/aviarylaw10.LadderAdds", spec := "ladderAdds", inPlace := ["internal/reflectlite.ValueOf", "(internal/reflectlite.Value).Type", "(internal/reflectlite.Value).IsNil", "internal/reflectlite.TypeOf", "(internal/reflectlite.Value).Elem", "(internal/reflectlite.Value).Set"], unfollowed := true, recurses := true, named := ["errors.errorType"], apart := false, laid := [("errors.errorType", laid_errors_errorType)], narrowed := true }
def LadderAddsUptoSaid : Prop := ladderAddsUptoRow.holds Tryz.pinned (OpenSpec.upto ladderAddsSpec)

/-- 'aviarylaw10.LadderAsks', WHERE WHAT IT READS IS OF BULK AT MOST 1048576: true; the input reads as it did. -/
def ladderAsksUptoRow : OpenClaim := { program := "ytikjigkkhdkibaagreatdoor", sum := "a9ffc332bd419bf280d9f25489e74b9f9a7b66f932d097aafcffdc53f7422a10", func := "aviary/aviarylaw10.LadderAsks", spec := "ladderAsks", inPlace := ["internal/reflectlite.ValueOf", "(internal/reflectlite.Value).Type", "(internal/reflectlite.Value).IsNil", "internal/reflectlite.TypeOf", "(internal/reflectlite.Value).Elem", "(internal/reflectlite.Value).Set"], unfollowed := true, recurses := true, named := ["errors.errorType"], apart := false, laid := [("errors.errorType", laid_errors_errorType)], narrowed := true }
def LadderAsksUptoSaid : Prop := ladderAsksUptoRow.holds Tryz.pinned (OpenSpec.upto ladderAsksSpec)

/-- 'aviarylaw11.CodeMerges', WHERE WHAT IT READS IS OF BULK AT MOST 1048576: true; the input reads as it did. -/
def codeMergesUptoRow : OpenClaim := { program := "ytikjigkkhdkibaagreatdoor", sum := "a9ffc332bd419bf280d9f25489e74b9f9a7b66f932d097aafcffdc53f7422a10", func := "aviary/aviarylaw11.CodeMerges", spec := "codeMerges", inPlace := ["internal/abi.NoEscape", "internal/reflectlite.TypeOf", "internal/reflectlite.ValueOf", "(internal/reflectlite.Value).Type", "(internal/reflectlite.Value).IsNil", "(internal/reflectlite.Value).Elem", "(internal/reflectlite.Value).Set"], unfollowed := true, recurses := true, named := ["aviary/code.errNone", "aviary/code.errMore", "aviary/field.errNone", "aviary/field.errMore", "errors.errorType"], apart := false, laid := [("errors.errorType", laid_errors_errorType), ("aviary/field.errMore", laid_aviary_field_errMore), ("aviary/field.errNone", laid_aviary_field_errNone), ("aviary/code.errMore", laid_aviary_code_errMore), ("aviary/code.errNone", laid_aviary_code_errNone)], narrowed := true }
def CodeMergesUptoSaid : Prop := codeMergesUptoRow.holds Tryz.pinned (OpenSpec.upto codeMergesSpec)

end Rows
end Go.Proofs.YtikjigkkhdkibaaGreatDoor
