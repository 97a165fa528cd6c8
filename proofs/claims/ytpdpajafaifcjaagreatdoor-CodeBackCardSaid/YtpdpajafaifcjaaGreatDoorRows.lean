/-
  NARROWER THAN 'FOR EVERY INPUT', by the rows' own cells (each row's printed sentence says how): CodeBack: laid · CodeApart: laid · CodeSizes: laid.
  DERIVED. THE GIVEN ROWS OF THIS SEAT. 3 by the template 'for every input the law returns true; each argument reads behind the call as it read before'; 0 by the template 'total and deterministic' (their statements: YtpdpajafaifcjaaGreatDoorTotals.lean).
  GIVEN WITH THE SEED: the statements are not yours to turn. If you find one false, say at which input.
  Laid BY PROGRAM, IN A SANDBOX (cutbox-rows.mjs): the forced cells as the released guide's own fill.sh prints them over the translation d10e161e3a13bbfa… (all of the seat's roots in one cut). By AI agents, Wed Nov 11 2026. No macro, syntax, notation, axiom, sorry.
-/
import Derived.Test.YtpdpajafaifcjaaGreatDoorChecked
import GoSem.Claim
import GoSem.ClaimJoined
import GoSem.ClaimMapViews
import Derived.JoinedTies
import Derived.KernelRfl
namespace Go.Proofs.YtpdpajafaifcjaaGreatDoor
/- THE CELL 'sum', in the pinned program and in every row, IS THE sha256 OF THE DUMP (.gsa) THAT YtpdpajafaifcjaaGreatDoorProg.lean LOADS. Nothing in Lean hashes anything: it is a label: what it is worth is what the hold of that sum in a sandbox is worth. -/
noncomputable def Tryz.pinned : Pinned := { name := "ytpdpajafaifcjaagreatdoor", sum := "d10e161e3a13bbfacd3ee469edea620655c74e203960cc529f51289240d15624", checked := Tryz.checked }
namespace Rows
def none {H : Type} : Left H := { results := [], args := [] }

/- WHAT THE LISTED PACKAGE-LEVEL VARIABLES READ AS WHEN THE CALL BEGINS. Each datum BY PROGRAM (the guide's laid-datum.mjs) off the statement by which the dump's own 'gosem.cut.vars' lays the variable. In a bare row this is a premise. The card (YtpdpajafaifcjaaGreatDoorCards.lean) ties it to the program's text. -/
def laid_aviary_field_errMore {H : Type} : DataW H := .iface "*errors.errorString" (.ptr (.agg [.lit (.string [109, 111, 114, 101])]))
def laid_aviary_field_errNone {H : Type} : DataW H := .iface "*errors.errorString" (.ptr (.agg [.lit (.string [110, 111, 32, 102, 105, 101, 108, 100])]))
def laid_aviary_code_errMore {H : Type} : DataW H := .iface "*errors.errorString" (.ptr (.agg [.lit (.string [109, 111, 114, 101])]))
def laid_aviary_code_errNone {H : Type} : DataW H := .iface "*errors.errorString" (.ptr (.agg [.lit (.string [110, 111, 32, 115, 107, 101, 116, 99, 104])]))

/-- 'aviarylaw11.CodeBack': WHATEVER THE INPUT: true; the input reads as it did. -/
def codeBackSpec : ChangeSpec := { name := "codeBack", fn := fun _ => fun
  | [d1, d2] => { results := [.lit (.bool true)], args := [d1, d2] }
  | _ => none }
def codeBackRow : OpenClaim := { program := "ytpdpajafaifcjaagreatdoor", sum := "d10e161e3a13bbfacd3ee469edea620655c74e203960cc529f51289240d15624", func := "aviary/aviarylaw11.CodeBack", spec := "codeBack", inPlace := ["internal/abi.NoEscape", "internal/reflectlite.TypeOf"], unfollowed := true, recurses := true, named := ["aviary/code.errNone", "aviary/code.errMore", "aviary/field.errNone", "aviary/field.errMore"], apart := false, laid := [("aviary/field.errMore", laid_aviary_field_errMore), ("aviary/field.errNone", laid_aviary_field_errNone), ("aviary/code.errMore", laid_aviary_code_errMore), ("aviary/code.errNone", laid_aviary_code_errNone)] }
def CodeBackSaid : Prop := codeBackRow.holds Tryz.pinned (OpenSpec.ofChange codeBackSpec)

/-- ITS FALSE NEIGHBOUR: 'it returns false'. Refute it at one input. -/
def codeBackWrong : ChangeSpec := { name := "codeBack", fn := fun _ => fun
  | [d1, d2] => { results := [.lit (.bool false)], args := [d1, d2] }
  | _ => none }
def CodeBackWrongFalsely : Prop := codeBackRow.holds Tryz.pinned (OpenSpec.ofChange codeBackWrong)

/-- 'aviarylaw11.CodeApart': WHATEVER THE INPUT: true; the input reads as it did. -/
def codeApartSpec : ChangeSpec := { name := "codeApart", fn := fun _ => fun
  | [d1, d2] => { results := [.lit (.bool true)], args := [d1, d2] }
  | _ => none }
def codeApartRow : OpenClaim := { program := "ytpdpajafaifcjaagreatdoor", sum := "d10e161e3a13bbfacd3ee469edea620655c74e203960cc529f51289240d15624", func := "aviary/aviarylaw11.CodeApart", spec := "codeApart", inPlace := ["internal/abi.NoEscape", "internal/reflectlite.TypeOf"], unfollowed := true, recurses := true, named := ["aviary/code.errNone", "aviary/code.errMore", "aviary/field.errNone", "aviary/field.errMore"], apart := false, laid := [("aviary/field.errMore", laid_aviary_field_errMore), ("aviary/field.errNone", laid_aviary_field_errNone), ("aviary/code.errMore", laid_aviary_code_errMore), ("aviary/code.errNone", laid_aviary_code_errNone)] }
def CodeApartSaid : Prop := codeApartRow.holds Tryz.pinned (OpenSpec.ofChange codeApartSpec)

/-- ITS FALSE NEIGHBOUR: 'it returns false'. Refute it at one input. -/
def codeApartWrong : ChangeSpec := { name := "codeApart", fn := fun _ => fun
  | [d1, d2] => { results := [.lit (.bool false)], args := [d1, d2] }
  | _ => none }
def CodeApartWrongFalsely : Prop := codeApartRow.holds Tryz.pinned (OpenSpec.ofChange codeApartWrong)

/-- 'aviarylaw11.CodeSizes': WHATEVER THE INPUT: true; the input reads as it did. -/
def codeSizesSpec : ChangeSpec := { name := "codeSizes", fn := fun _ => fun
  | [d] => { results := [.lit (.bool true)], args := [d] }
  | _ => none }
def codeSizesRow : OpenClaim := { program := "ytpdpajafaifcjaagreatdoor", sum := "d10e161e3a13bbfacd3ee469edea620655c74e203960cc529f51289240d15624", func := "aviary/aviarylaw11.CodeSizes", spec := "codeSizes", inPlace := ["internal/abi.NoEscape", "internal/reflectlite.TypeOf"], unfollowed := true, recurses := true, named := ["aviary/code.errNone", "aviary/code.errMore", "aviary/field.errNone", "aviary/field.errMore"], apart := false, laid := [("aviary/field.errMore", laid_aviary_field_errMore), ("aviary/field.errNone", laid_aviary_field_errNone), ("aviary/code.errMore", laid_aviary_code_errMore), ("aviary/code.errNone", laid_aviary_code_errNone)] }
def CodeSizesSaid : Prop := codeSizesRow.holds Tryz.pinned (OpenSpec.ofChange codeSizesSpec)

/-- ITS FALSE NEIGHBOUR: 'it returns false'. Refute it at one input. -/
def codeSizesWrong : ChangeSpec := { name := "codeSizes", fn := fun _ => fun
  | [d] => { results := [.lit (.bool false)], args := [d] }
  | _ => none }
def CodeSizesWrongFalsely : Prop := codeSizesRow.holds Tryz.pinned (OpenSpec.ofChange codeSizesWrong)

/- THE SECOND FORM. 'bulk': how many values and letters a reading holds, each counted each time it is reached (what is shared counts as often as it is met; a slice's spare places count too). A statement '..UptoSaid' is the law's where the arguments, and the package variables that the reading takes, are together of bulk at most 1048576: NARROWER than '..Said'. Prove '..Said' where nothing that the law and all that it calls make is longer than what came in: it says more and counts as full. Else prove '..UptoSaid'. A law counts once. -/
mutual
def uptoBulk {H : Type} : DataW H → Nat
  | .lit (.string bytes) => bytes.length + 1
  | .lit _ => 1
  | .nil => 1
  | .ptr d => uptoBulk d + 1
  | .slice elems spare => uptoBulkAll elems + uptoBulkAll spare + 1
  | .agg parts => uptoBulkAll parts + 1
  | .iface _ d => uptoBulk d + 1
  | .map entries => uptoBulkEntries entries + 1
  | .held _ => 1
def uptoBulkAll {H : Type} : List (DataW H) → Nat
  | [] => 0
  | d :: r => uptoBulk d + uptoBulkAll r
def uptoBulkEntries {H : Type} : List (Lit × DataW H) → Nat
  | [] => 0
  | x :: r => uptoBulkEntry x + uptoBulkEntries r
def uptoBulkEntry {H : Type} : Lit × DataW H → Nat
  | (.string bytes, d) => bytes.length + uptoBulk d + 1
  | (_, d) => uptoBulk d + 1
 end
def uptoSmall : (H : Type) → List (DataW H) → Bool := fun _ ds => decide (uptoBulkAll ds ≤ 1048576)
def OpenSpec.upto (s : _root_.Go.ChangeSpec) : _root_.Go.OpenSpec := { _root_.Go.OpenSpec.ofChange s with cond := some uptoSmall }

/-- 'aviarylaw11.CodeBack', WHERE WHAT IT READS IS OF BULK AT MOST 1048576: true; the input reads as it did. -/
def codeBackUptoRow : OpenClaim := { program := "ytpdpajafaifcjaagreatdoor", sum := "d10e161e3a13bbfacd3ee469edea620655c74e203960cc529f51289240d15624", func := "aviary/aviarylaw11.CodeBack", spec := "codeBack", inPlace := ["internal/abi.NoEscape", "internal/reflectlite.TypeOf"], unfollowed := true, recurses := true, named := ["aviary/code.errNone", "aviary/code.errMore", "aviary/field.errNone", "aviary/field.errMore"], apart := false, laid := [("aviary/field.errMore", laid_aviary_field_errMore), ("aviary/field.errNone", laid_aviary_field_errNone), ("aviary/code.errMore", laid_aviary_code_errMore), ("aviary/code.errNone", laid_aviary_code_errNone)], narrowed := true }
def CodeBackUptoSaid : Prop := codeBackUptoRow.holds Tryz.pinned (OpenSpec.upto codeBackSpec)

/-- 'aviarylaw11.CodeApart', WHERE WHAT IT READS IS OF BULK AT MOST 1048576: true; the input reads as it did. -/
def codeApartUptoRow : OpenClaim := { program := "ytpdpajafaifcjaagreatdoor", sum := "d10e161e3a13bbfacd3ee469edea620655c74e203960cc529f51289240d15624", func := "aviary/aviarylaw11.CodeApart", spec := "codeApart", inPlace := ["internal/abi.NoEscape", "internal/reflectlite.TypeOf"], unfollowed := true, recurses := true, named := ["aviary/code.errNone", "aviary/code.errMore", "aviary/field.errNone", "aviary/field.errMore"], apart := false, laid := [("aviary/field.errMore", laid_aviary_field_errMore), ("aviary/field.errNone", laid_aviary_field_errNone), ("aviary/code.errMore", laid_aviary_code_errMore), ("aviary/code.errNone", laid_aviary_code_errNone)], narrowed := true }
def CodeApartUptoSaid : Prop := codeApartUptoRow.holds Tryz.pinned (OpenSpec.upto codeApartSpec)

/-- 'aviarylaw11.CodeSizes', WHERE WHAT IT READS IS OF BULK AT MOST 1048576: true; the input reads as it did. -/
def codeSizesUptoRow : OpenClaim := { program := "ytpdpajafaifcjaagreatdoor", sum := "d10e161e3a13bbfacd3ee469edea620655c74e203960cc529f51289240d15624", func := "aviary/aviarylaw11.CodeSizes", spec := "codeSizes", inPlace := ["internal/abi.NoEscape", "internal/reflectlite.TypeOf"], unfollowed := true, recurses := true, named := ["aviary/code.errNone", "aviary/code.errMore", "aviary/field.errNone", "aviary/field.errMore"], apart := false, laid := [("aviary/field.errMore", laid_aviary_field_errMore), ("aviary/field.errNone", laid_aviary_field_errNone), ("aviary/code.errMore", laid_aviary_code_errMore), ("aviary/code.errNone", laid_aviary_code_errNone)], narrowed := true }
def CodeSizesUptoSaid : Prop := codeSizesUptoRow.holds Tryz.pinned (OpenSpec.upto codeSizesSpec)

end Rows
end Go.Proofs.YtpdpajafaifcjaaGreatDoor
