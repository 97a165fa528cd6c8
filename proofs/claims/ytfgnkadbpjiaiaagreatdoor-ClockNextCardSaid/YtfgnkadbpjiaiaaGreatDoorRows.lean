/-
  NARROWER THAN 'FOR EVERY INPUT', by the rows' own cells (each row's printed sentence says how): ClockLater: laid · ClockTouches: laid · ClockOnce: laid · ClockParts: laid · ClockNext: laid · ClockTells: laid.
  DERIVED. THE GIVEN ROWS OF THIS SEAT. 6 by the template 'for every input the law returns true; each argument reads behind the call as it read before'; 0 by the template 'total and deterministic' (their statements: YtfgnkadbpjiaiaaGreatDoorTotals.lean).
  GIVEN WITH THE SEED: the statements are not yours to turn. If you find one false, say at which input.
  Laid BY PROGRAM, IN A SANDBOX (cutbox-rows.mjs): the forced cells as the released guide's own fill.sh prints them over the translation 1aa47058aeb3d4f4… (all of the seat's roots in one cut). By AI agents, Wed Nov 11 2026. No macro, syntax, notation, axiom, sorry.
-/
import Derived.Test.YtfgnkadbpjiaiaaGreatDoorChecked
import GoSem.Claim
import GoSem.ClaimJoined
import GoSem.ClaimMapViews
import Derived.JoinedTies
import Derived.KernelRfl
namespace Go.Proofs.YtfgnkadbpjiaiaaGreatDoor
/- THE CELL 'sum', in the pinned program and in every row, IS THE sha256 OF THE DUMP (.gsa) THAT YtfgnkadbpjiaiaaGreatDoorProg.lean LOADS. Nothing in Lean hashes anything: it is a label: what it is worth is what the hold of that sum in a sandbox is worth. -/
noncomputable def Tryz.pinned : Pinned := { name := "ytfgnkadbpjiaiaagreatdoor", sum := "1aa47058aeb3d4f414fefc749a3d6ec7d9bcfa6477c126ffd5518a30398d773a", checked := Tryz.checked }
namespace Rows
def none {H : Type} : Left H := { results := [], args := [] }

/- WHAT THE LISTED PACKAGE-LEVEL VARIABLES READ AS WHEN THE CALL BEGINS. Each datum BY PROGRAM (the guide's laid-datum.mjs) off the statement by which the dump's own 'gosem.cut.vars' lays the variable. In a bare row this is a premise. The card (YtfgnkadbpjiaiaaGreatDoorCards.lean) ties it to the program's text. -/
def laid_errors_errorType {H : Type} : DataW H := .iface "internal/reflectlite.rtype" (.agg [.ptr (.lit (.string [101, 114, 114, 111, 114]))])

/-- 'aviarylaw14.ClockLater': WHATEVER THE INPUT: true; the input reads as it did. -/
def clockLaterSpec : ChangeSpec := { name := "clockLater", fn := fun _ => fun
  | [d1, d2, d3, d4, d5] => { results := [.lit (.bool true)], args := [d1, d2, d3, d4, d5] }
  | _ => none }
def clockLaterRow : OpenClaim := { program := "ytfgnkadbpjiaiaagreatdoor", sum := "1aa47058aeb3d4f414fefc749a3d6ec7d9bcfa6477c126ffd5518a30398d773a", func := "aviary/aviarylaw14.ClockLater", spec := "clockLater", inPlace := ["internal/reflectlite.ValueOf", "(internal/reflectlite.Value).Type", "(internal/reflectlite.Value).IsNil", "internal/reflectlite.TypeOf", "(internal/reflectlite.Value).Elem", "(internal/reflectlite.Value).Set"], unfollowed := true, recurses := true, named := ["errors.errorType"], apart := false, laid := [("errors.errorType", laid_errors_errorType)] }
def ClockLaterSaid : Prop := clockLaterRow.holds Tryz.pinned (OpenSpec.ofChange clockLaterSpec)

/-- ITS FALSE NEIGHBOUR: 'it returns false'. Refute it at one input. -/
def clockLaterWrong : ChangeSpec := { name := "clockLater", fn := fun _ => fun
  | [d1, d2, d3, d4, d5] => { results := [.lit (.bool false)], args := [d1, d2, d3, d4, d5] }
  | _ => none }
def ClockLaterWrongFalsely : Prop := clockLaterRow.holds Tryz.pinned (OpenSpec.ofChange clockLaterWrong)

/-- 'aviarylaw14.ClockTouches': WHATEVER THE INPUT: true; the input reads as it did. -/
def clockTouchesSpec : ChangeSpec := { name := "clockTouches", fn := fun _ => fun
  | [d1, d2, d3, d4] => { results := [.lit (.bool true)], args := [d1, d2, d3, d4] }
  | _ => none }
def clockTouchesRow : OpenClaim := { program := "ytfgnkadbpjiaiaagreatdoor", sum := "1aa47058aeb3d4f414fefc749a3d6ec7d9bcfa6477c126ffd5518a30398d773a", func := "aviary/aviarylaw14.ClockTouches", spec := "clockTouches", inPlace := ["internal/reflectlite.ValueOf", "(internal/reflectlite.Value).Type", "(internal/reflectlite.Value).IsNil", "internal/reflectlite.TypeOf", "(internal/reflectlite.Value).Elem", "(internal/reflectlite.Value).Set"], unfollowed := true, recurses := true, named := ["errors.errorType"], apart := false, laid := [("errors.errorType", laid_errors_errorType)] }
def ClockTouchesSaid : Prop := clockTouchesRow.holds Tryz.pinned (OpenSpec.ofChange clockTouchesSpec)

/-- ITS FALSE NEIGHBOUR: 'it returns false'. Refute it at one input. -/
def clockTouchesWrong : ChangeSpec := { name := "clockTouches", fn := fun _ => fun
  | [d1, d2, d3, d4] => { results := [.lit (.bool false)], args := [d1, d2, d3, d4] }
  | _ => none }
def ClockTouchesWrongFalsely : Prop := clockTouchesRow.holds Tryz.pinned (OpenSpec.ofChange clockTouchesWrong)

/-- 'aviarylaw14.ClockOnce': WHATEVER THE INPUT: true; the input reads as it did. -/
def clockOnceSpec : ChangeSpec := { name := "clockOnce", fn := fun _ => fun
  | [d1, d2, d3] => { results := [.lit (.bool true)], args := [d1, d2, d3] }
  | _ => none }
def clockOnceRow : OpenClaim := { program := "ytfgnkadbpjiaiaagreatdoor", sum := "1aa47058aeb3d4f414fefc749a3d6ec7d9bcfa6477c126ffd5518a30398d773a", func := "aviary/aviarylaw14.ClockOnce", spec := "clockOnce", inPlace := ["internal/reflectlite.ValueOf", "(internal/reflectlite.Value).Type", "(internal/reflectlite.Value).IsNil", "internal/reflectlite.TypeOf", "(internal/reflectlite.Value).Elem", "(internal/reflectlite.Value).Set"], unfollowed := true, recurses := true, named := ["errors.errorType"], apart := false, laid := [("errors.errorType", laid_errors_errorType)] }
def ClockOnceSaid : Prop := clockOnceRow.holds Tryz.pinned (OpenSpec.ofChange clockOnceSpec)

/-- ITS FALSE NEIGHBOUR: 'it returns false'. Refute it at one input. -/
def clockOnceWrong : ChangeSpec := { name := "clockOnce", fn := fun _ => fun
  | [d1, d2, d3] => { results := [.lit (.bool false)], args := [d1, d2, d3] }
  | _ => none }
def ClockOnceWrongFalsely : Prop := clockOnceRow.holds Tryz.pinned (OpenSpec.ofChange clockOnceWrong)

/-- 'aviarylaw14.ClockParts': WHATEVER THE INPUT: true; the input reads as it did. -/
def clockPartsSpec : ChangeSpec := { name := "clockParts", fn := fun _ => fun
  | [d1, d2, d3, d4] => { results := [.lit (.bool true)], args := [d1, d2, d3, d4] }
  | _ => none }
def clockPartsRow : OpenClaim := { program := "ytfgnkadbpjiaiaagreatdoor", sum := "1aa47058aeb3d4f414fefc749a3d6ec7d9bcfa6477c126ffd5518a30398d773a", func := "aviary/aviarylaw14.ClockParts", spec := "clockParts", inPlace := ["internal/reflectlite.ValueOf", "(internal/reflectlite.Value).Type", "(internal/reflectlite.Value).IsNil", "internal/reflectlite.TypeOf", "(internal/reflectlite.Value).Elem", "(internal/reflectlite.Value).Set"], unfollowed := true, recurses := true, named := ["errors.errorType"], apart := false, laid := [("errors.errorType", laid_errors_errorType)] }
def ClockPartsSaid : Prop := clockPartsRow.holds Tryz.pinned (OpenSpec.ofChange clockPartsSpec)

/-- ITS FALSE NEIGHBOUR: 'it returns false'. Refute it at one input. -/
def clockPartsWrong : ChangeSpec := { name := "clockParts", fn := fun _ => fun
  | [d1, d2, d3, d4] => { results := [.lit (.bool false)], args := [d1, d2, d3, d4] }
  | _ => none }
def ClockPartsWrongFalsely : Prop := clockPartsRow.holds Tryz.pinned (OpenSpec.ofChange clockPartsWrong)

/-- 'aviarylaw14.ClockNext': WHATEVER THE INPUT: true; the input reads as it did. -/
def clockNextSpec : ChangeSpec := { name := "clockNext", fn := fun _ => fun
  | [d1, d2, d3] => { results := [.lit (.bool true)], args := [d1, d2, d3] }
  | _ => none }
def clockNextRow : OpenClaim := { program := "ytfgnkadbpjiaiaagreatdoor", sum := "1aa47058aeb3d4f414fefc749a3d6ec7d9bcfa6477c126ffd5518a30398d773a", func := "aviary/aviarylaw14.ClockNext", spec := "clockNext", inPlace := ["internal/reflectlite.ValueOf", "(internal/reflectlite.Value).Type", "(internal/reflectlite.Value).IsNil", "internal/reflectlite.TypeOf", "(internal/reflectlite.Value).Elem", "(internal/reflectlite.Value).Set"], unfollowed := true, recurses := true, named := ["errors.errorType"], apart := false, laid := [("errors.errorType", laid_errors_errorType)] }
def ClockNextSaid : Prop := clockNextRow.holds Tryz.pinned (OpenSpec.ofChange clockNextSpec)

/-- ITS FALSE NEIGHBOUR: 'it returns false'. Refute it at one input. -/
def clockNextWrong : ChangeSpec := { name := "clockNext", fn := fun _ => fun
  | [d1, d2, d3] => { results := [.lit (.bool false)], args := [d1, d2, d3] }
  | _ => none }
def ClockNextWrongFalsely : Prop := clockNextRow.holds Tryz.pinned (OpenSpec.ofChange clockNextWrong)

/-- 'aviarylaw14.ClockTells': WHATEVER THE INPUT: true; the input reads as it did. -/
def clockTellsSpec : ChangeSpec := { name := "clockTells", fn := fun _ => fun
  | [d1, d2, d3, d4, d5] => { results := [.lit (.bool true)], args := [d1, d2, d3, d4, d5] }
  | _ => none }
def clockTellsRow : OpenClaim := { program := "ytfgnkadbpjiaiaagreatdoor", sum := "1aa47058aeb3d4f414fefc749a3d6ec7d9bcfa6477c126ffd5518a30398d773a", func := "aviary/aviarylaw14.ClockTells", spec := "clockTells", inPlace := ["internal/reflectlite.ValueOf", "(internal/reflectlite.Value).Type", "(internal/reflectlite.Value).IsNil", "internal/reflectlite.TypeOf", "(internal/reflectlite.Value).Elem", "(internal/reflectlite.Value).Set"], unfollowed := true, recurses := true, named := ["errors.errorType"], apart := false, laid := [("errors.errorType", laid_errors_errorType)] }
def ClockTellsSaid : Prop := clockTellsRow.holds Tryz.pinned (OpenSpec.ofChange clockTellsSpec)

/-- ITS FALSE NEIGHBOUR: 'it returns false'. Refute it at one input. -/
def clockTellsWrong : ChangeSpec := { name := "clockTells", fn := fun _ => fun
  | [d1, d2, d3, d4, d5] => { results := [.lit (.bool false)], args := [d1, d2, d3, d4, d5] }
  | _ => none }
def ClockTellsWrongFalsely : Prop := clockTellsRow.holds Tryz.pinned (OpenSpec.ofChange clockTellsWrong)

/- THE SECOND FORM. 'bulk': how many values and letters a reading holds, each counted each time it is reached (what is shared counts as often as it is met; a slice's spare places count too). A statement '..UptoSaid' is the law's where the arguments, and the package variables that the reading takes, are together of bulk at most 1048576: NARROWER than '..Said'. Prove '..Said' where nothing that the law and all that it calls make is longer than what came in: it says more and counts as full. Else prove '..UptoSaid'. A law counts once. -/
mutual
def uptoBulk {H : Type} : DataW H → Nat
  | .lit (.string bytes) => bytes.length + 1
  | .lit _ => 1
  | .nil => 1
  | .ptr d => uptoBulk d + 1
  | .slice elems spare => uptoBulkAll elems + uptoBulkAll spare + 1
  | .agg parts => uptoBulkAll parts + 1
  | .iface _ d => uptoBulk d + 1
  | .map entries => uptoBulkEntries entries + 1
  | .held _ => 1
def uptoBulkAll {H : Type} : List (DataW H) → Nat
  | [] => 0
  | d :: r => uptoBulk d + uptoBulkAll r
def uptoBulkEntries {H : Type} : List (Lit × DataW H) → Nat
  | [] => 0
  | x :: r => uptoBulkEntry x + uptoBulkEntries r
def uptoBulkEntry {H : Type} : Lit × DataW H → Nat
  | (.string bytes, d) => bytes.length + uptoBulk d + 1
  | (_, d) => uptoBulk d + 1
 end
def uptoSmall : (H : Type) → List (DataW H) → Bool := fun _ ds => decide (uptoBulkAll ds ≤ 1048576)
def OpenSpec.upto (s : _root_.Go.ChangeSpec) : _root_.Go.OpenSpec := { _root_.Go.OpenSpec.ofChange s with cond := some uptoSmall }

/-- 'aviarylaw14.ClockLater', WHERE WHAT IT READS IS OF BULK AT MOST 1048576: true; the input reads as it did. -/
def clockLaterUptoRow : OpenClaim := { program := "ytfgnkadbpjiaiaagreatdoor", sum := "1aa47058aeb3d4f414fefc749a3d6ec7d9bcfa6477c126ffd5518a30398d773a", func := "aviary/aviarylaw14.ClockLater", spec := "clockLater", inPlace := ["internal/reflectlite.ValueOf", "(internal/reflectlite.Value).Type", "(internal/reflectlite.Value).IsNil", "internal/reflectlite.TypeOf", "(internal/reflectlite.Value).Elem", "(internal/reflectlite.Value).Set"], unfollowed := true, recurses := true, named := ["errors.errorType"], apart := false, laid := [("errors.errorType", laid_errors_errorType)], narrowed := true }
def ClockLaterUptoSaid : Prop := clockLaterUptoRow.holds Tryz.pinned (OpenSpec.upto clockLaterSpec)

/-- 'aviarylaw14.ClockTouches', WHERE WHAT IT READS IS OF BULK AT MOST 1048576: true; the input reads as it did. -/
def clockTouchesUptoRow : OpenClaim := { program := "ytfgnkadbpjiaiaagreatdoor", sum := "1aa47058aeb3d4f414fefc749a3d6ec7d9bcfa6477c126ffd5518a30398d773a", func := "aviary/aviarylaw14.ClockTouches", spec := "clockTouches", inPlace := ["internal/reflectlite.ValueOf", "(internal/reflectlite.Value).Type", "(internal/reflectlite.Value).IsNil", "internal/reflectlite.TypeOf", "(internal/reflectlite.Value).Elem", "(internal/reflectlite.Value).Set"], unfollowed := true, recurses := true, named := ["errors.errorType"], apart := false, laid := [("errors.errorType", laid_errors_errorType)], narrowed := true }
def ClockTouchesUptoSaid : Prop := clockTouchesUptoRow.holds Tryz.pinned (OpenSpec.upto clockTouchesSpec)

/-- 'aviarylaw14.ClockOnce', WHERE WHAT IT READS IS OF BULK AT MOST 1048576: true; the input reads as it did. -/
def clockOnceUptoRow : OpenClaim := { program := "ytfgnkadbpjiaiaagreatdoor", sum := "1aa47058aeb3d4f414fefc749a3d6ec7d9bcfa6477c126ffd5518a30398d773a", func := "aviary/aviarylaw14.ClockOnce", spec := "clockOnce", inPlace := ["internal/reflectlite.ValueOf", "(internal/reflectlite.Value).Type", "(internal/reflectlite.Value).IsNil", "internal/reflectlite.TypeOf", "(internal/reflectlite.Value).Elem", "(internal/reflectlite.Value).Set"], unfollowed := true, recurses := true, named := ["errors.errorType"], apart := false, laid := [("errors.errorType", laid_errors_errorType)], narrowed := true }
def ClockOnceUptoSaid : Prop := clockOnceUptoRow.holds Tryz.pinned (OpenSpec.upto clockOnceSpec)

/-- 'aviarylaw14.ClockParts', WHERE WHAT IT READS IS OF BULK AT MOST 1048576: true; the input reads as it did. -/
def clockPartsUptoRow : OpenClaim := { program := "ytfgnkadbpjiaiaagreatdoor", sum := "1aa47058aeb3d4f414fefc749a3d6ec7d9bcfa6477c126ffd5518a30398d773a", func := "aviary/aviarylaw14.ClockParts", spec := "clockParts", inPlace := ["internal/reflectlite.ValueOf", "(internal/reflectlite.Value).Type", "(internal/reflectlite.Value).IsNil", "internal/reflectlite.TypeOf", "(internal/reflectlite.Value).Elem", "(internal/reflectlite.Value).Set"], unfollowed := true, recurses := true, named := ["errors.errorType"], apart := false, laid := [("errors.errorType", laid_errors_errorType)], narrowed := true }
def ClockPartsUptoSaid : Prop := clockPartsUptoRow.holds Tryz.pinned (OpenSpec.upto clockPartsSpec)

/-- 'aviarylaw14.ClockNext', WHERE WHAT IT READS IS OF BULK AT MOST 1048576: true; the input reads as it did. -/
def clockNextUptoRow : OpenClaim := { program := "ytfgnkadbpjiaiaagreatdoor", sum := "1aa47058aeb3d4f414fefc749a3d6ec7d9bcfa6477c126ffd5518a30398d773a", func := "aviary/aviarylaw14.ClockNext", spec := "clockNext", inPlace := ["internal/reflectlite.ValueOf", "(internal/reflectlite.Value).Type", "(internal/reflectlite.Value).IsNil", "internal/reflectlite.TypeOf", "(internal/reflectlite.Value).Elem", "(internal/reflectlite.Value).Set"], unfollowed := true, recurses := true, named := ["errors.errorType"], apart := false, laid := [("errors.errorType", laid_errors_errorType)], narrowed := true }
def ClockNextUptoSaid : Prop := clockNextUptoRow.holds Tryz.pinned (OpenSpec.upto clockNextSpec)

/-- 'aviarylaw14.ClockTells', WHERE WHAT IT READS IS OF BULK AT MOST 1048576: true; the input reads as it did. -/
def clockTellsUptoRow : OpenClaim := { program := "ytfgnkadbpjiaiaagreatdoor", sum := "1aa47058aeb3d4f414fefc749a3d6ec7d9bcfa6477c126ffd5518a30398d773a", func := "aviary/aviarylaw14.ClockTells", spec := "clockTells", inPlace := ["internal/reflectlite.ValueOf", "(internal/reflectlite.Value).Type", "(internal/reflectlite.Value).IsNil", "internal/reflectlite.TypeOf", "(internal/reflectlite.Value).Elem", "(internal/reflectlite.Value).Set"], unfollowed := true, recurses := true, named := ["errors.errorType"], apart := false, laid := [("errors.errorType", laid_errors_errorType)], narrowed := true }
def ClockTellsUptoSaid : Prop := clockTellsUptoRow.holds Tryz.pinned (OpenSpec.upto clockTellsSpec)

end Rows
end Go.Proofs.YtfgnkadbpjiaiaaGreatDoor
