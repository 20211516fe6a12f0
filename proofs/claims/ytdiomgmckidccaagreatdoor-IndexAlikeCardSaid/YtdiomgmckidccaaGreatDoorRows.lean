/-
  NARROWER THAN 'FOR EVERY INPUT', by the rows' own cells (each row's printed sentence says how): IndexRuns: laid · IndexNone: laid · IndexAlike: laid · IndexMatches: laid.
  DERIVED. THE GIVEN ROWS OF THIS SEAT. 4 by the template 'for every input the law returns true; each argument reads behind the call as it read before'; 0 by the template 'total and deterministic' (their statements: YtdiomgmckidccaaGreatDoorTotals.lean).
  GIVEN WITH THE SEED: the statements are not yours to turn. If you find one false, say at which input.
  Laid BY PROGRAM, IN A SANDBOX (cutbox-rows.mjs): the forced cells as the released guide's own fill.sh prints them over the translation b6608fe65cfac600… (all of the seat's roots in one cut). By AI agents, Wed Nov 11 2026. No macro, syntax, notation, axiom, sorry.
-/
import Derived.Test.YtdiomgmckidccaaGreatDoorChecked
import GoSem.Claim
import GoSem.ClaimJoined
import GoSem.ClaimMapViews
import Derived.JoinedTies
import Derived.KernelRfl
namespace Go.Proofs.YtdiomgmckidccaaGreatDoor
/- THE CELL 'sum', in the pinned program and in every row, IS THE sha256 OF THE DUMP (.gsa) THAT YtdiomgmckidccaaGreatDoorProg.lean LOADS. Nothing in Lean hashes anything: it is a label: what it is worth is what the hold of that sum in a sandbox is worth. -/
noncomputable def Tryz.pinned : Pinned := { name := "ytdiomgmckidccaagreatdoor", sum := "b6608fe65cfac6004bb63d5f957af60089858f8ec4184071d9baa93621f7c3a8", checked := Tryz.checked }
namespace Rows
def none {H : Type} : Left H := { results := [], args := [] }

/- WHAT THE LISTED PACKAGE-LEVEL VARIABLES READ AS WHEN THE CALL BEGINS. Each datum BY PROGRAM (the guide's laid-datum.mjs) off the statement by which the dump's own 'gosem.cut.vars' lays the variable. In a bare row this is a premise. The card (YtdiomgmckidccaaGreatDoorCards.lean) ties it to the program's text. -/
def laid_errors_errorType {H : Type} : DataW H := .iface "internal/reflectlite.rtype" (.agg [.ptr (.lit (.string [101, 114, 114, 111, 114]))])

/-- 'aviarylaw08.IndexRuns': WHATEVER THE INPUT: true; the input reads as it did. -/
def indexRunsSpec : ChangeSpec := { name := "indexRuns", fn := fun _ => fun
  | [d] => { results := [.lit (.bool true)], args := [d] }
  | _ => none }
def indexRunsRow : OpenClaim := { program := "ytdiomgmckidccaagreatdoor", sum := "b6608fe65cfac6004bb63d5f957af60089858f8ec4184071d9baa93621f7c3a8", func := "aviary/aviarylaw08.IndexRuns", spec := "indexRuns", inPlace := ["internal/reflectlite.ValueOf", "(internal/reflectlite.Value).Type", "(internal/reflectlite.Value).IsNil", "internal/reflectlite.TypeOf", "(internal/reflectlite.Value).Elem", "(internal/reflectlite.Value).Set"], unfollowed := true, recurses := true, named := ["errors.errorType"], apart := false, laid := [("errors.errorType", laid_errors_errorType)] }
def IndexRunsSaid : Prop := indexRunsRow.holds Tryz.pinned (OpenSpec.ofChange indexRunsSpec)

/-- ITS FALSE NEIGHBOUR: 'it returns false'. Refute it at one input. -/
def indexRunsWrong : ChangeSpec := { name := "indexRuns", fn := fun _ => fun
  | [d] => { results := [.lit (.bool false)], args := [d] }
  | _ => none }
def IndexRunsWrongFalsely : Prop := indexRunsRow.holds Tryz.pinned (OpenSpec.ofChange indexRunsWrong)

/-- 'aviarylaw08.IndexNone': WHATEVER THE INPUT: true; the input reads as it did. -/
def indexNoneSpec : ChangeSpec := { name := "indexNone", fn := fun _ => fun
  | [d1, d2, d3] => { results := [.lit (.bool true)], args := [d1, d2, d3] }
  | _ => none }
def indexNoneRow : OpenClaim := { program := "ytdiomgmckidccaagreatdoor", sum := "b6608fe65cfac6004bb63d5f957af60089858f8ec4184071d9baa93621f7c3a8", func := "aviary/aviarylaw08.IndexNone", spec := "indexNone", inPlace := ["internal/reflectlite.ValueOf", "(internal/reflectlite.Value).Type", "(internal/reflectlite.Value).IsNil", "internal/reflectlite.TypeOf", "(internal/reflectlite.Value).Elem", "(internal/reflectlite.Value).Set"], unfollowed := true, recurses := true, named := ["errors.errorType"], apart := false, laid := [("errors.errorType", laid_errors_errorType)] }
def IndexNoneSaid : Prop := indexNoneRow.holds Tryz.pinned (OpenSpec.ofChange indexNoneSpec)

/-- ITS FALSE NEIGHBOUR: 'it returns false'. Refute it at one input. -/
def indexNoneWrong : ChangeSpec := { name := "indexNone", fn := fun _ => fun
  | [d1, d2, d3] => { results := [.lit (.bool false)], args := [d1, d2, d3] }
  | _ => none }
def IndexNoneWrongFalsely : Prop := indexNoneRow.holds Tryz.pinned (OpenSpec.ofChange indexNoneWrong)

/-- 'aviarylaw08.IndexAlike': WHATEVER THE INPUT: true; the input reads as it did. -/
def indexAlikeSpec : ChangeSpec := { name := "indexAlike", fn := fun _ => fun
  | [d1, d2] => { results := [.lit (.bool true)], args := [d1, d2] }
  | _ => none }
def indexAlikeRow : OpenClaim := { program := "ytdiomgmckidccaagreatdoor", sum := "b6608fe65cfac6004bb63d5f957af60089858f8ec4184071d9baa93621f7c3a8", func := "aviary/aviarylaw08.IndexAlike", spec := "indexAlike", inPlace := ["internal/reflectlite.ValueOf", "(internal/reflectlite.Value).Type", "(internal/reflectlite.Value).IsNil", "internal/reflectlite.TypeOf", "(internal/reflectlite.Value).Elem", "(internal/reflectlite.Value).Set"], unfollowed := true, recurses := true, named := ["errors.errorType"], apart := false, laid := [("errors.errorType", laid_errors_errorType)] }
def IndexAlikeSaid : Prop := indexAlikeRow.holds Tryz.pinned (OpenSpec.ofChange indexAlikeSpec)

/-- ITS FALSE NEIGHBOUR: 'it returns false'. Refute it at one input. -/
def indexAlikeWrong : ChangeSpec := { name := "indexAlike", fn := fun _ => fun
  | [d1, d2] => { results := [.lit (.bool false)], args := [d1, d2] }
  | _ => none }
def IndexAlikeWrongFalsely : Prop := indexAlikeRow.holds Tryz.pinned (OpenSpec.ofChange indexAlikeWrong)

/-- 'aviarylaw08.IndexMatches': WHATEVER THE INPUT: true; the input reads as it did. -/
def indexMatchesSpec : ChangeSpec := { name := "indexMatches", fn := fun _ => fun
  | [d1, d2] => { results := [.lit (.bool true)], args := [d1, d2] }
  | _ => none }
def indexMatchesRow : OpenClaim := { program := "ytdiomgmckidccaagreatdoor", sum := "b6608fe65cfac6004bb63d5f957af60089858f8ec4184071d9baa93621f7c3a8", func := "aviary/aviarylaw08.IndexMatches", spec := "indexMatches", inPlace := ["internal/reflectlite.ValueOf", "(internal/reflectlite.Value).Type", "(internal/reflectlite.Value).IsNil", "internal/reflectlite.TypeOf", "(internal/reflectlite.Value).Elem", "(internal/reflectlite.Value).Set", "internal/bytealg.abigen_runtime_cmpstring"], unfollowed := true, recurses := true, named := ["errors.errorType"], apart := false, laid := [("errors.errorType", laid_errors_errorType)] }
def IndexMatchesSaid : Prop := indexMatchesRow.holds Tryz.pinned (OpenSpec.ofChange indexMatchesSpec)

/-- ITS FALSE NEIGHBOUR: 'it returns false'. Refute it at one input. -/
def indexMatchesWrong : ChangeSpec := { name := "indexMatches", fn := fun _ => fun
  | [d1, d2] => { results := [.lit (.bool false)], args := [d1, d2] }
  | _ => none }
def IndexMatchesWrongFalsely : Prop := indexMatchesRow.holds Tryz.pinned (OpenSpec.ofChange indexMatchesWrong)

/- THE SECOND FORM. 'bulk': how many values and letters a reading holds, each counted each time it is reached (what is shared counts as often as it is met; a slice's spare places count too). A statement '..UptoSaid' is the law's where the arguments, and the package variables that the reading takes, are together of bulk at most 1048576: NARROWER than '..Said'. Prove '..Said' where nothing that the law and all that it calls make is longer than what came in: it says more and counts as full. Else prove '..UptoSaid'. A law counts once. -/
mutual
def uptoBulk {H : Type} : DataW H → Nat
  | .lit (.string bytes) => bytes.length + 1
  | .lit _ => 1
  | .nil => 1
  | .ptr d => uptoBulk d + 1
  | .slice elems spare => uptoBulkAll elems + uptoBulkAll spare + 1
  | .agg parts => uptoBulkAll parts + 1
  | .iface _ d => uptoBulk d + 1
  | .map entries => uptoBulkEntries entries + 1
  | .held _ => 1
def uptoBulkAll {H : Type} : List (DataW H) → Nat
  | [] => 0
  | d :: r => uptoBulk d + uptoBulkAll r
def uptoBulkEntries {H : Type} : List (Lit × DataW H) → Nat
  | [] => 0
  | x :: r => uptoBulkEntry x + uptoBulkEntries r
def uptoBulkEntry {H : Type} : Lit × DataW H → Nat
  | (.string bytes, d) => bytes.length + uptoBulk d + 1
  | (_, d) => uptoBulk d + 1
 end
def uptoSmall : (H : Type) → List (DataW H) → Bool := fun _ ds => decide (uptoBulkAll ds ≤ 1048576)
def OpenSpec.upto (s : _root_.Go.ChangeSpec) : _root_.Go.OpenSpec := { _root_.Go.OpenSpec.ofChange s with cond := some uptoSmall }

/-- 'aviarylaw08.IndexRuns', WHERE WHAT IT READS IS OF BULK AT MOST 1048576: true; the input reads as it did. -/
def indexRunsUptoRow : OpenClaim := { program := "ytdiomgmckidccaagreatdoor", sum := "b6608fe65cfac6004bb63d5f957af60089858f8ec4184071d9baa93621f7c3a8", func := "aviary/aviarylaw08.IndexRuns", spec := "indexRuns", inPlace := ["internal/reflectlite.ValueOf", "(internal/reflectlite.Value).Type", "(internal/reflectlite.Value).IsNil", "internal/reflectlite.TypeOf", "(internal/reflectlite.Value).Elem", "(internal/reflectlite.Value).Set"], unfollowed := true, recurses := true, named := ["errors.errorType"], apart := false, laid := [("errors.errorType", laid_errors_errorType)], narrowed := true }
def IndexRunsUptoSaid : Prop := indexRunsUptoRow.holds Tryz.pinned (OpenSpec.upto indexRunsSpec)

/-- 'aviarylaw08.IndexNone', WHERE WHAT IT READS IS OF BULK AT MOST 1048576: true; the input reads as it did. -/
def indexNoneUptoRow : OpenClaim := { program := "ytdiomgmckidccaagreatdoor", sum := "b6608fe65cfac6004bb63d5f957af60089858f8ec4184071d9baa93621f7c3a8", func := "aviary/aviarylaw08.IndexNone", spec := "indexNone", inPlace := ["internal/reflectlite.ValueOf", "(internal/reflectlite.Value).Type", "(internal/reflectlite.Value).IsNil", "internal/reflectlite.TypeOf", "(internal/reflectlite.Value).Elem", "(internal/reflectlite.Value).Set"], unfollowed := true, recurses := true, named := ["errors.errorType"], apart := false, laid := [("errors.errorType", laid_errors_errorType)], narrowed := true }
def IndexNoneUptoSaid : Prop := indexNoneUptoRow.holds Tryz.pinned (OpenSpec.upto indexNoneSpec)

/-- 'aviarylaw08.IndexAlike', WHERE WHAT IT READS IS OF BULK AT MOST 1048576: true; the input reads as it did. -/
def indexAlikeUptoRow : OpenClaim := { program := "ytdiomgmckidccaagreatdoor", sum := "b6608fe65cfac6004bb63d5f957af60089858f8ec4184071d9baa93621f7c3a8", func := "aviary/aviarylaw08.IndexAlike", spec := "indexAlike", inPlace := ["internal/reflectlite.ValueOf", "(internal/reflectlite.Value).Type", "(internal/reflectlite.Value).IsNil", "internal/reflectlite.TypeOf", "(internal/reflectlite.Value).Elem", "(internal/reflectlite.Value).Set"], unfollowed := true, recurses := true, named := ["errors.errorType"], apart := false, laid := [("errors.errorType", laid_errors_errorType)], narrowed := true }
def IndexAlikeUptoSaid : Prop := indexAlikeUptoRow.holds Tryz.pinned (OpenSpec.upto indexAlikeSpec)

/-- 'aviarylaw08.IndexMatches', WHERE WHAT IT READS IS OF BULK AT MOST 1048576: true; the input reads as it did. -/
def indexMatchesUptoRow : OpenClaim := { program := "ytdiomgmckidccaagreatdoor", sum := "b6608fe65cfac6004bb63d5f957af60089858f8ec4184071d9baa93621f7c3a8", func := "aviary/aviarylaw08.IndexMatches", spec := "indexMatches", inPlace := ["internal/reflectlite.ValueOf", "(internal/reflectlite.Value).Type", "(internal/reflectlite.Value).IsNil", "internal/reflectlite.TypeOf", "(internal/reflectlite.Value).Elem", "(internal/reflectlite.Value).Set", "internal/bytealg.abigen_runtime_cmpstring"], unfollowed := true, recurses := true, named := ["errors.errorType"], apart := false, laid := [("errors.errorType", laid_errors_errorType)], narrowed := true }
def IndexMatchesUptoSaid : Prop := indexMatchesUptoRow.holds Tryz.pinned (OpenSpec.upto indexMatchesSpec)

end Rows
end Go.Proofs.YtdiomgmckidccaaGreatDoor
