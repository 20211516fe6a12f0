/-
  NARROWER THAN 'FOR EVERY INPUT', by the rows' own cells (each row's printed sentence says how): PosetRuns: laid · PosetRoots: laid · PosetOrder: laid · PosetNone: laid · PosetKeeps: laid.
  DERIVED. THE GIVEN ROWS OF THIS SEAT. 5 by the template 'for every input the law returns true; each argument reads behind the call as it read before'; 0 by the template 'total and deterministic' (their statements: YtmpgilieeegnhaaGreatDoorTotals.lean).
  GIVEN WITH THE SEED: the statements are not yours to turn. If you find one false, say at which input.
  Laid BY PROGRAM, IN A SANDBOX (cutbox-rows.mjs): the forced cells as the released guide's own fill.sh prints them over the translation f6d0abe2f36a1e95… (all of the seat's roots in one cut). By AI agents, Wed Nov 11 2026. No macro, syntax, notation, axiom, sorry.
-/
import Derived.Test.YtmpgilieeegnhaaGreatDoorChecked
import GoSem.Claim
import GoSem.ClaimJoined
import GoSem.ClaimMapViews
import Derived.JoinedTies
import Derived.KernelRfl
namespace Go.Proofs.YtmpgilieeegnhaaGreatDoor
/- THE CELL 'sum', in the pinned program and in every row, IS THE sha256 OF THE DUMP (.gsa) THAT YtmpgilieeegnhaaGreatDoorProg.lean LOADS. Nothing in Lean hashes anything: it is a label: what it is worth is what the hold of that sum in a sandbox is worth. -/
noncomputable def Tryz.pinned : Pinned := { name := "ytmpgilieeegnhaagreatdoor", sum := "f6d0abe2f36a1e950ddbfc55fb6cfa19f50f8553fd8855676f78b944df4b69f0", checked := Tryz.checked }
namespace Rows
def none {H : Type} : Left H := { results := [], args := [] }

/- WHAT THE LISTED PACKAGE-LEVEL VARIABLES READ AS WHEN THE CALL BEGINS. Each datum BY PROGRAM (the guide's laid-datum.mjs) off the statement by which the dump's own 'gosem.cut.vars' lays the variable. In a bare row this is a premise. The card (YtmpgilieeegnhaaGreatDoorCards.lean) ties it to the program's text. -/
def laid_errors_errorType {H : Type} : DataW H := .iface "internal/reflectlite.rtype" (.agg [.ptr (.lit (.string [101, 114, 114, 111, 114]))])

/-- 'aviarylaw07.PosetRuns': WHATEVER THE INPUT: true; the input reads as it did. -/
def posetRunsSpec : ChangeSpec := { name := "posetRuns", fn := fun _ => fun
  | [d] => { results := [.lit (.bool true)], args := [d] }
  | _ => none }
def posetRunsRow : OpenClaim := { program := "ytmpgilieeegnhaagreatdoor", sum := "f6d0abe2f36a1e950ddbfc55fb6cfa19f50f8553fd8855676f78b944df4b69f0", func := "aviary/aviarylaw07.PosetRuns", spec := "posetRuns", inPlace := ["internal/reflectlite.ValueOf", "(internal/reflectlite.Value).Type", "(internal/reflectlite.Value).IsNil", "internal/reflectlite.TypeOf", "(internal/reflectlite.Value).Elem", "(internal/reflectlite.Value).Set"], unfollowed := true, recurses := true, named := ["errors.errorType"], apart := false, laid := [("errors.errorType", laid_errors_errorType)] }
def PosetRunsSaid : Prop := posetRunsRow.holds Tryz.pinned (OpenSpec.ofChange posetRunsSpec)

/-- ITS FALSE NEIGHBOUR: 'it returns false'. Refute it at one input. -/
def posetRunsWrong : ChangeSpec := { name := "posetRuns", fn := fun _ => fun
  | [d] => { results := [.lit (.bool false)], args := [d] }
  | _ => none }
def PosetRunsWrongFalsely : Prop := posetRunsRow.holds Tryz.pinned (OpenSpec.ofChange posetRunsWrong)

/-- 'aviarylaw07.PosetRoots': WHATEVER THE INPUT: true; the input reads as it did. -/
def posetRootsSpec : ChangeSpec := { name := "posetRoots", fn := fun _ => fun
  | [d] => { results := [.lit (.bool true)], args := [d] }
  | _ => none }
def posetRootsRow : OpenClaim := { program := "ytmpgilieeegnhaagreatdoor", sum := "f6d0abe2f36a1e950ddbfc55fb6cfa19f50f8553fd8855676f78b944df4b69f0", func := "aviary/aviarylaw07.PosetRoots", spec := "posetRoots", inPlace := ["internal/reflectlite.ValueOf", "(internal/reflectlite.Value).Type", "(internal/reflectlite.Value).IsNil", "internal/reflectlite.TypeOf", "(internal/reflectlite.Value).Elem", "(internal/reflectlite.Value).Set"], unfollowed := true, recurses := true, named := ["errors.errorType"], apart := false, laid := [("errors.errorType", laid_errors_errorType)] }
def PosetRootsSaid : Prop := posetRootsRow.holds Tryz.pinned (OpenSpec.ofChange posetRootsSpec)

/-- ITS FALSE NEIGHBOUR: 'it returns false'. Refute it at one input. -/
def posetRootsWrong : ChangeSpec := { name := "posetRoots", fn := fun _ => fun
  | [d] => { results := [.lit (.bool false)], args := [d] }
  | _ => none }
def PosetRootsWrongFalsely : Prop := posetRootsRow.holds Tryz.pinned (OpenSpec.ofChange posetRootsWrong)

/-- 'aviarylaw07.PosetOrder': WHATEVER THE INPUT: true; the input reads as it did. -/
def posetOrderSpec : ChangeSpec := { name := "posetOrder", fn := fun _ => fun
  | [d] => { results := [.lit (.bool true)], args := [d] }
  | _ => none }
def posetOrderRow : OpenClaim := { program := "ytmpgilieeegnhaagreatdoor", sum := "f6d0abe2f36a1e950ddbfc55fb6cfa19f50f8553fd8855676f78b944df4b69f0", func := "aviary/aviarylaw07.PosetOrder", spec := "posetOrder", inPlace := ["internal/reflectlite.ValueOf", "(internal/reflectlite.Value).Type", "(internal/reflectlite.Value).IsNil", "internal/reflectlite.TypeOf", "(internal/reflectlite.Value).Elem", "(internal/reflectlite.Value).Set"], unfollowed := true, recurses := true, named := ["errors.errorType"], apart := false, laid := [("errors.errorType", laid_errors_errorType)] }
def PosetOrderSaid : Prop := posetOrderRow.holds Tryz.pinned (OpenSpec.ofChange posetOrderSpec)

/-- ITS FALSE NEIGHBOUR: 'it returns false'. Refute it at one input. -/
def posetOrderWrong : ChangeSpec := { name := "posetOrder", fn := fun _ => fun
  | [d] => { results := [.lit (.bool false)], args := [d] }
  | _ => none }
def PosetOrderWrongFalsely : Prop := posetOrderRow.holds Tryz.pinned (OpenSpec.ofChange posetOrderWrong)

/-- 'aviarylaw07.PosetNone': WHATEVER THE INPUT: true; the input reads as it did. -/
def posetNoneSpec : ChangeSpec := { name := "posetNone", fn := fun _ => fun
  | [d1, d2] => { results := [.lit (.bool true)], args := [d1, d2] }
  | _ => none }
def posetNoneRow : OpenClaim := { program := "ytmpgilieeegnhaagreatdoor", sum := "f6d0abe2f36a1e950ddbfc55fb6cfa19f50f8553fd8855676f78b944df4b69f0", func := "aviary/aviarylaw07.PosetNone", spec := "posetNone", inPlace := ["internal/reflectlite.ValueOf", "(internal/reflectlite.Value).Type", "(internal/reflectlite.Value).IsNil", "internal/reflectlite.TypeOf", "(internal/reflectlite.Value).Elem", "(internal/reflectlite.Value).Set"], unfollowed := true, recurses := true, named := ["errors.errorType"], apart := false, laid := [("errors.errorType", laid_errors_errorType)] }
def PosetNoneSaid : Prop := posetNoneRow.holds Tryz.pinned (OpenSpec.ofChange posetNoneSpec)

/-- ITS FALSE NEIGHBOUR: 'it returns false'. Refute it at one input. -/
def posetNoneWrong : ChangeSpec := { name := "posetNone", fn := fun _ => fun
  | [d1, d2] => { results := [.lit (.bool false)], args := [d1, d2] }
  | _ => none }
def PosetNoneWrongFalsely : Prop := posetNoneRow.holds Tryz.pinned (OpenSpec.ofChange posetNoneWrong)

/-- 'aviarylaw07.PosetKeeps': WHATEVER THE INPUT: true; the input reads as it did. -/
def posetKeepsSpec : ChangeSpec := { name := "posetKeeps", fn := fun _ => fun
  | [d] => { results := [.lit (.bool true)], args := [d] }
  | _ => none }
def posetKeepsRow : OpenClaim := { program := "ytmpgilieeegnhaagreatdoor", sum := "f6d0abe2f36a1e950ddbfc55fb6cfa19f50f8553fd8855676f78b944df4b69f0", func := "aviary/aviarylaw07.PosetKeeps", spec := "posetKeeps", inPlace := ["internal/reflectlite.ValueOf", "(internal/reflectlite.Value).Type", "(internal/reflectlite.Value).IsNil", "internal/reflectlite.TypeOf", "(internal/reflectlite.Value).Elem", "(internal/reflectlite.Value).Set"], unfollowed := true, recurses := true, named := ["errors.errorType"], apart := false, laid := [("errors.errorType", laid_errors_errorType)] }
def PosetKeepsSaid : Prop := posetKeepsRow.holds Tryz.pinned (OpenSpec.ofChange posetKeepsSpec)

/-- ITS FALSE NEIGHBOUR: 'it returns false'. Refute it at one input. -/
def posetKeepsWrong : ChangeSpec := { name := "posetKeeps", fn := fun _ => fun
  | [d] => { results := [.lit (.bool false)], args := [d] }
  | _ => none }
def PosetKeepsWrongFalsely : Prop := posetKeepsRow.holds Tryz.pinned (OpenSpec.ofChange posetKeepsWrong)

/- THE SECOND FORM. 'bulk': how many values and letters a reading holds, each counted each time it is reached (what is shared counts as often as it is met; a slice's spare places count too). A statement '..UptoSaid' is the law's where the arguments, and the package variables that the reading takes, are together of bulk at most 1048576: NARROWER than '..Said'. Prove '..Said' where nothing that the law and all that it calls make is longer than what came in: it says more and counts as full. Else prove '..UptoSaid'. A law counts once. -/
mutual
def uptoBulk {H : Type} : DataW H → Nat
  | .lit (.string bytes) => bytes.length + 1
  | .lit _ => 1
  | .nil => 1
  | .ptr d => uptoBulk d + 1
  | .slice elems spare => uptoBulkAll elems + uptoBulkAll spare + 1
  | .agg parts => uptoBulkAll parts + 1
  | .iface _ d => uptoBulk d + 1
  | .map entries => uptoBulkEntries entries + 1
  | .held _ => 1
def uptoBulkAll {H : Type} : List (DataW H) → Nat
  | [] => 0
  | d :: r => uptoBulk d + uptoBulkAll r
def uptoBulkEntries {H : Type} : List (Lit × DataW H) → Nat
  | [] => 0
  | x :: r => uptoBulkEntry x + uptoBulkEntries r
def uptoBulkEntry {H : Type} : Lit × DataW H → Nat
  | (.string bytes, d) => bytes.length + uptoBulk d + 1
  | (_, d) => uptoBulk d + 1
 end
def uptoSmall : (H : Type) → List (DataW H) → Bool := fun _ ds => decide (uptoBulkAll ds ≤ 1048576)
def OpenSpec.upto (s : _root_.Go.ChangeSpec) : _root_.Go.OpenSpec := { _root_.Go.OpenSpec.ofChange s with cond := some uptoSmall }

/-- 'aviarylaw07.PosetRuns', WHERE WHAT IT READS IS OF BULK AT MOST 1048576: true; the input reads as it did. -/
def posetRunsUptoRow : OpenClaim := { program := "ytmpgilieeegnhaagreatdoor", sum := "f6d0abe2f36a1e950ddbfc55fb6cfa19f50f8553fd8855676f78b944df4b69f0", func := "aviary/aviarylaw07.PosetRuns", spec := "posetRuns", inPlace := ["internal/reflectlite.ValueOf", "(internal/reflectlite.Value).Type", "(internal/reflectlite.Value).IsNil", "internal/reflectlite.TypeOf", "(internal/reflectlite.Value).Elem", "(internal/reflectlite.Value).Set"], unfollowed := true, recurses := true, named := ["errors.errorType"], apart := false, laid := [("errors.errorType", laid_errors_errorType)], narrowed := true }
def PosetRunsUptoSaid : Prop := posetRunsUptoRow.holds Tryz.pinned (OpenSpec.upto posetRunsSpec)

/-- 'aviarylaw07.PosetRoots', WHERE WHAT IT READS IS OF BULK AT MOST 1048576: true; the input reads as it did. -/
def posetRootsUptoRow : OpenClaim := { program := "ytmpgilieeegnhaagreatdoor", sum := "f6d0abe2f36a1e950ddbfc55fb6cfa19f50f8553fd8855676f78b944df4b69f0", func := "aviary/aviarylaw07.PosetRoots", spec := "posetRoots", inPlace := ["internal/reflectlite.ValueOf", "(internal/reflectlite.Value).Type", "(internal/reflectlite.Value).IsNil", "internal/reflectlite.TypeOf", "(internal/reflectlite.Value).Elem", "(internal/reflectlite.Value).Set"], unfollowed := true, recurses := true, named := ["errors.errorType"], apart := false, laid := [("errors.errorType", laid_errors_errorType)], narrowed := true }
def PosetRootsUptoSaid : Prop := posetRootsUptoRow.holds Tryz.pinned (OpenSpec.upto posetRootsSpec)

/-- 'aviarylaw07.PosetOrder', WHERE WHAT IT READS IS OF BULK AT MOST 1048576: true; the input reads as it did. -/
def posetOrderUptoRow : OpenClaim := { program := "ytmpgilieeegnhaagreatdoor", sum := "f6d0abe2f36a1e950ddbfc55fb6cfa19f50f8553fd8855676f78b944df4b69f0", func := "aviary/aviarylaw07.PosetOrder", spec := "posetOrder", inPlace := ["internal/reflectlite.ValueOf", "(internal/reflectlite.Value).Type", "(internal/reflectlite.Value).IsNil", "internal/reflectlite.TypeOf", "(internal/reflectlite.Value).Elem", "(internal/reflectlite.Value).Set"], unfollowed := true, recurses := true, named := ["errors.errorType"], apart := false, laid := [("errors.errorType", laid_errors_errorType)], narrowed := true }
def PosetOrderUptoSaid : Prop := posetOrderUptoRow.holds Tryz.pinned (OpenSpec.upto posetOrderSpec)

/-- 'aviarylaw07.PosetNone', WHERE WHAT IT READS IS OF BULK AT MOST 1048576: true; the input reads as it did. -/
def posetNoneUptoRow : OpenClaim := { program := "ytmpgilieeegnhaagreatdoor", sum := "f6d0abe2f36a1e950ddbfc55fb6cfa19f50f8553fd8855676f78b944df4b69f0", func := "aviary/aviarylaw07.PosetNone", spec := "posetNone", inPlace := ["internal/reflectlite.ValueOf", "(internal/reflectlite.Value).Type", "(internal/reflectlite.Value).IsNil", "internal/reflectlite.TypeOf", "(internal/reflectlite.Value).Elem", "(internal/reflectlite.Value).Set"], unfollowed := true, recurses := true, named := ["errors.errorType"], apart := false, laid := [("errors.errorType", laid_errors_errorType)], narrowed := true }
def PosetNoneUptoSaid : Prop := posetNoneUptoRow.holds Tryz.pinned (OpenSpec.upto posetNoneSpec)

/-- 'aviarylaw07.PosetKeeps', WHERE WHAT IT READS IS OF BULK AT MOST 1048576: true; the input reads as it did. -/
def posetKeepsUptoRow : OpenClaim := { program := "ytmpgilieeegnhaagreatdoor", sum := "f6d0abe2f36a1e950ddbfc55fb6cfa19f50f8553fd8855676f78b944df4b69f0", func := "aviary/aviarylaw07.PosetKeeps", spec := "posetKeeps", inPlace := ["internal/reflectlite.ValueOf", "(internal/reflectlite.Value).Type", "(internal/reflectlite.Value).IsNil", "internal/reflectlite.TypeOf", "(internal/reflectlite.Value).Elem", "(internal/reflectlite.Value).Set"], unfollowed := true, recurses := true, named := ["errors.errorType"], apart := false, laid := [("errors.errorType", laid_errors_errorType)], narrowed := true }
def PosetKeepsUptoSaid : Prop := posetKeepsUptoRow.holds Tryz.pinned (OpenSpec.upto posetKeepsSpec)

end Rows
end Go.Proofs.YtmpgilieeegnhaaGreatDoor
