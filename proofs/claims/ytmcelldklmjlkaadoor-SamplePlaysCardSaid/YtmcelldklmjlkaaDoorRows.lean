/-
  NARROWER THAN 'FOR EVERY INPUT', by the rows' own cells (each row's printed sentence says how): SampleEmpty: laid · SamplePlays: laid · SampleForward: laid · SampleWhole: laid · SampleOdd: laid.
  DERIVED. THE GIVEN ROWS OF THIS SEAT. 5 by the template 'for every input the law returns true; each argument reads behind the call as it read before'; 0 by the template 'total and deterministic' (their statements: YtmcelldklmjlkaaDoorTotals.lean).
  GIVEN WITH THE SEED: the statements are not yours to turn. If you find one false, say at which input.
  Laid BY PROGRAM, IN A SANDBOX (cutbox-rows.mjs): the forced cells as the released guide's own fill.sh prints them over the translation f71245092ced3965… (all of the seat's roots in one cut). By AI agents, Wed Nov 11 2026. No macro, syntax, notation, axiom, sorry.
-/
import Derived.Test.YtmcelldklmjlkaaDoorChecked
import GoSem.Claim
import GoSem.ClaimJoined
import GoSem.ClaimMapViews
import Derived.JoinedTies
import Derived.KernelRfl
namespace Go.Proofs.YtmcelldklmjlkaaDoor
/- THE CELL 'sum', in the pinned program and in every row, IS THE sha256 OF THE DUMP (.gsa) THAT YtmcelldklmjlkaaDoorProg.lean LOADS. Nothing in Lean hashes anything: it is a label: what it is worth is what the hold of that sum in a sandbox is worth. -/
noncomputable def Tryd.pinned : Pinned := { name := "ytmcelldklmjlkaadoor", sum := "f71245092ced396570fba3881dc18c49f5303266dfdfc859e5b36d51076106b1", checked := Tryd.checked }
namespace Rows
def none {H : Type} : Left H := { results := [], args := [] }

/- WHAT THE LISTED PACKAGE-LEVEL VARIABLES READ AS WHEN THE CALL BEGINS. Each datum BY PROGRAM (the guide's laid-datum.mjs) off the statement by which the dump's own 'gosem.cut.vars' lays the variable. In a bare row this is a premise. The card (YtmcelldklmjlkaaDoorCards.lean) ties it to the program's text. -/
def laid_errors_errorType {H : Type} : DataW H := .iface "internal/reflectlite.rtype" (.agg [.ptr (.lit (.string [101, 114, 114, 111, 114]))])

/-- 'empennagelaw17.SampleEmpty': WHATEVER THE INPUT: true; the input reads as it did. -/
def sampleEmptySpec : ChangeSpec := { name := "sampleEmpty", fn := fun _ => fun
  | [d1, d2, d3] => { results := [.lit (.bool true)], args := [d1, d2, d3] }
  | _ => none }
def sampleEmptyRow : OpenClaim := { program := "ytmcelldklmjlkaadoor", sum := "f71245092ced396570fba3881dc18c49f5303266dfdfc859e5b36d51076106b1", func := "empennage/empennagelaw17.SampleEmpty", spec := "sampleEmpty", inPlace := ["internal/reflectlite.ValueOf", "(internal/reflectlite.Value).Type", "(internal/reflectlite.Value).IsNil", "internal/reflectlite.TypeOf", "(internal/reflectlite.Value).Elem", "(internal/reflectlite.Value).Set"], unfollowed := true, recurses := true, named := ["errors.errorType"], apart := false, laid := [("errors.errorType", laid_errors_errorType)] }
def SampleEmptySaid : Prop := sampleEmptyRow.holds Tryd.pinned (OpenSpec.ofChange sampleEmptySpec)

/-- ITS FALSE NEIGHBOUR: 'it returns false'. Refute it at one input. -/
def sampleEmptyWrong : ChangeSpec := { name := "sampleEmpty", fn := fun _ => fun
  | [d1, d2, d3] => { results := [.lit (.bool false)], args := [d1, d2, d3] }
  | _ => none }
def SampleEmptyWrongFalsely : Prop := sampleEmptyRow.holds Tryd.pinned (OpenSpec.ofChange sampleEmptyWrong)

/-- 'empennagelaw17.SamplePlays': WHATEVER THE INPUT: true; the input reads as it did. -/
def samplePlaysSpec : ChangeSpec := { name := "samplePlays", fn := fun _ => fun
  | [d1, d2] => { results := [.lit (.bool true)], args := [d1, d2] }
  | _ => none }
def samplePlaysRow : OpenClaim := { program := "ytmcelldklmjlkaadoor", sum := "f71245092ced396570fba3881dc18c49f5303266dfdfc859e5b36d51076106b1", func := "empennage/empennagelaw17.SamplePlays", spec := "samplePlays", inPlace := ["internal/reflectlite.ValueOf", "(internal/reflectlite.Value).Type", "(internal/reflectlite.Value).IsNil", "internal/reflectlite.TypeOf", "(internal/reflectlite.Value).Elem", "(internal/reflectlite.Value).Set"], unfollowed := true, recurses := true, named := ["errors.errorType"], apart := false, laid := [("errors.errorType", laid_errors_errorType)] }
def SamplePlaysSaid : Prop := samplePlaysRow.holds Tryd.pinned (OpenSpec.ofChange samplePlaysSpec)

/-- ITS FALSE NEIGHBOUR: 'it returns false'. Refute it at one input. -/
def samplePlaysWrong : ChangeSpec := { name := "samplePlays", fn := fun _ => fun
  | [d1, d2] => { results := [.lit (.bool false)], args := [d1, d2] }
  | _ => none }
def SamplePlaysWrongFalsely : Prop := samplePlaysRow.holds Tryd.pinned (OpenSpec.ofChange samplePlaysWrong)

/-- 'empennagelaw17.SampleForward': WHATEVER THE INPUT: true; the input reads as it did. -/
def sampleForwardSpec : ChangeSpec := { name := "sampleForward", fn := fun _ => fun
  | [d1, d2] => { results := [.lit (.bool true)], args := [d1, d2] }
  | _ => none }
def sampleForwardRow : OpenClaim := { program := "ytmcelldklmjlkaadoor", sum := "f71245092ced396570fba3881dc18c49f5303266dfdfc859e5b36d51076106b1", func := "empennage/empennagelaw17.SampleForward", spec := "sampleForward", inPlace := ["internal/reflectlite.ValueOf", "(internal/reflectlite.Value).Type", "(internal/reflectlite.Value).IsNil", "internal/reflectlite.TypeOf", "(internal/reflectlite.Value).Elem", "(internal/reflectlite.Value).Set"], unfollowed := true, recurses := true, named := ["errors.errorType"], apart := false, laid := [("errors.errorType", laid_errors_errorType)] }
def SampleForwardSaid : Prop := sampleForwardRow.holds Tryd.pinned (OpenSpec.ofChange sampleForwardSpec)

/-- ITS FALSE NEIGHBOUR: 'it returns false'. Refute it at one input. -/
def sampleForwardWrong : ChangeSpec := { name := "sampleForward", fn := fun _ => fun
  | [d1, d2] => { results := [.lit (.bool false)], args := [d1, d2] }
  | _ => none }
def SampleForwardWrongFalsely : Prop := sampleForwardRow.holds Tryd.pinned (OpenSpec.ofChange sampleForwardWrong)

/-- 'empennagelaw17.SampleWhole': WHATEVER THE INPUT: true; the input reads as it did. -/
def sampleWholeSpec : ChangeSpec := { name := "sampleWhole", fn := fun _ => fun
  | [d1, d2] => { results := [.lit (.bool true)], args := [d1, d2] }
  | _ => none }
def sampleWholeRow : OpenClaim := { program := "ytmcelldklmjlkaadoor", sum := "f71245092ced396570fba3881dc18c49f5303266dfdfc859e5b36d51076106b1", func := "empennage/empennagelaw17.SampleWhole", spec := "sampleWhole", inPlace := ["internal/reflectlite.ValueOf", "(internal/reflectlite.Value).Type", "(internal/reflectlite.Value).IsNil", "internal/reflectlite.TypeOf", "(internal/reflectlite.Value).Elem", "(internal/reflectlite.Value).Set"], unfollowed := true, recurses := true, named := ["errors.errorType"], apart := false, laid := [("errors.errorType", laid_errors_errorType)] }
def SampleWholeSaid : Prop := sampleWholeRow.holds Tryd.pinned (OpenSpec.ofChange sampleWholeSpec)

/-- ITS FALSE NEIGHBOUR: 'it returns false'. Refute it at one input. -/
def sampleWholeWrong : ChangeSpec := { name := "sampleWhole", fn := fun _ => fun
  | [d1, d2] => { results := [.lit (.bool false)], args := [d1, d2] }
  | _ => none }
def SampleWholeWrongFalsely : Prop := sampleWholeRow.holds Tryd.pinned (OpenSpec.ofChange sampleWholeWrong)

/-- 'empennagelaw17.SampleOdd': WHATEVER THE INPUT: true; the input reads as it did. -/
def sampleOddSpec : ChangeSpec := { name := "sampleOdd", fn := fun _ => fun
  | [d1, d2, d3] => { results := [.lit (.bool true)], args := [d1, d2, d3] }
  | _ => none }
def sampleOddRow : OpenClaim := { program := "ytmcelldklmjlkaadoor", sum := "f71245092ced396570fba3881dc18c49f5303266dfdfc859e5b36d51076106b1", func := "empennage/empennagelaw17.SampleOdd", spec := "sampleOdd", inPlace := ["internal/reflectlite.ValueOf", "(internal/reflectlite.Value).Type", "(internal/reflectlite.Value).IsNil", "internal/reflectlite.TypeOf", "(internal/reflectlite.Value).Elem", "(internal/reflectlite.Value).Set"], unfollowed := true, recurses := true, named := ["errors.errorType"], apart := false, laid := [("errors.errorType", laid_errors_errorType)] }
def SampleOddSaid : Prop := sampleOddRow.holds Tryd.pinned (OpenSpec.ofChange sampleOddSpec)

/-- ITS FALSE NEIGHBOUR: 'it returns false'. Refute it at one input. -/
def sampleOddWrong : ChangeSpec := { name := "sampleOdd", fn := fun _ => fun
  | [d1, d2, d3] => { results := [.lit (.bool false)], args := [d1, d2, d3] }
  | _ => none }
def SampleOddWrongFalsely : Prop := sampleOddRow.holds Tryd.pinned (OpenSpec.ofChange sampleOddWrong)

/- THE SECOND FORM. 'bulk': how many values and letters a reading holds, each counted each time it is reached (what is shared counts as often as it is met; a slice's spare places count too). A statement '..UptoSaid' is the law's where the arguments, and the package variables that the reading takes, are together of bulk at most 1048576: NARROWER than '..Said'. Prove '..Said' where nothing that the law and all that it calls make is longer than what came in: it says more and counts as full. Else prove '..UptoSaid'. A law counts once. -/
mutual
def uptoBulk {H : Type} : DataW H → Nat
  | .lit (.string bytes) => bytes.length + 1
  | .lit _ => 1
  | .nil => 1
  | .ptr d => uptoBulk d + 1
  | .slice elems spare => uptoBulkAll elems + uptoBulkAll spare + 1
  | .agg parts => uptoBulkAll parts + 1
  | .iface _ d => uptoBulk d + 1
  | .map entries => uptoBulkEntries entries + 1
  | .held _ => 1
def uptoBulkAll {H : Type} : List (DataW H) → Nat
  | [] => 0
  | d :: r => uptoBulk d + uptoBulkAll r
def uptoBulkEntries {H : Type} : List (Lit × DataW H) → Nat
  | [] => 0
  | x :: r => uptoBulkEntry x + uptoBulkEntries r
def uptoBulkEntry {H : Type} : Lit × DataW H → Nat
  | (.string bytes, d) => bytes.length + uptoBulk d + 1
  | (_, d) => uptoBulk d + 1
 end
def uptoSmall : (H : Type) → List (DataW H) → Bool := fun _ ds => decide (uptoBulkAll ds ≤ 1048576)
def OpenSpec.upto (s : _root_.Go.ChangeSpec) : _root_.Go.OpenSpec := { _root_.Go.OpenSpec.ofChange s with cond := some uptoSmall }

/-- 'empennagelaw17.SampleEmpty', WHERE WHAT IT READS IS OF BULK AT MOST 1048576: true; the input reads as it did. -/
def sampleEmptyUptoRow : OpenClaim := { program := "ytmcelldklmjlkaadoor", sum := "f71245092ced396570fba3881dc18c49f5303266dfdfc859e5b36d51076106b1", func := "empennage/empennagelaw17.SampleEmpty", spec := "sampleEmpty", inPlace := ["internal/reflectlite.ValueOf", "(internal/reflectlite.Value).Type", "(internal/reflectlite.Value).IsNil", "internal/reflectlite.TypeOf", "(internal/reflectlite.Value).Elem", "(internal/reflectlite.Value).Set"], unfollowed := true, recurses := true, named := ["errors.errorType"], apart := false, laid := [("errors.errorType", laid_errors_errorType)], narrowed := true }
def SampleEmptyUptoSaid : Prop := sampleEmptyUptoRow.holds Tryd.pinned (OpenSpec.upto sampleEmptySpec)

/-- 'empennagelaw17.SamplePlays', WHERE WHAT IT READS IS OF BULK AT MOST 1048576: true; the input reads as it did. -/
def samplePlaysUptoRow : OpenClaim := { program := "ytmcelldklmjlkaadoor", sum := "f71245092ced396570fba3881dc18c49f5303266dfdfc859e5b36d51076106b1", func := "empennage/empennagelaw17.SamplePlays", spec := "samplePlays", inPlace := ["internal/reflectlite.ValueOf", "(internal/reflectlite.Value).Type", "(internal/reflectlite.Value).IsNil", "internal/reflectlite.TypeOf", "(internal/reflectlite.Value).Elem", "(internal/reflectlite.Value).Set"], unfollowed := true, recurses := true, named := ["errors.errorType"], apart := false, laid := [("errors.errorType", laid_errors_errorType)], narrowed := true }
def SamplePlaysUptoSaid : Prop := samplePlaysUptoRow.holds Tryd.pinned (OpenSpec.upto samplePlaysSpec)

/-- 'empennagelaw17.SampleForward', WHERE WHAT IT READS IS OF BULK AT MOST 1048576: true; the input reads as it did. -/
def sampleForwardUptoRow : OpenClaim := { program := "ytmcelldklmjlkaadoor", sum := "f71245092ced396570fba3881dc18c49f5303266dfdfc859e5b36d51076106b1", func := "empennage/empennagelaw17.SampleForward", spec := "sampleForward", inPlace := ["internal/reflectlite.ValueOf", "(internal/reflectlite.Value).Type", "(internal/reflectlite.Value).IsNil", "internal/reflectlite.TypeOf", "(internal/reflectlite.Value).Elem", "(internal/reflectlite.Value).Set"], unfollowed := true, recurses := true, named := ["errors.errorType"], apart := false, laid := [("errors.errorType", laid_errors_errorType)], narrowed := true }
def SampleForwardUptoSaid : Prop := sampleForwardUptoRow.holds Tryd.pinned (OpenSpec.upto sampleForwardSpec)

/-- 'empennagelaw17.SampleWhole', WHERE WHAT IT READS IS OF BULK AT MOST 1048576: true; the input reads as it did. -/
def sampleWholeUptoRow : OpenClaim := { program := "ytmcelldklmjlkaadoor", sum := "f71245092ced396570fba3881dc18c49f5303266dfdfc859e5b36d51076106b1", func := "empennage/empennagelaw17.SampleWhole", spec := "sampleWhole", inPlace := ["internal/reflectlite.ValueOf", "(internal/reflectlite.Value).Type", "(internal/reflectlite.Value).IsNil", "internal/reflectlite.TypeOf", "(internal/reflectlite.Value).Elem", "(internal/reflectlite.Value).Set"], unfollowed := true, recurses := true, named := ["errors.errorType"], apart := false, laid := [("errors.errorType", laid_errors_errorType)], narrowed := true }
def SampleWholeUptoSaid : Prop := sampleWholeUptoRow.holds Tryd.pinned (OpenSpec.upto sampleWholeSpec)

/-- 'empennagelaw17.SampleOdd', WHERE WHAT IT READS IS OF BULK AT MOST 1048576: true; the input reads as it did. -/
def sampleOddUptoRow : OpenClaim := { program := "ytmcelldklmjlkaadoor", sum := "f71245092ced396570fba3881dc18c49f5303266dfdfc859e5b36d51076106b1", func := "empennage/empennagelaw17.SampleOdd", spec := "sampleOdd", inPlace := ["internal/reflectlite.ValueOf", "(internal/reflectlite.Value).Type", "(internal/reflectlite.Value).IsNil", "internal/reflectlite.TypeOf", "(internal/reflectlite.Value).Elem", "(internal/reflectlite.Value).Set"], unfollowed := true, recurses := true, named := ["errors.errorType"], apart := false, laid := [("errors.errorType", laid_errors_errorType)], narrowed := true }
def SampleOddUptoSaid : Prop := sampleOddUptoRow.holds Tryd.pinned (OpenSpec.upto sampleOddSpec)

end Rows
end Go.Proofs.YtmcelldklmjlkaaDoor
