/-
  NARROWER THAN 'FOR EVERY INPUT', by the rows' own cells (each row's printed sentence says how): FourWhole: laid · FourForward: laid · FourAlone: laid · FourPlays: laid · FourOther: laid · FourOdd: laid.
  DERIVED. THE GIVEN ROWS OF THIS SEAT. 6 by the template 'for every input the law returns true; each argument reads behind the call as it read before'; 0 by the template 'total and deterministic' (their statements: YthpggeiacbdakaaDoorTotals.lean).
  GIVEN WITH THE SEED: the statements are not yours to turn. If you find one false, say at which input.
  Laid BY PROGRAM, IN A SANDBOX (cutbox-rows.mjs): the forced cells as the released guide's own fill.sh prints them over the translation 9dcf1c2fc1e69e38… (all of the seat's roots in one cut). By AI agents, Wed Nov 11 2026. No macro, syntax, notation, axiom, sorry.
-/
import Derived.Test.YthpggeiacbdakaaDoorChecked
import GoSem.Claim
import GoSem.ClaimJoined
import GoSem.ClaimMapViews
import Derived.JoinedTies
import Derived.KernelRfl
namespace Go.Proofs.YthpggeiacbdakaaDoor
/- THE CELL 'sum', in the pinned program and in every row, IS THE sha256 OF THE DUMP (.gsa) THAT YthpggeiacbdakaaDoorProg.lean LOADS. Nothing in Lean hashes anything: it is a label: what it is worth is what the hold of that sum in a sandbox is worth. -/
noncomputable def Tryd.pinned : Pinned := { name := "ythpggeiacbdakaadoor", sum := "9dcf1c2fc1e69e38062b21d8fa84db2989152b8c545849a105f0a4e27567a62b", checked := Tryd.checked }
namespace Rows
def none {H : Type} : Left H := { results := [], args := [] }

/- WHAT THE LISTED PACKAGE-LEVEL VARIABLES READ AS WHEN THE CALL BEGINS. Each datum BY PROGRAM (the guide's laid-datum.mjs) off the statement by which the dump's own 'gosem.cut.vars' lays the variable. In a bare row this is a premise. The card (YthpggeiacbdakaaDoorCards.lean) ties it to the program's text. -/
def laid_errors_errorType {H : Type} : DataW H := .iface "internal/reflectlite.rtype" (.agg [.ptr (.lit (.string [101, 114, 114, 111, 114]))])

/-- 'empennagelaw06.FourWhole': WHATEVER THE INPUT: true; the input reads as it did. -/
def fourWholeSpec : ChangeSpec := { name := "fourWhole", fn := fun _ => fun
  | [d1, d2] => { results := [.lit (.bool true)], args := [d1, d2] }
  | _ => none }
def fourWholeRow : OpenClaim := { program := "ythpggeiacbdakaadoor", sum := "9dcf1c2fc1e69e38062b21d8fa84db2989152b8c545849a105f0a4e27567a62b", func := "empennage/empennagelaw06.FourWhole", spec := "fourWhole", inPlace := ["internal/reflectlite.ValueOf", "(internal/reflectlite.Value).Type", "(internal/reflectlite.Value).IsNil", "internal/reflectlite.TypeOf", "(internal/reflectlite.Value).Elem", "(internal/reflectlite.Value).Set"], unfollowed := true, recurses := true, named := ["errors.errorType"], apart := false, laid := [("errors.errorType", laid_errors_errorType)] }
def FourWholeSaid : Prop := fourWholeRow.holds Tryd.pinned (OpenSpec.ofChange fourWholeSpec)

/-- ITS FALSE NEIGHBOUR: 'it returns false'. Refute it at one input. -/
def fourWholeWrong : ChangeSpec := { name := "fourWhole", fn := fun _ => fun
  | [d1, d2] => { results := [.lit (.bool false)], args := [d1, d2] }
  | _ => none }
def FourWholeWrongFalsely : Prop := fourWholeRow.holds Tryd.pinned (OpenSpec.ofChange fourWholeWrong)

/-- 'empennagelaw06.FourForward': WHATEVER THE INPUT: true; the input reads as it did. -/
def fourForwardSpec : ChangeSpec := { name := "fourForward", fn := fun _ => fun
  | [d1, d2] => { results := [.lit (.bool true)], args := [d1, d2] }
  | _ => none }
def fourForwardRow : OpenClaim := { program := "ythpggeiacbdakaadoor", sum := "9dcf1c2fc1e69e38062b21d8fa84db2989152b8c545849a105f0a4e27567a62b", func := "empennage/empennagelaw06.FourForward", spec := "fourForward", inPlace := ["internal/reflectlite.ValueOf", "(internal/reflectlite.Value).Type", "(internal/reflectlite.Value).IsNil", "internal/reflectlite.TypeOf", "(internal/reflectlite.Value).Elem", "(internal/reflectlite.Value).Set"], unfollowed := true, recurses := true, named := ["errors.errorType"], apart := false, laid := [("errors.errorType", laid_errors_errorType)] }
def FourForwardSaid : Prop := fourForwardRow.holds Tryd.pinned (OpenSpec.ofChange fourForwardSpec)

/-- ITS FALSE NEIGHBOUR: 'it returns false'. Refute it at one input. -/
def fourForwardWrong : ChangeSpec := { name := "fourForward", fn := fun _ => fun
  | [d1, d2] => { results := [.lit (.bool false)], args := [d1, d2] }
  | _ => none }
def FourForwardWrongFalsely : Prop := fourForwardRow.holds Tryd.pinned (OpenSpec.ofChange fourForwardWrong)

/-- 'empennagelaw06.FourAlone': WHATEVER THE INPUT: true; the input reads as it did. -/
def fourAloneSpec : ChangeSpec := { name := "fourAlone", fn := fun _ => fun
  | [d1, d2] => { results := [.lit (.bool true)], args := [d1, d2] }
  | _ => none }
def fourAloneRow : OpenClaim := { program := "ythpggeiacbdakaadoor", sum := "9dcf1c2fc1e69e38062b21d8fa84db2989152b8c545849a105f0a4e27567a62b", func := "empennage/empennagelaw06.FourAlone", spec := "fourAlone", inPlace := ["internal/reflectlite.ValueOf", "(internal/reflectlite.Value).Type", "(internal/reflectlite.Value).IsNil", "internal/reflectlite.TypeOf", "(internal/reflectlite.Value).Elem", "(internal/reflectlite.Value).Set"], unfollowed := true, recurses := true, named := ["errors.errorType"], apart := false, laid := [("errors.errorType", laid_errors_errorType)] }
def FourAloneSaid : Prop := fourAloneRow.holds Tryd.pinned (OpenSpec.ofChange fourAloneSpec)

/-- ITS FALSE NEIGHBOUR: 'it returns false'. Refute it at one input. -/
def fourAloneWrong : ChangeSpec := { name := "fourAlone", fn := fun _ => fun
  | [d1, d2] => { results := [.lit (.bool false)], args := [d1, d2] }
  | _ => none }
def FourAloneWrongFalsely : Prop := fourAloneRow.holds Tryd.pinned (OpenSpec.ofChange fourAloneWrong)

/-- 'empennagelaw06.FourPlays': WHATEVER THE INPUT: true; the input reads as it did. -/
def fourPlaysSpec : ChangeSpec := { name := "fourPlays", fn := fun _ => fun
  | [d1, d2] => { results := [.lit (.bool true)], args := [d1, d2] }
  | _ => none }
def fourPlaysRow : OpenClaim := { program := "ythpggeiacbdakaadoor", sum := "9dcf1c2fc1e69e38062b21d8fa84db2989152b8c545849a105f0a4e27567a62b", func := "empennage/empennagelaw06.FourPlays", spec := "fourPlays", inPlace := ["internal/reflectlite.ValueOf", "(internal/reflectlite.Value).Type", "(internal/reflectlite.Value).IsNil", "internal/reflectlite.TypeOf", "(internal/reflectlite.Value).Elem", "(internal/reflectlite.Value).Set"], unfollowed := true, recurses := true, named := ["errors.errorType"], apart := false, laid := [("errors.errorType", laid_errors_errorType)] }
def FourPlaysSaid : Prop := fourPlaysRow.holds Tryd.pinned (OpenSpec.ofChange fourPlaysSpec)

/-- ITS FALSE NEIGHBOUR: 'it returns false'. Refute it at one input. -/
def fourPlaysWrong : ChangeSpec := { name := "fourPlays", fn := fun _ => fun
  | [d1, d2] => { results := [.lit (.bool false)], args := [d1, d2] }
  | _ => none }
def FourPlaysWrongFalsely : Prop := fourPlaysRow.holds Tryd.pinned (OpenSpec.ofChange fourPlaysWrong)

/-- 'empennagelaw06.FourOther': WHATEVER THE INPUT: true; the input reads as it did. -/
def fourOtherSpec : ChangeSpec := { name := "fourOther", fn := fun _ => fun
  | [d] => { results := [.lit (.bool true)], args := [d] }
  | _ => none }
def fourOtherRow : OpenClaim := { program := "ythpggeiacbdakaadoor", sum := "9dcf1c2fc1e69e38062b21d8fa84db2989152b8c545849a105f0a4e27567a62b", func := "empennage/empennagelaw06.FourOther", spec := "fourOther", inPlace := ["internal/reflectlite.ValueOf", "(internal/reflectlite.Value).Type", "(internal/reflectlite.Value).IsNil", "internal/reflectlite.TypeOf", "(internal/reflectlite.Value).Elem", "(internal/reflectlite.Value).Set"], unfollowed := true, recurses := true, named := ["errors.errorType"], apart := false, laid := [("errors.errorType", laid_errors_errorType)] }
def FourOtherSaid : Prop := fourOtherRow.holds Tryd.pinned (OpenSpec.ofChange fourOtherSpec)

/-- ITS FALSE NEIGHBOUR: 'it returns false'. Refute it at one input. -/
def fourOtherWrong : ChangeSpec := { name := "fourOther", fn := fun _ => fun
  | [d] => { results := [.lit (.bool false)], args := [d] }
  | _ => none }
def FourOtherWrongFalsely : Prop := fourOtherRow.holds Tryd.pinned (OpenSpec.ofChange fourOtherWrong)

/-- 'empennagelaw06.FourOdd': WHATEVER THE INPUT: true; the input reads as it did. -/
def fourOddSpec : ChangeSpec := { name := "fourOdd", fn := fun _ => fun
  | [d1, d2, d3] => { results := [.lit (.bool true)], args := [d1, d2, d3] }
  | _ => none }
def fourOddRow : OpenClaim := { program := "ythpggeiacbdakaadoor", sum := "9dcf1c2fc1e69e38062b21d8fa84db2989152b8c545849a105f0a4e27567a62b", func := "empennage/empennagelaw06.FourOdd", spec := "fourOdd", inPlace := ["internal/reflectlite.ValueOf", "(internal/reflectlite.Value).Type", "(internal/reflectlite.Value).IsNil", "internal/reflectlite.TypeOf", "(internal/reflectlite.Value).Elem", "(internal/reflectlite.Value).Set"], unfollowed := true, recurses := true, named := ["errors.errorType"], apart := false, laid := [("errors.errorType", laid_errors_errorType)] }
def FourOddSaid : Prop := fourOddRow.holds Tryd.pinned (OpenSpec.ofChange fourOddSpec)

/-- ITS FALSE NEIGHBOUR: 'it returns false'. Refute it at one input. -/
def fourOddWrong : ChangeSpec := { name := "fourOdd", fn := fun _ => fun
  | [d1, d2, d3] => { results := [.lit (.bool false)], args := [d1, d2, d3] }
  | _ => none }
def FourOddWrongFalsely : Prop := fourOddRow.holds Tryd.pinned (OpenSpec.ofChange fourOddWrong)

/- THE SECOND FORM. 'bulk': how many values and letters a reading holds, each counted each time it is reached (what is shared counts as often as it is met; a slice's spare places count too). A statement '..UptoSaid' is the law's where the arguments, and the package variables that the reading takes, are together of bulk at most 1048576: NARROWER than '..Said'. Prove '..Said' where nothing that the law and all that it calls make is longer than what came in: it says more and counts as full. Else prove '..UptoSaid'. A law counts once. -/
mutual
def uptoBulk {H : Type} : DataW H → Nat
  | .lit (.string bytes) => bytes.length + 1
  | .lit _ => 1
  | .nil => 1
  | .ptr d => uptoBulk d + 1
  | .slice elems spare => uptoBulkAll elems + uptoBulkAll spare + 1
  | .agg parts => uptoBulkAll parts + 1
  | .iface _ d => uptoBulk d + 1
  | .map entries => uptoBulkEntries entries + 1
  | .held _ => 1
def uptoBulkAll {H : Type} : List (DataW H) → Nat
  | [] => 0
  | d :: r => uptoBulk d + uptoBulkAll r
def uptoBulkEntries {H : Type} : List (Lit × DataW H) → Nat
  | [] => 0
  | x :: r => uptoBulkEntry x + uptoBulkEntries r
def uptoBulkEntry {H : Type} : Lit × DataW H → Nat
  | (.string bytes, d) => bytes.length + uptoBulk d + 1
  | (_, d) => uptoBulk d + 1
 end
def uptoSmall : (H : Type) → List (DataW H) → Bool := fun _ ds => decide (uptoBulkAll ds ≤ 1048576)
def OpenSpec.upto (s : _root_.Go.ChangeSpec) : _root_.Go.OpenSpec := { _root_.Go.OpenSpec.ofChange s with cond := some uptoSmall }

/-- 'empennagelaw06.FourWhole', WHERE WHAT IT READS IS OF BULK AT MOST 1048576: true; the input reads as it did. -/
def fourWholeUptoRow : OpenClaim := { program := "ythpggeiacbdakaadoor", sum := "9dcf1c2fc1e69e38062b21d8fa84db2989152b8c545849a105f0a4e27567a62b", func := "empennage/empennagelaw06.FourWhole", spec := "fourWhole", inPlace := ["internal/reflectlite.ValueOf", "(internal/reflectlite.Value).Type", "(internal/reflectlite.Value).IsNil", "internal/reflectlite.TypeOf", "(internal/reflectlite.Value).Elem", "(internal/reflectlite.Value).Set"], unfollowed := true, recurses := true, named := ["errors.errorType"], apart := false, laid := [("errors.errorType", laid_errors_errorType)], narrowed := true }
def FourWholeUptoSaid : Prop := fourWholeUptoRow.holds Tryd.pinned (OpenSpec.upto fourWholeSpec)

/-- 'empennagelaw06.FourForward', WHERE WHAT IT READS IS OF BULK AT MOST 1048576: true; the input reads as it did. -/
def fourForwardUptoRow : OpenClaim := { program := "ythpggeiacbdakaadoor", sum := "9dcf1c2fc1e69e38062b21d8fa84db2989152b8c545849a105f0a4e27567a62b", func := "empennage/empennagelaw06.FourForward", spec := "fourForward", inPlace := ["internal/reflectlite.ValueOf", "(internal/reflectlite.Value).Type", "(internal/reflectlite.Value).IsNil", "internal/reflectlite.TypeOf", "(internal/reflectlite.Value).Elem", "(internal/reflectlite.Value).Set"], unfollowed := true, recurses := true, named := ["errors.errorType"], apart := false, laid := [("errors.errorType", laid_errors_errorType)], narrowed := true }
def FourForwardUptoSaid : Prop := fourForwardUptoRow.holds Tryd.pinned (OpenSpec.upto fourForwardSpec)

/-- 'empennagelaw06.FourAlone', WHERE WHAT IT READS IS OF BULK AT MOST 1048576: true; the input reads as it did. -/
def fourAloneUptoRow : OpenClaim := { program := "ythpggeiacbdakaadoor", sum := "9dcf1c2fc1e69e38062b21d8fa84db2989152b8c545849a105f0a4e27567a62b", func := "empennage/empennagelaw06.FourAlone", spec := "fourAlone", inPlace := ["internal/reflectlite.ValueOf", "(internal/reflectlite.Value).Type", "(internal/reflectlite.Value).IsNil", "internal/reflectlite.TypeOf", "(internal/reflectlite.Value).Elem", "(internal/reflectlite.Value).Set"], unfollowed := true, recurses := true, named := ["errors.errorType"], apart := false, laid := [("errors.errorType", laid_errors_errorType)], narrowed := true }
def FourAloneUptoSaid : Prop := fourAloneUptoRow.holds Tryd.pinned (OpenSpec.upto fourAloneSpec)

/-- 'empennagelaw06.FourPlays', WHERE WHAT IT READS IS OF BULK AT MOST 1048576: true; the input reads as it did. -/
def fourPlaysUptoRow : OpenClaim := { program := "ythpggeiacbdakaadoor", sum := "9dcf1c2fc1e69e38062b21d8fa84db2989152b8c545849a105f0a4e27567a62b", func := "empennage/empennagelaw06.FourPlays", spec := "fourPlays", inPlace := ["internal/reflectlite.ValueOf", "(internal/reflectlite.Value).Type", "(internal/reflectlite.Value).IsNil", "internal/reflectlite.TypeOf", "(internal/reflectlite.Value).Elem", "(internal/reflectlite.Value).Set"], unfollowed := true, recurses := true, named := ["errors.errorType"], apart := false, laid := [("errors.errorType", laid_errors_errorType)], narrowed := true }
def FourPlaysUptoSaid : Prop := fourPlaysUptoRow.holds Tryd.pinned (OpenSpec.upto fourPlaysSpec)

/-- 'empennagelaw06.FourOther', WHERE WHAT IT READS IS OF BULK AT MOST 1048576: true; the input reads as it did. -/
def fourOtherUptoRow : OpenClaim := { program := "ythpggeiacbdakaadoor", sum := "9dcf1c2fc1e69e38062b21d8fa84db2989152b8c545849a105f0a4e27567a62b", func := "empennage/empennagelaw06.FourOther", spec := "fourOther", inPlace := ["internal/reflectlite.ValueOf", "(internal/reflectlite.Value).Type", "(internal/reflectlite.Value).IsNil", "internal/reflectlite.TypeOf", "(internal/reflectlite.Value).Elem", "(internal/reflectlite.Value).Set"], unfollowed := true, recurses := true, named := ["errors.errorType"], apart := false, laid := [("errors.errorType", laid_errors_errorType)], narrowed := true }
def FourOtherUptoSaid : Prop := fourOtherUptoRow.holds Tryd.pinned (OpenSpec.upto fourOtherSpec)

/-- 'empennagelaw06.FourOdd', WHERE WHAT IT READS IS OF BULK AT MOST 1048576: true; the input reads as it did. -/
def fourOddUptoRow : OpenClaim := { program := "ythpggeiacbdakaadoor", sum := "9dcf1c2fc1e69e38062b21d8fa84db2989152b8c545849a105f0a4e27567a62b", func := "empennage/empennagelaw06.FourOdd", spec := "fourOdd", inPlace := ["internal/reflectlite.ValueOf", "(internal/reflectlite.Value).Type", "(internal/reflectlite.Value).IsNil", "internal/reflectlite.TypeOf", "(internal/reflectlite.Value).Elem", "(internal/reflectlite.Value).Set"], unfollowed := true, recurses := true, named := ["errors.errorType"], apart := false, laid := [("errors.errorType", laid_errors_errorType)], narrowed := true }
def FourOddUptoSaid : Prop := fourOddUptoRow.holds Tryd.pinned (OpenSpec.upto fourOddSpec)

end Rows
end Go.Proofs.YthpggeiacbdakaaDoor
