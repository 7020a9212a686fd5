/-
  NARROWER THAN 'FOR EVERY INPUT', by the rows' own cells (each row's printed sentence says how): HealthLines: laid · HealthLast: laid · HealthCounts: laid · HealthRow: laid · HealthPlays: laid · HealthNil: laid.
  DERIVED. THE GIVEN ROWS OF THIS SEAT. 6 by the template 'for every input the law returns true; each argument reads behind the call as it read before'; 0 by the template 'total and deterministic' (their statements: YtbnaehfgpilicaaDoorTotals.lean).
  GIVEN WITH THE SEED: the statements are not yours to turn. If you find one false, say at which input.
  Laid BY PROGRAM, IN A SANDBOX (cutbox-rows.mjs): the forced cells as the released guide's own fill.sh prints them over the translation 608d4909c6419017… (all of the seat's roots in one cut). By AI agents, Wed Nov 11 2026. No macro, syntax, notation, axiom, sorry.
-/
import Derived.Test.YtbnaehfgpilicaaDoorChecked
import GoSem.Claim
import GoSem.ClaimJoined
import GoSem.ClaimMapViews
import Derived.JoinedTies
import Derived.KernelRfl
namespace Go.Proofs.YtbnaehfgpilicaaDoor
/- THE CELL 'sum', in the pinned program and in every row, IS THE sha256 OF THE DUMP (.gsa) THAT YtbnaehfgpilicaaDoorProg.lean LOADS. Nothing in Lean hashes anything: it is a label: what it is worth is what the hold of that sum in a sandbox is worth. -/
noncomputable def Tryd.pinned : Pinned := { name := "ytbnaehfgpilicaadoor", sum := "608d4909c6419017e91b2160cfd03cd46cd0f05926236ff9b93271555a1360c1", checked := Tryd.checked }
namespace Rows
def none {H : Type} : Left H := { results := [], args := [] }

/- WHAT THE LISTED PACKAGE-LEVEL VARIABLES READ AS WHEN THE CALL BEGINS. Each datum BY PROGRAM (the guide's laid-datum.mjs) off the statement by which the dump's own 'gosem.cut.vars' lays the variable. In a bare row this is a premise. The card (YtbnaehfgpilicaaDoorCards.lean) ties it to the program's text. -/
def laid_math_bits_deBruijn32tab {H : Type} : DataW H := .agg [.lit (.int .u8 0), .lit (.int .u8 1), .lit (.int .u8 28), .lit (.int .u8 2), .lit (.int .u8 29), .lit (.int .u8 14), .lit (.int .u8 24), .lit (.int .u8 3), .lit (.int .u8 30), .lit (.int .u8 22), .lit (.int .u8 20), .lit (.int .u8 15), .lit (.int .u8 25), .lit (.int .u8 17), .lit (.int .u8 4), .lit (.int .u8 8), .lit (.int .u8 31), .lit (.int .u8 27), .lit (.int .u8 13), .lit (.int .u8 23), .lit (.int .u8 21), .lit (.int .u8 19), .lit (.int .u8 16), .lit (.int .u8 7), .lit (.int .u8 26), .lit (.int .u8 12), .lit (.int .u8 18), .lit (.int .u8 6), .lit (.int .u8 11), .lit (.int .u8 5), .lit (.int .u8 10), .lit (.int .u8 9)]
def laid_math_bits_deBruijn64tab {H : Type} : DataW H := .agg [.lit (.int .u8 0), .lit (.int .u8 1), .lit (.int .u8 56), .lit (.int .u8 2), .lit (.int .u8 57), .lit (.int .u8 49), .lit (.int .u8 28), .lit (.int .u8 3), .lit (.int .u8 61), .lit (.int .u8 58), .lit (.int .u8 42), .lit (.int .u8 50), .lit (.int .u8 38), .lit (.int .u8 29), .lit (.int .u8 17), .lit (.int .u8 4), .lit (.int .u8 62), .lit (.int .u8 47), .lit (.int .u8 59), .lit (.int .u8 36), .lit (.int .u8 45), .lit (.int .u8 43), .lit (.int .u8 51), .lit (.int .u8 22), .lit (.int .u8 53), .lit (.int .u8 39), .lit (.int .u8 33), .lit (.int .u8 30), .lit (.int .u8 24), .lit (.int .u8 18), .lit (.int .u8 12), .lit (.int .u8 5), .lit (.int .u8 63), .lit (.int .u8 55), .lit (.int .u8 48), .lit (.int .u8 27), .lit (.int .u8 60), .lit (.int .u8 41), .lit (.int .u8 37), .lit (.int .u8 16), .lit (.int .u8 46), .lit (.int .u8 35), .lit (.int .u8 44), .lit (.int .u8 21), .lit (.int .u8 52), .lit (.int .u8 32), .lit (.int .u8 23), .lit (.int .u8 11), .lit (.int .u8 54), .lit (.int .u8 26), .lit (.int .u8 40), .lit (.int .u8 15), .lit (.int .u8 34), .lit (.int .u8 20), .lit (.int .u8 31), .lit (.int .u8 10), .lit (.int .u8 25), .lit (.int .u8 14), .lit (.int .u8 19), .lit (.int .u8 9), .lit (.int .u8 13), .lit (.int .u8 8), .lit (.int .u8 7), .lit (.int .u8 6)]
def laid_internal_strconv_uint64pow10 {H : Type} : DataW H := .agg [.lit (.int .u64 1), .lit (.int .u64 10), .lit (.int .u64 100), .lit (.int .u64 1000), .lit (.int .u64 10000), .lit (.int .u64 100000), .lit (.int .u64 1000000), .lit (.int .u64 10000000), .lit (.int .u64 100000000), .lit (.int .u64 1000000000), .lit (.int .u64 10000000000), .lit (.int .u64 100000000000), .lit (.int .u64 1000000000000), .lit (.int .u64 10000000000000), .lit (.int .u64 100000000000000), .lit (.int .u64 1000000000000000), .lit (.int .u64 10000000000000000), .lit (.int .u64 100000000000000000), .lit (.int .u64 1000000000000000000), .lit (.int .u64 10000000000000000000)]

/-- 'empennagelaw16.HealthLines': WHATEVER THE INPUT: true; the input reads as it did. -/
def healthLinesSpec : ChangeSpec := { name := "healthLines", fn := fun _ => fun
  | [d] => { results := [.lit (.bool true)], args := [d] }
  | _ => none }
def healthLinesRow : OpenClaim := { program := "ytbnaehfgpilicaadoor", sum := "608d4909c6419017e91b2160cfd03cd46cd0f05926236ff9b93271555a1360c1", func := "empennage/empennagelaw16.HealthLines", spec := "healthLines", inPlace := ["internal/abi.NoEscape", "internal/bytealg.MakeNoZero"], recurses := true, named := ["internal/strconv.uint64pow10", "math/bits.deBruijn32tab", "math/bits.deBruijn64tab"], apart := false, laid := [("math/bits.deBruijn32tab", laid_math_bits_deBruijn32tab), ("math/bits.deBruijn64tab", laid_math_bits_deBruijn64tab), ("internal/strconv.uint64pow10", laid_internal_strconv_uint64pow10)] }
def HealthLinesSaid : Prop := healthLinesRow.holds Tryd.pinned (OpenSpec.ofChange healthLinesSpec)

/-- ITS FALSE NEIGHBOUR: 'it returns false'. Refute it at one input. -/
def healthLinesWrong : ChangeSpec := { name := "healthLines", fn := fun _ => fun
  | [d] => { results := [.lit (.bool false)], args := [d] }
  | _ => none }
def HealthLinesWrongFalsely : Prop := healthLinesRow.holds Tryd.pinned (OpenSpec.ofChange healthLinesWrong)

/-- 'empennagelaw16.HealthLast': WHATEVER THE INPUT: true; the input reads as it did. -/
def healthLastSpec : ChangeSpec := { name := "healthLast", fn := fun _ => fun
  | [d] => { results := [.lit (.bool true)], args := [d] }
  | _ => none }
def healthLastRow : OpenClaim := { program := "ytbnaehfgpilicaadoor", sum := "608d4909c6419017e91b2160cfd03cd46cd0f05926236ff9b93271555a1360c1", func := "empennage/empennagelaw16.HealthLast", spec := "healthLast", inPlace := ["internal/abi.NoEscape", "internal/bytealg.MakeNoZero"], named := ["internal/strconv.uint64pow10", "math/bits.deBruijn32tab", "math/bits.deBruijn64tab"], apart := false, laid := [("math/bits.deBruijn32tab", laid_math_bits_deBruijn32tab), ("math/bits.deBruijn64tab", laid_math_bits_deBruijn64tab), ("internal/strconv.uint64pow10", laid_internal_strconv_uint64pow10)] }
def HealthLastSaid : Prop := healthLastRow.holds Tryd.pinned (OpenSpec.ofChange healthLastSpec)

/-- ITS FALSE NEIGHBOUR: 'it returns false'. Refute it at one input. -/
def healthLastWrong : ChangeSpec := { name := "healthLast", fn := fun _ => fun
  | [d] => { results := [.lit (.bool false)], args := [d] }
  | _ => none }
def HealthLastWrongFalsely : Prop := healthLastRow.holds Tryd.pinned (OpenSpec.ofChange healthLastWrong)

/-- 'empennagelaw16.HealthCounts': WHATEVER THE INPUT: true; the input reads as it did. -/
def healthCountsSpec : ChangeSpec := { name := "healthCounts", fn := fun _ => fun
  | [d] => { results := [.lit (.bool true)], args := [d] }
  | _ => none }
def healthCountsRow : OpenClaim := { program := "ytbnaehfgpilicaadoor", sum := "608d4909c6419017e91b2160cfd03cd46cd0f05926236ff9b93271555a1360c1", func := "empennage/empennagelaw16.HealthCounts", spec := "healthCounts", inPlace := ["internal/abi.NoEscape", "internal/bytealg.MakeNoZero"], named := ["internal/strconv.uint64pow10", "math/bits.deBruijn32tab", "math/bits.deBruijn64tab"], apart := false, laid := [("math/bits.deBruijn32tab", laid_math_bits_deBruijn32tab), ("math/bits.deBruijn64tab", laid_math_bits_deBruijn64tab), ("internal/strconv.uint64pow10", laid_internal_strconv_uint64pow10)] }
def HealthCountsSaid : Prop := healthCountsRow.holds Tryd.pinned (OpenSpec.ofChange healthCountsSpec)

/-- ITS FALSE NEIGHBOUR: 'it returns false'. Refute it at one input. -/
def healthCountsWrong : ChangeSpec := { name := "healthCounts", fn := fun _ => fun
  | [d] => { results := [.lit (.bool false)], args := [d] }
  | _ => none }
def HealthCountsWrongFalsely : Prop := healthCountsRow.holds Tryd.pinned (OpenSpec.ofChange healthCountsWrong)

/-- 'empennagelaw16.HealthRow': WHATEVER THE INPUT: true; the input reads as it did. -/
def healthRowSpec : ChangeSpec := { name := "healthRow", fn := fun _ => fun
  | [d] => { results := [.lit (.bool true)], args := [d] }
  | _ => none }
def healthRowRow : OpenClaim := { program := "ytbnaehfgpilicaadoor", sum := "608d4909c6419017e91b2160cfd03cd46cd0f05926236ff9b93271555a1360c1", func := "empennage/empennagelaw16.HealthRow", spec := "healthRow", inPlace := ["internal/abi.NoEscape", "internal/bytealg.MakeNoZero"], named := ["internal/strconv.uint64pow10", "math/bits.deBruijn32tab", "math/bits.deBruijn64tab"], apart := false, laid := [("math/bits.deBruijn32tab", laid_math_bits_deBruijn32tab), ("math/bits.deBruijn64tab", laid_math_bits_deBruijn64tab), ("internal/strconv.uint64pow10", laid_internal_strconv_uint64pow10)] }
def HealthRowSaid : Prop := healthRowRow.holds Tryd.pinned (OpenSpec.ofChange healthRowSpec)

/-- ITS FALSE NEIGHBOUR: 'it returns false'. Refute it at one input. -/
def healthRowWrong : ChangeSpec := { name := "healthRow", fn := fun _ => fun
  | [d] => { results := [.lit (.bool false)], args := [d] }
  | _ => none }
def HealthRowWrongFalsely : Prop := healthRowRow.holds Tryd.pinned (OpenSpec.ofChange healthRowWrong)

/-- 'empennagelaw16.HealthPlays': WHATEVER THE INPUT: true; the input reads as it did. -/
def healthPlaysSpec : ChangeSpec := { name := "healthPlays", fn := fun _ => fun
  | [d1, d2] => { results := [.lit (.bool true)], args := [d1, d2] }
  | _ => none }
def healthPlaysRow : OpenClaim := { program := "ytbnaehfgpilicaadoor", sum := "608d4909c6419017e91b2160cfd03cd46cd0f05926236ff9b93271555a1360c1", func := "empennage/empennagelaw16.HealthPlays", spec := "healthPlays", inPlace := ["internal/abi.NoEscape", "internal/bytealg.MakeNoZero"], named := ["internal/strconv.uint64pow10", "math/bits.deBruijn32tab", "math/bits.deBruijn64tab"], apart := false, laid := [("math/bits.deBruijn32tab", laid_math_bits_deBruijn32tab), ("math/bits.deBruijn64tab", laid_math_bits_deBruijn64tab), ("internal/strconv.uint64pow10", laid_internal_strconv_uint64pow10)] }
def HealthPlaysSaid : Prop := healthPlaysRow.holds Tryd.pinned (OpenSpec.ofChange healthPlaysSpec)

/-- ITS FALSE NEIGHBOUR: 'it returns false'. Refute it at one input. -/
def healthPlaysWrong : ChangeSpec := { name := "healthPlays", fn := fun _ => fun
  | [d1, d2] => { results := [.lit (.bool false)], args := [d1, d2] }
  | _ => none }
def HealthPlaysWrongFalsely : Prop := healthPlaysRow.holds Tryd.pinned (OpenSpec.ofChange healthPlaysWrong)

/-- 'empennagelaw16.HealthNil': WHATEVER THE INPUT: true; the input reads as it did. -/
def healthNilSpec : ChangeSpec := { name := "healthNil", fn := fun _ => fun
  | [d] => { results := [.lit (.bool true)], args := [d] }
  | _ => none }
def healthNilRow : OpenClaim := { program := "ytbnaehfgpilicaadoor", sum := "608d4909c6419017e91b2160cfd03cd46cd0f05926236ff9b93271555a1360c1", func := "empennage/empennagelaw16.HealthNil", spec := "healthNil", inPlace := ["internal/abi.NoEscape", "internal/bytealg.MakeNoZero"], named := ["internal/strconv.uint64pow10", "math/bits.deBruijn32tab", "math/bits.deBruijn64tab"], apart := false, laid := [("math/bits.deBruijn32tab", laid_math_bits_deBruijn32tab), ("math/bits.deBruijn64tab", laid_math_bits_deBruijn64tab), ("internal/strconv.uint64pow10", laid_internal_strconv_uint64pow10)] }
def HealthNilSaid : Prop := healthNilRow.holds Tryd.pinned (OpenSpec.ofChange healthNilSpec)

/-- ITS FALSE NEIGHBOUR: 'it returns false'. Refute it at one input. -/
def healthNilWrong : ChangeSpec := { name := "healthNil", fn := fun _ => fun
  | [d] => { results := [.lit (.bool false)], args := [d] }
  | _ => none }
def HealthNilWrongFalsely : Prop := healthNilRow.holds Tryd.pinned (OpenSpec.ofChange healthNilWrong)

/- THE SECOND FORM. 'bulk': how many values and letters a reading holds, each counted each time it is reached (what is shared counts as often as it is met; a slice's spare places count too). A statement '..UptoSaid' is the law's where the arguments, and the package variables that the reading takes, are together of bulk at most 1048576: NARROWER than '..Said'. Prove '..Said' where nothing that the law and all that it calls make is longer than what came in: it says more and counts as full. Else prove '..UptoSaid'. A law counts once. -/
mutual
def uptoBulk {H : Type} : DataW H → Nat
  | .lit (.string bytes) => bytes.length + 1
  | .lit _ => 1
  | .nil => 1
  | .ptr d => uptoBulk d + 1
  | .slice elems spare => uptoBulkAll elems + uptoBulkAll spare + 1
  | .agg parts => uptoBulkAll parts + 1
  | .iface _ d => uptoBulk d + 1
  | .map entries => uptoBulkEntries entries + 1
  | .held _ => 1
def uptoBulkAll {H : Type} : List (DataW H) → Nat
  | [] => 0
  | d :: r => uptoBulk d + uptoBulkAll r
def uptoBulkEntries {H : Type} : List (Lit × DataW H) → Nat
  | [] => 0
  | x :: r => uptoBulkEntry x + uptoBulkEntries r
def uptoBulkEntry {H : Type} : Lit × DataW H → Nat
  | (.string bytes, d) => bytes.length + uptoBulk d + 1
  | (_, d) => uptoBulk d + 1
 end
def uptoSmall : (H : Type) → List (DataW H) → Bool := fun _ ds => decide (uptoBulkAll ds ≤ 1048576)
def OpenSpec.upto (s : _root_.Go.ChangeSpec) : _root_.Go.OpenSpec := { _root_.Go.OpenSpec.ofChange s with cond := some uptoSmall }

/-- 'empennagelaw16.HealthLines', WHERE WHAT IT READS IS OF BULK AT MOST 1048576: true; the input reads as it did. -/
def healthLinesUptoRow : OpenClaim := { program := "ytbnaehfgpilicaadoor", sum := "608d4909c6419017e91b2160cfd03cd46cd0f05926236ff9b93271555a1360c1", func := "empennage/empennagelaw16.HealthLines", spec := "healthLines", inPlace := ["internal/abi.NoEscape", "internal/bytealg.MakeNoZero"], recurses := true, named := ["internal/strconv.uint64pow10", "math/bits.deBruijn32tab", "math/bits.deBruijn64tab"], apart := false, laid := [("math/bits.deBruijn32tab", laid_math_bits_deBruijn32tab), ("math/bits.deBruijn64tab", laid_math_bits_deBruijn64tab), ("internal/strconv.uint64pow10", laid_internal_strconv_uint64pow10)], narrowed := true }
def HealthLinesUptoSaid : Prop := healthLinesUptoRow.holds Tryd.pinned (OpenSpec.upto healthLinesSpec)

/-- 'empennagelaw16.HealthLast', WHERE WHAT IT READS IS OF BULK AT MOST 1048576: true; the input reads as it did. -/
def healthLastUptoRow : OpenClaim := { program := "ytbnaehfgpilicaadoor", sum := "608d4909c6419017e91b2160cfd03cd46cd0f05926236ff9b93271555a1360c1", func := "empennage/empennagelaw16.HealthLast", spec := "healthLast", inPlace := ["internal/abi.NoEscape", "internal/bytealg.MakeNoZero"], named := ["internal/strconv.uint64pow10", "math/bits.deBruijn32tab", "math/bits.deBruijn64tab"], apart := false, laid := [("math/bits.deBruijn32tab", laid_math_bits_deBruijn32tab), ("math/bits.deBruijn64tab", laid_math_bits_deBruijn64tab), ("internal/strconv.uint64pow10", laid_internal_strconv_uint64pow10)], narrowed := true }
def HealthLastUptoSaid : Prop := healthLastUptoRow.holds Tryd.pinned (OpenSpec.upto healthLastSpec)

/-- 'empennagelaw16.HealthCounts', WHERE WHAT IT READS IS OF BULK AT MOST 1048576: true; the input reads as it did. -/
def healthCountsUptoRow : OpenClaim := { program := "ytbnaehfgpilicaadoor", sum := "608d4909c6419017e91b2160cfd03cd46cd0f05926236ff9b93271555a1360c1", func := "empennage/empennagelaw16.HealthCounts", spec := "healthCounts", inPlace := ["internal/abi.NoEscape", "internal/bytealg.MakeNoZero"], named := ["internal/strconv.uint64pow10", "math/bits.deBruijn32tab", "math/bits.deBruijn64tab"], apart := false, laid := [("math/bits.deBruijn32tab", laid_math_bits_deBruijn32tab), ("math/bits.deBruijn64tab", laid_math_bits_deBruijn64tab), ("internal/strconv.uint64pow10", laid_internal_strconv_uint64pow10)], narrowed := true }
def HealthCountsUptoSaid : Prop := healthCountsUptoRow.holds Tryd.pinned (OpenSpec.upto healthCountsSpec)

/-- 'empennagelaw16.HealthRow', WHERE WHAT IT READS IS OF BULK AT MOST 1048576: true; the input reads as it did. -/
def healthRowUptoRow : OpenClaim := { program := "ytbnaehfgpilicaadoor", sum := "608d4909c6419017e91b2160cfd03cd46cd0f05926236ff9b93271555a1360c1", func := "empennage/empennagelaw16.HealthRow", spec := "healthRow", inPlace := ["internal/abi.NoEscape", "internal/bytealg.MakeNoZero"], named := ["internal/strconv.uint64pow10", "math/bits.deBruijn32tab", "math/bits.deBruijn64tab"], apart := false, laid := [("math/bits.deBruijn32tab", laid_math_bits_deBruijn32tab), ("math/bits.deBruijn64tab", laid_math_bits_deBruijn64tab), ("internal/strconv.uint64pow10", laid_internal_strconv_uint64pow10)], narrowed := true }
def HealthRowUptoSaid : Prop := healthRowUptoRow.holds Tryd.pinned (OpenSpec.upto healthRowSpec)

/-- 'empennagelaw16.HealthPlays', WHERE WHAT IT READS IS OF BULK AT MOST 1048576: true; the input reads as it did. -/
def healthPlaysUptoRow : OpenClaim := { program := "ytbnaehfgpilicaadoor", sum := "608d4909c6419017e91b2160cfd03cd46cd0f05926236ff9b93271555a1360c1", func := "empennage/empennagelaw16.HealthPlays", spec := "healthPlays", inPlace := ["internal/abi.NoEscape", "internal/bytealg.MakeNoZero"], named := ["internal/strconv.uint64pow10", "math/bits.deBruijn32tab", "math/bits.deBruijn64tab"], apart := false, laid := [("math/bits.deBruijn32tab", laid_math_bits_deBruijn32tab), ("math/bits.deBruijn64tab", laid_math_bits_deBruijn64tab), ("internal/strconv.uint64pow10", laid_internal_strconv_uint64pow10)], narrowed := true }
def HealthPlaysUptoSaid : Prop := healthPlaysUptoRow.holds Tryd.pinned (OpenSpec.upto healthPlaysSpec)

/-- 'empennagelaw16.HealthNil', WHERE WHAT IT READS IS OF BULK AT MOST 1048576: true; the input reads as it did. -/
def healthNilUptoRow : OpenClaim := { program := "ytbnaehfgpilicaadoor", sum := "608d4909c6419017e91b2160cfd03cd46cd0f05926236ff9b93271555a1360c1", func := "empennage/empennagelaw16.HealthNil", spec := "healthNil", inPlace := ["internal/abi.NoEscape", "internal/bytealg.MakeNoZero"], named := ["internal/strconv.uint64pow10", "math/bits.deBruijn32tab", "math/bits.deBruijn64tab"], apart := false, laid := [("math/bits.deBruijn32tab", laid_math_bits_deBruijn32tab), ("math/bits.deBruijn64tab", laid_math_bits_deBruijn64tab), ("internal/strconv.uint64pow10", laid_internal_strconv_uint64pow10)], narrowed := true }
def HealthNilUptoSaid : Prop := healthNilUptoRow.holds Tryd.pinned (OpenSpec.upto healthNilSpec)

end Rows
end Go.Proofs.YtbnaehfgpilicaaDoor
