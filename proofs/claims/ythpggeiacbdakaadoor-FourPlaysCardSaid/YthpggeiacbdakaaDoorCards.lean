/-
  DERIVED. GIVEN WITH THE SEED: THE CARDS: each row of YthpggeiacbdakaaDoorRows.lean that lists a variable, with what it lists TIED to the program's text (the seventh form; the later family's looks); each row that meets fmt, with fmt's text TOLD by the authors' own Lean function (tested against real Go, not proved from fmt's source: count such statements apart). THE CARD IS WHAT COUNTS. Prove the row's statement (the work); the ties are given (YthpggeiacbdakaaDoorTie.lean); close each card by the builder's one call (the guide's Derived/Test/ToyasCard.lean, 'card_holds'). Laid BY PROGRAM, IN A SANDBOX (cutbox-door.mjs). By AI agents, Wed Nov 11 2026. No macro, syntax, notation, axiom, sorry.
-/
import Derived.Test.YthpggeiacbdakaaDoorRows
import GoSem.ClaimSeven
namespace Go.Proofs.YthpggeiacbdakaaDoor
namespace Rows

/-- THE TIED CARD OF 'empennagelaw06.FourWhole'. -/
def fourWholeCard : Claim7 := { stood := { row := fourWholeRow, standIns := [], harness := (true, "6624146ee4eca55303c96d4246f1eb3bb0e1a8bb11bc99478edaeb4f07c2d711"), looks := true }, kinds := [], alts := [], laidByText := true, laidKinds := [.handle], laidTests := true, laidLooks := .later }
def FourWholeCardSaid : Prop := Claim7.holds Tryd.pinned (.plain (OpenSpec.ofChange fourWholeSpec)) fourWholeCard

/-- THE TIED CARD OF 'empennagelaw06.FourForward'. -/
def fourForwardCard : Claim7 := { stood := { row := fourForwardRow, standIns := [], harness := (true, "6624146ee4eca55303c96d4246f1eb3bb0e1a8bb11bc99478edaeb4f07c2d711"), looks := true }, kinds := [], alts := [], laidByText := true, laidKinds := [.handle], laidTests := true, laidLooks := .later }
def FourForwardCardSaid : Prop := Claim7.holds Tryd.pinned (.plain (OpenSpec.ofChange fourForwardSpec)) fourForwardCard

/-- THE TIED CARD OF 'empennagelaw06.FourAlone'. -/
def fourAloneCard : Claim7 := { stood := { row := fourAloneRow, standIns := [], harness := (true, "6624146ee4eca55303c96d4246f1eb3bb0e1a8bb11bc99478edaeb4f07c2d711"), looks := true }, kinds := [], alts := [], laidByText := true, laidKinds := [.handle], laidTests := true, laidLooks := .later }
def FourAloneCardSaid : Prop := Claim7.holds Tryd.pinned (.plain (OpenSpec.ofChange fourAloneSpec)) fourAloneCard

/-- THE TIED CARD OF 'empennagelaw06.FourPlays'. -/
def fourPlaysCard : Claim7 := { stood := { row := fourPlaysRow, standIns := [], harness := (true, "6624146ee4eca55303c96d4246f1eb3bb0e1a8bb11bc99478edaeb4f07c2d711"), looks := true }, kinds := [], alts := [], laidByText := true, laidKinds := [.handle], laidTests := true, laidLooks := .later }
def FourPlaysCardSaid : Prop := Claim7.holds Tryd.pinned (.plain (OpenSpec.ofChange fourPlaysSpec)) fourPlaysCard

/-- THE TIED CARD OF 'empennagelaw06.FourOther'. -/
def fourOtherCard : Claim7 := { stood := { row := fourOtherRow, standIns := [], harness := (true, "6624146ee4eca55303c96d4246f1eb3bb0e1a8bb11bc99478edaeb4f07c2d711"), looks := true }, kinds := [], alts := [], laidByText := true, laidKinds := [.handle], laidTests := true, laidLooks := .later }
def FourOtherCardSaid : Prop := Claim7.holds Tryd.pinned (.plain (OpenSpec.ofChange fourOtherSpec)) fourOtherCard

/-- THE TIED CARD OF 'empennagelaw06.FourOdd'. -/
def fourOddCard : Claim7 := { stood := { row := fourOddRow, standIns := [], harness := (true, "6624146ee4eca55303c96d4246f1eb3bb0e1a8bb11bc99478edaeb4f07c2d711"), looks := true }, kinds := [], alts := [], laidByText := true, laidKinds := [.handle], laidTests := true, laidLooks := .later }
def FourOddCardSaid : Prop := Claim7.holds Tryd.pinned (.plain (OpenSpec.ofChange fourOddSpec)) fourOddCard

/-- THE SECOND FORM's CARD OF 'empennagelaw06.FourWhole'. -/
def fourWholeUptoCard : Claim7 := { stood := { row := fourWholeUptoRow, standIns := [], harness := (true, "6624146ee4eca55303c96d4246f1eb3bb0e1a8bb11bc99478edaeb4f07c2d711"), looks := true }, kinds := [], alts := [], laidByText := true, laidKinds := [.handle], laidTests := true, laidLooks := .later }
def FourWholeUptoCardSaid : Prop := Claim7.holds Tryd.pinned (.plain (OpenSpec.upto fourWholeSpec)) fourWholeUptoCard

/-- THE SECOND FORM's CARD OF 'empennagelaw06.FourForward'. -/
def fourForwardUptoCard : Claim7 := { stood := { row := fourForwardUptoRow, standIns := [], harness := (true, "6624146ee4eca55303c96d4246f1eb3bb0e1a8bb11bc99478edaeb4f07c2d711"), looks := true }, kinds := [], alts := [], laidByText := true, laidKinds := [.handle], laidTests := true, laidLooks := .later }
def FourForwardUptoCardSaid : Prop := Claim7.holds Tryd.pinned (.plain (OpenSpec.upto fourForwardSpec)) fourForwardUptoCard

/-- THE SECOND FORM's CARD OF 'empennagelaw06.FourAlone'. -/
def fourAloneUptoCard : Claim7 := { stood := { row := fourAloneUptoRow, standIns := [], harness := (true, "6624146ee4eca55303c96d4246f1eb3bb0e1a8bb11bc99478edaeb4f07c2d711"), looks := true }, kinds := [], alts := [], laidByText := true, laidKinds := [.handle], laidTests := true, laidLooks := .later }
def FourAloneUptoCardSaid : Prop := Claim7.holds Tryd.pinned (.plain (OpenSpec.upto fourAloneSpec)) fourAloneUptoCard

/-- THE SECOND FORM's CARD OF 'empennagelaw06.FourPlays'. -/
def fourPlaysUptoCard : Claim7 := { stood := { row := fourPlaysUptoRow, standIns := [], harness := (true, "6624146ee4eca55303c96d4246f1eb3bb0e1a8bb11bc99478edaeb4f07c2d711"), looks := true }, kinds := [], alts := [], laidByText := true, laidKinds := [.handle], laidTests := true, laidLooks := .later }
def FourPlaysUptoCardSaid : Prop := Claim7.holds Tryd.pinned (.plain (OpenSpec.upto fourPlaysSpec)) fourPlaysUptoCard

/-- THE SECOND FORM's CARD OF 'empennagelaw06.FourOther'. -/
def fourOtherUptoCard : Claim7 := { stood := { row := fourOtherUptoRow, standIns := [], harness := (true, "6624146ee4eca55303c96d4246f1eb3bb0e1a8bb11bc99478edaeb4f07c2d711"), looks := true }, kinds := [], alts := [], laidByText := true, laidKinds := [.handle], laidTests := true, laidLooks := .later }
def FourOtherUptoCardSaid : Prop := Claim7.holds Tryd.pinned (.plain (OpenSpec.upto fourOtherSpec)) fourOtherUptoCard

/-- THE SECOND FORM's CARD OF 'empennagelaw06.FourOdd'. -/
def fourOddUptoCard : Claim7 := { stood := { row := fourOddUptoRow, standIns := [], harness := (true, "6624146ee4eca55303c96d4246f1eb3bb0e1a8bb11bc99478edaeb4f07c2d711"), looks := true }, kinds := [], alts := [], laidByText := true, laidKinds := [.handle], laidTests := true, laidLooks := .later }
def FourOddUptoCardSaid : Prop := Claim7.holds Tryd.pinned (.plain (OpenSpec.upto fourOddSpec)) fourOddUptoCard
end Rows
end Go.Proofs.YthpggeiacbdakaaDoor
