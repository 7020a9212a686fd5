/-
  DERIVED. GIVEN WITH THE SEED: THE CARDS: each row of YtmcelldklmjlkaaDoorRows.lean that lists a variable, with what it lists TIED to the program's text (the seventh form; the later family's looks); each row that meets fmt, with fmt's text TOLD by the authors' own Lean function (tested against real Go, not proved from fmt's source: count such statements apart). THE CARD IS WHAT COUNTS. Prove the row's statement (the work); the ties are given (YtmcelldklmjlkaaDoorTie.lean); close each card by the builder's one call (the guide's Derived/Test/ToyasCard.lean, 'card_holds'). Laid BY PROGRAM, IN A SANDBOX (cutbox-door.mjs). By AI agents, Wed Nov 11 2026. No macro, syntax, notation, axiom, sorry.
-/
import Derived.Test.YtmcelldklmjlkaaDoorRows
import GoSem.ClaimSeven
namespace Go.Proofs.YtmcelldklmjlkaaDoor
namespace Rows

/-- THE TIED CARD OF 'empennagelaw17.SampleEmpty'. -/
def sampleEmptyCard : Claim7 := { stood := { row := sampleEmptyRow, standIns := [], harness := (true, "d5095520f29de23a2b1b0e4d5b8df8f3705d463bf4e54fd4efeca33c91a0a0ec"), looks := true }, kinds := [], alts := [], laidByText := true, laidKinds := [.handle], laidTests := true, laidLooks := .later }
def SampleEmptyCardSaid : Prop := Claim7.holds Tryd.pinned (.plain (OpenSpec.ofChange sampleEmptySpec)) sampleEmptyCard

/-- THE TIED CARD OF 'empennagelaw17.SamplePlays'. -/
def samplePlaysCard : Claim7 := { stood := { row := samplePlaysRow, standIns := [], harness := (true, "d5095520f29de23a2b1b0e4d5b8df8f3705d463bf4e54fd4efeca33c91a0a0ec"), looks := true }, kinds := [], alts := [], laidByText := true, laidKinds := [.handle], laidTests := true, laidLooks := .later }
def SamplePlaysCardSaid : Prop := Claim7.holds Tryd.pinned (.plain (OpenSpec.ofChange samplePlaysSpec)) samplePlaysCard

/-- THE TIED CARD OF 'empennagelaw17.SampleForward'. -/
def sampleForwardCard : Claim7 := { stood := { row := sampleForwardRow, standIns := [], harness := (true, "d5095520f29de23a2b1b0e4d5b8df8f3705d463bf4e54fd4efeca33c91a0a0ec"), looks := true }, kinds := [], alts := [], laidByText := true, laidKinds := [.handle], laidTests := true, laidLooks := .later }
def SampleForwardCardSaid : Prop := Claim7.holds Tryd.pinned (.plain (OpenSpec.ofChange sampleForwardSpec)) sampleForwardCard

/-- THE TIED CARD OF 'empennagelaw17.SampleWhole'. -/
def sampleWholeCard : Claim7 := { stood := { row := sampleWholeRow, standIns := [], harness := (true, "d5095520f29de23a2b1b0e4d5b8df8f3705d463bf4e54fd4efeca33c91a0a0ec"), looks := true }, kinds := [], alts := [], laidByText := true, laidKinds := [.handle], laidTests := true, laidLooks := .later }
def SampleWholeCardSaid : Prop := Claim7.holds Tryd.pinned (.plain (OpenSpec.ofChange sampleWholeSpec)) sampleWholeCard

/-- THE TIED CARD OF 'empennagelaw17.SampleOdd'. -/
def sampleOddCard : Claim7 := { stood := { row := sampleOddRow, standIns := [], harness := (true, "d5095520f29de23a2b1b0e4d5b8df8f3705d463bf4e54fd4efeca33c91a0a0ec"), looks := true }, kinds := [], alts := [], laidByText := true, laidKinds := [.handle], laidTests := true, laidLooks := .later }
def SampleOddCardSaid : Prop := Claim7.holds Tryd.pinned (.plain (OpenSpec.ofChange sampleOddSpec)) sampleOddCard

/-- THE SECOND FORM's CARD OF 'empennagelaw17.SampleEmpty'. -/
def sampleEmptyUptoCard : Claim7 := { stood := { row := sampleEmptyUptoRow, standIns := [], harness := (true, "d5095520f29de23a2b1b0e4d5b8df8f3705d463bf4e54fd4efeca33c91a0a0ec"), looks := true }, kinds := [], alts := [], laidByText := true, laidKinds := [.handle], laidTests := true, laidLooks := .later }
def SampleEmptyUptoCardSaid : Prop := Claim7.holds Tryd.pinned (.plain (OpenSpec.upto sampleEmptySpec)) sampleEmptyUptoCard

/-- THE SECOND FORM's CARD OF 'empennagelaw17.SamplePlays'. -/
def samplePlaysUptoCard : Claim7 := { stood := { row := samplePlaysUptoRow, standIns := [], harness := (true, "d5095520f29de23a2b1b0e4d5b8df8f3705d463bf4e54fd4efeca33c91a0a0ec"), looks := true }, kinds := [], alts := [], laidByText := true, laidKinds := [.handle], laidTests := true, laidLooks := .later }
def SamplePlaysUptoCardSaid : Prop := Claim7.holds Tryd.pinned (.plain (OpenSpec.upto samplePlaysSpec)) samplePlaysUptoCard

/-- THE SECOND FORM's CARD OF 'empennagelaw17.SampleForward'. -/
def sampleForwardUptoCard : Claim7 := { stood := { row := sampleForwardUptoRow, standIns := [], harness := (true, "d5095520f29de23a2b1b0e4d5b8df8f3705d463bf4e54fd4efeca33c91a0a0ec"), looks := true }, kinds := [], alts := [], laidByText := true, laidKinds := [.handle], laidTests := true, laidLooks := .later }
def SampleForwardUptoCardSaid : Prop := Claim7.holds Tryd.pinned (.plain (OpenSpec.upto sampleForwardSpec)) sampleForwardUptoCard

/-- THE SECOND FORM's CARD OF 'empennagelaw17.SampleWhole'. -/
def sampleWholeUptoCard : Claim7 := { stood := { row := sampleWholeUptoRow, standIns := [], harness := (true, "d5095520f29de23a2b1b0e4d5b8df8f3705d463bf4e54fd4efeca33c91a0a0ec"), looks := true }, kinds := [], alts := [], laidByText := true, laidKinds := [.handle], laidTests := true, laidLooks := .later }
def SampleWholeUptoCardSaid : Prop := Claim7.holds Tryd.pinned (.plain (OpenSpec.upto sampleWholeSpec)) sampleWholeUptoCard

/-- THE SECOND FORM's CARD OF 'empennagelaw17.SampleOdd'. -/
def sampleOddUptoCard : Claim7 := { stood := { row := sampleOddUptoRow, standIns := [], harness := (true, "d5095520f29de23a2b1b0e4d5b8df8f3705d463bf4e54fd4efeca33c91a0a0ec"), looks := true }, kinds := [], alts := [], laidByText := true, laidKinds := [.handle], laidTests := true, laidLooks := .later }
def SampleOddUptoCardSaid : Prop := Claim7.holds Tryd.pinned (.plain (OpenSpec.upto sampleOddSpec)) sampleOddUptoCard
end Rows
end Go.Proofs.YtmcelldklmjlkaaDoor
