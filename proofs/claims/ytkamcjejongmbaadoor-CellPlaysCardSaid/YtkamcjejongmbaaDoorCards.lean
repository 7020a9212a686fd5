/-
  DERIVED. GIVEN WITH THE SEED: THE CARDS: each row of YtkamcjejongmbaaDoorRows.lean that lists a variable, with what it lists TIED to the program's text (the seventh form; the later family's looks); each row that meets fmt, with fmt's text TOLD by the authors' own Lean function (tested against real Go, not proved from fmt's source: count such statements apart). THE CARD IS WHAT COUNTS. Prove the row's statement (the work); the ties are given (YtkamcjejongmbaaDoorTie.lean); close each card by the builder's one call (the guide's Derived/Test/ToyasCard.lean, 'card_holds'). Laid BY PROGRAM, IN A SANDBOX (cutbox-door.mjs). By AI agents, Wed Nov 11 2026. No macro, syntax, notation, axiom, sorry.
-/
import Derived.Test.YtkamcjejongmbaaDoorRows
import GoSem.ClaimSeven
namespace Go.Proofs.YtkamcjejongmbaaDoor
namespace Rows

/-- THE TIED CARD OF 'empennagelaw02.CellWhys'. -/
def cellWhysCard : Claim7 := { stood := { row := cellWhysRow, standIns := [], harness := (true, "06f5cc39130d1e114fb80d2917b3923b57709dbe620f05cb5516956c607cae00"), looks := true }, kinds := [], alts := [], laidByText := true, laidKinds := [.data, .data, .data, .handle], laidTests := true, laidLooks := .later }
def CellWhysCardSaid : Prop := Claim7.holds Tryd.pinned (.plain (OpenSpec.ofChange cellWhysSpec)) cellWhysCard

/-- THE TIED CARD OF 'empennagelaw02.CellApart'. -/
def cellApartCard : Claim7 := { stood := { row := cellApartRow, standIns := [], harness := (true, "06f5cc39130d1e114fb80d2917b3923b57709dbe620f05cb5516956c607cae00"), looks := true }, kinds := [], alts := [], laidByText := true, laidKinds := [.data, .data, .data, .handle], laidTests := true, laidLooks := .later }
def CellApartCardSaid : Prop := Claim7.holds Tryd.pinned (.plain (OpenSpec.ofChange cellApartSpec)) cellApartCard

/-- THE TIED CARD OF 'empennagelaw02.CellOwns'. -/
def cellOwnsCard : Claim7 := { stood := { row := cellOwnsRow, standIns := [], harness := (true, "06f5cc39130d1e114fb80d2917b3923b57709dbe620f05cb5516956c607cae00"), looks := true }, kinds := [], alts := [], laidByText := true, laidKinds := [.data, .data, .data, .handle], laidTests := true, laidLooks := .later }
def CellOwnsCardSaid : Prop := Claim7.holds Tryd.pinned (.plain (OpenSpec.ofChange cellOwnsSpec)) cellOwnsCard

/-- THE TIED CARD OF 'empennagelaw02.CellSame'. -/
def cellSameCard : Claim7 := { stood := { row := cellSameRow, standIns := [], harness := (true, "06f5cc39130d1e114fb80d2917b3923b57709dbe620f05cb5516956c607cae00"), looks := true }, kinds := [], alts := [], laidByText := true, laidKinds := [.data, .data, .data, .handle], laidTests := true, laidLooks := .later }
def CellSameCardSaid : Prop := Claim7.holds Tryd.pinned (.plain (OpenSpec.ofChange cellSameSpec)) cellSameCard

/-- THE TIED CARD OF 'empennagelaw02.CellPlays'. -/
def cellPlaysCard : Claim7 := { stood := { row := cellPlaysRow, standIns := [], harness := (true, "06f5cc39130d1e114fb80d2917b3923b57709dbe620f05cb5516956c607cae00"), looks := true }, kinds := [], alts := [], laidByText := true, laidKinds := [.data, .data, .data, .handle], laidTests := true, laidLooks := .later }
def CellPlaysCardSaid : Prop := Claim7.holds Tryd.pinned (.plain (OpenSpec.ofChange cellPlaysSpec)) cellPlaysCard

/-- THE TIED CARD OF 'empennagelaw02.CellLast'. -/
def cellLastCard : Claim7 := { stood := { row := cellLastRow, standIns := [], harness := (true, "06f5cc39130d1e114fb80d2917b3923b57709dbe620f05cb5516956c607cae00"), looks := true }, kinds := [], alts := [], laidByText := true, laidKinds := [.data, .data, .data, .handle], laidTests := true, laidLooks := .later }
def CellLastCardSaid : Prop := Claim7.holds Tryd.pinned (.plain (OpenSpec.ofChange cellLastSpec)) cellLastCard

/-- THE TIED CARD OF 'empennagelaw02.CellResets'. -/
def cellResetsCard : Claim7 := { stood := { row := cellResetsRow, standIns := [], harness := (true, "06f5cc39130d1e114fb80d2917b3923b57709dbe620f05cb5516956c607cae00"), looks := true }, kinds := [], alts := [], laidByText := true, laidKinds := [.data, .data, .data, .handle], laidTests := true, laidLooks := .later }
def CellResetsCardSaid : Prop := Claim7.holds Tryd.pinned (.plain (OpenSpec.ofChange cellResetsSpec)) cellResetsCard

/-- THE TIED CARD OF 'empennagelaw02.CellNil'. -/
def cellNilCard : Claim7 := { stood := { row := cellNilRow, standIns := [], harness := (true, "06f5cc39130d1e114fb80d2917b3923b57709dbe620f05cb5516956c607cae00"), looks := true }, kinds := [], alts := [], laidByText := true, laidKinds := [.data, .data, .data, .handle], laidTests := true, laidLooks := .later }
def CellNilCardSaid : Prop := Claim7.holds Tryd.pinned (.plain (OpenSpec.ofChange cellNilSpec)) cellNilCard

/-- THE SECOND FORM's CARD OF 'empennagelaw02.CellWhys'. -/
def cellWhysUptoCard : Claim7 := { stood := { row := cellWhysUptoRow, standIns := [], harness := (true, "06f5cc39130d1e114fb80d2917b3923b57709dbe620f05cb5516956c607cae00"), looks := true }, kinds := [], alts := [], laidByText := true, laidKinds := [.data, .data, .data, .handle], laidTests := true, laidLooks := .later }
def CellWhysUptoCardSaid : Prop := Claim7.holds Tryd.pinned (.plain (OpenSpec.upto cellWhysSpec)) cellWhysUptoCard

/-- THE SECOND FORM's CARD OF 'empennagelaw02.CellApart'. -/
def cellApartUptoCard : Claim7 := { stood := { row := cellApartUptoRow, standIns := [], harness := (true, "06f5cc39130d1e114fb80d2917b3923b57709dbe620f05cb5516956c607cae00"), looks := true }, kinds := [], alts := [], laidByText := true, laidKinds := [.data, .data, .data, .handle], laidTests := true, laidLooks := .later }
def CellApartUptoCardSaid : Prop := Claim7.holds Tryd.pinned (.plain (OpenSpec.upto cellApartSpec)) cellApartUptoCard

/-- THE SECOND FORM's CARD OF 'empennagelaw02.CellOwns'. -/
def cellOwnsUptoCard : Claim7 := { stood := { row := cellOwnsUptoRow, standIns := [], harness := (true, "06f5cc39130d1e114fb80d2917b3923b57709dbe620f05cb5516956c607cae00"), looks := true }, kinds := [], alts := [], laidByText := true, laidKinds := [.data, .data, .data, .handle], laidTests := true, laidLooks := .later }
def CellOwnsUptoCardSaid : Prop := Claim7.holds Tryd.pinned (.plain (OpenSpec.upto cellOwnsSpec)) cellOwnsUptoCard

/-- THE SECOND FORM's CARD OF 'empennagelaw02.CellSame'. -/
def cellSameUptoCard : Claim7 := { stood := { row := cellSameUptoRow, standIns := [], harness := (true, "06f5cc39130d1e114fb80d2917b3923b57709dbe620f05cb5516956c607cae00"), looks := true }, kinds := [], alts := [], laidByText := true, laidKinds := [.data, .data, .data, .handle], laidTests := true, laidLooks := .later }
def CellSameUptoCardSaid : Prop := Claim7.holds Tryd.pinned (.plain (OpenSpec.upto cellSameSpec)) cellSameUptoCard

/-- THE SECOND FORM's CARD OF 'empennagelaw02.CellPlays'. -/
def cellPlaysUptoCard : Claim7 := { stood := { row := cellPlaysUptoRow, standIns := [], harness := (true, "06f5cc39130d1e114fb80d2917b3923b57709dbe620f05cb5516956c607cae00"), looks := true }, kinds := [], alts := [], laidByText := true, laidKinds := [.data, .data, .data, .handle], laidTests := true, laidLooks := .later }
def CellPlaysUptoCardSaid : Prop := Claim7.holds Tryd.pinned (.plain (OpenSpec.upto cellPlaysSpec)) cellPlaysUptoCard

/-- THE SECOND FORM's CARD OF 'empennagelaw02.CellLast'. -/
def cellLastUptoCard : Claim7 := { stood := { row := cellLastUptoRow, standIns := [], harness := (true, "06f5cc39130d1e114fb80d2917b3923b57709dbe620f05cb5516956c607cae00"), looks := true }, kinds := [], alts := [], laidByText := true, laidKinds := [.data, .data, .data, .handle], laidTests := true, laidLooks := .later }
def CellLastUptoCardSaid : Prop := Claim7.holds Tryd.pinned (.plain (OpenSpec.upto cellLastSpec)) cellLastUptoCard

/-- THE SECOND FORM's CARD OF 'empennagelaw02.CellResets'. -/
def cellResetsUptoCard : Claim7 := { stood := { row := cellResetsUptoRow, standIns := [], harness := (true, "06f5cc39130d1e114fb80d2917b3923b57709dbe620f05cb5516956c607cae00"), looks := true }, kinds := [], alts := [], laidByText := true, laidKinds := [.data, .data, .data, .handle], laidTests := true, laidLooks := .later }
def CellResetsUptoCardSaid : Prop := Claim7.holds Tryd.pinned (.plain (OpenSpec.upto cellResetsSpec)) cellResetsUptoCard

/-- THE SECOND FORM's CARD OF 'empennagelaw02.CellNil'. -/
def cellNilUptoCard : Claim7 := { stood := { row := cellNilUptoRow, standIns := [], harness := (true, "06f5cc39130d1e114fb80d2917b3923b57709dbe620f05cb5516956c607cae00"), looks := true }, kinds := [], alts := [], laidByText := true, laidKinds := [.data, .data, .data, .handle], laidTests := true, laidLooks := .later }
def CellNilUptoCardSaid : Prop := Claim7.holds Tryd.pinned (.plain (OpenSpec.upto cellNilSpec)) cellNilUptoCard
end Rows
end Go.Proofs.YtkamcjejongmbaaDoor
