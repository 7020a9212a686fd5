/-
  DERIVED. GIVEN WITH THE SEED: THE CARDS: each row of YtbnaehfgpilicaaDoorRows.lean that lists a variable, with what it lists TIED to the program's text (the seventh form; the later family's looks); each row that meets fmt, with fmt's text TOLD by the authors' own Lean function (tested against real Go, not proved from fmt's source: count such statements apart). THE CARD IS WHAT COUNTS. Prove the row's statement (the work); the ties are given (YtbnaehfgpilicaaDoorTie.lean); close each card by the builder's one call (the guide's Derived/Test/ToyasCard.lean, 'card_holds'). Laid BY PROGRAM, IN A SANDBOX (cutbox-door.mjs). By AI agents, Wed Nov 11 2026. No macro, syntax, notation, axiom, sorry.
-/
import Derived.Test.YtbnaehfgpilicaaDoorRows
import GoSem.ClaimSeven
namespace Go.Proofs.YtbnaehfgpilicaaDoor
namespace Rows

/-- THE TIED CARD OF 'empennagelaw16.HealthLines'. -/
def healthLinesCard : Claim7 := { stood := { row := healthLinesRow, standIns := [], harness := (true, "ada0c522f9170bfe3a616ee6b76f560b3aee9ca4488ba95ebc4c9653682759c9"), looks := false }, kinds := [], alts := [], laidByText := true, laidKinds := [.data, .data, .data], laidTests := true, laidLooks := .later }
def HealthLinesCardSaid : Prop := Claim7.holds Tryd.pinned (.plain (OpenSpec.ofChange healthLinesSpec)) healthLinesCard

/-- THE TIED CARD OF 'empennagelaw16.HealthLast'. -/
def healthLastCard : Claim7 := { stood := { row := healthLastRow, standIns := [], harness := (true, "ada0c522f9170bfe3a616ee6b76f560b3aee9ca4488ba95ebc4c9653682759c9"), looks := false }, kinds := [], alts := [], laidByText := true, laidKinds := [.data, .data, .data], laidTests := true, laidLooks := .later }
def HealthLastCardSaid : Prop := Claim7.holds Tryd.pinned (.plain (OpenSpec.ofChange healthLastSpec)) healthLastCard

/-- THE TIED CARD OF 'empennagelaw16.HealthCounts'. -/
def healthCountsCard : Claim7 := { stood := { row := healthCountsRow, standIns := [], harness := (true, "ada0c522f9170bfe3a616ee6b76f560b3aee9ca4488ba95ebc4c9653682759c9"), looks := false }, kinds := [], alts := [], laidByText := true, laidKinds := [.data, .data, .data], laidTests := true, laidLooks := .later }
def HealthCountsCardSaid : Prop := Claim7.holds Tryd.pinned (.plain (OpenSpec.ofChange healthCountsSpec)) healthCountsCard

/-- THE TIED CARD OF 'empennagelaw16.HealthRow'. -/
def healthRowCard : Claim7 := { stood := { row := healthRowRow, standIns := [], harness := (true, "ada0c522f9170bfe3a616ee6b76f560b3aee9ca4488ba95ebc4c9653682759c9"), looks := false }, kinds := [], alts := [], laidByText := true, laidKinds := [.data, .data, .data], laidTests := true, laidLooks := .later }
def HealthRowCardSaid : Prop := Claim7.holds Tryd.pinned (.plain (OpenSpec.ofChange healthRowSpec)) healthRowCard

/-- THE TIED CARD OF 'empennagelaw16.HealthPlays'. -/
def healthPlaysCard : Claim7 := { stood := { row := healthPlaysRow, standIns := [], harness := (true, "ada0c522f9170bfe3a616ee6b76f560b3aee9ca4488ba95ebc4c9653682759c9"), looks := false }, kinds := [], alts := [], laidByText := true, laidKinds := [.data, .data, .data], laidTests := true, laidLooks := .later }
def HealthPlaysCardSaid : Prop := Claim7.holds Tryd.pinned (.plain (OpenSpec.ofChange healthPlaysSpec)) healthPlaysCard

/-- THE TIED CARD OF 'empennagelaw16.HealthNil'. -/
def healthNilCard : Claim7 := { stood := { row := healthNilRow, standIns := [], harness := (true, "ada0c522f9170bfe3a616ee6b76f560b3aee9ca4488ba95ebc4c9653682759c9"), looks := false }, kinds := [], alts := [], laidByText := true, laidKinds := [.data, .data, .data], laidTests := true, laidLooks := .later }
def HealthNilCardSaid : Prop := Claim7.holds Tryd.pinned (.plain (OpenSpec.ofChange healthNilSpec)) healthNilCard

/-- THE SECOND FORM's CARD OF 'empennagelaw16.HealthLines'. -/
def healthLinesUptoCard : Claim7 := { stood := { row := healthLinesUptoRow, standIns := [], harness := (true, "ada0c522f9170bfe3a616ee6b76f560b3aee9ca4488ba95ebc4c9653682759c9"), looks := false }, kinds := [], alts := [], laidByText := true, laidKinds := [.data, .data, .data], laidTests := true, laidLooks := .later }
def HealthLinesUptoCardSaid : Prop := Claim7.holds Tryd.pinned (.plain (OpenSpec.upto healthLinesSpec)) healthLinesUptoCard

/-- THE SECOND FORM's CARD OF 'empennagelaw16.HealthLast'. -/
def healthLastUptoCard : Claim7 := { stood := { row := healthLastUptoRow, standIns := [], harness := (true, "ada0c522f9170bfe3a616ee6b76f560b3aee9ca4488ba95ebc4c9653682759c9"), looks := false }, kinds := [], alts := [], laidByText := true, laidKinds := [.data, .data, .data], laidTests := true, laidLooks := .later }
def HealthLastUptoCardSaid : Prop := Claim7.holds Tryd.pinned (.plain (OpenSpec.upto healthLastSpec)) healthLastUptoCard

/-- THE SECOND FORM's CARD OF 'empennagelaw16.HealthCounts'. -/
def healthCountsUptoCard : Claim7 := { stood := { row := healthCountsUptoRow, standIns := [], harness := (true, "ada0c522f9170bfe3a616ee6b76f560b3aee9ca4488ba95ebc4c9653682759c9"), looks := false }, kinds := [], alts := [], laidByText := true, laidKinds := [.data, .data, .data], laidTests := true, laidLooks := .later }
def HealthCountsUptoCardSaid : Prop := Claim7.holds Tryd.pinned (.plain (OpenSpec.upto healthCountsSpec)) healthCountsUptoCard

/-- THE SECOND FORM's CARD OF 'empennagelaw16.HealthRow'. -/
def healthRowUptoCard : Claim7 := { stood := { row := healthRowUptoRow, standIns := [], harness := (true, "ada0c522f9170bfe3a616ee6b76f560b3aee9ca4488ba95ebc4c9653682759c9"), looks := false }, kinds := [], alts := [], laidByText := true, laidKinds := [.data, .data, .data], laidTests := true, laidLooks := .later }
def HealthRowUptoCardSaid : Prop := Claim7.holds Tryd.pinned (.plain (OpenSpec.upto healthRowSpec)) healthRowUptoCard

/-- THE SECOND FORM's CARD OF 'empennagelaw16.HealthPlays'. -/
def healthPlaysUptoCard : Claim7 := { stood := { row := healthPlaysUptoRow, standIns := [], harness := (true, "ada0c522f9170bfe3a616ee6b76f560b3aee9ca4488ba95ebc4c9653682759c9"), looks := false }, kinds := [], alts := [], laidByText := true, laidKinds := [.data, .data, .data], laidTests := true, laidLooks := .later }
def HealthPlaysUptoCardSaid : Prop := Claim7.holds Tryd.pinned (.plain (OpenSpec.upto healthPlaysSpec)) healthPlaysUptoCard

/-- THE SECOND FORM's CARD OF 'empennagelaw16.HealthNil'. -/
def healthNilUptoCard : Claim7 := { stood := { row := healthNilUptoRow, standIns := [], harness := (true, "ada0c522f9170bfe3a616ee6b76f560b3aee9ca4488ba95ebc4c9653682759c9"), looks := false }, kinds := [], alts := [], laidByText := true, laidKinds := [.data, .data, .data], laidTests := true, laidLooks := .later }
def HealthNilUptoCardSaid : Prop := Claim7.holds Tryd.pinned (.plain (OpenSpec.upto healthNilSpec)) healthNilUptoCard
end Rows
end Go.Proofs.YtbnaehfgpilicaaDoor
