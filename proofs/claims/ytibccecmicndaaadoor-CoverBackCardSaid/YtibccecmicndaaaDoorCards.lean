/-
  DERIVED. GIVEN WITH THE SEED: THE CARDS: each row of YtibccecmicndaaaDoorRows.lean that lists a variable, with what it lists TIED to the program's text (the seventh form; the later family's looks); each row that meets fmt, with fmt's text TOLD by the authors' own Lean function (tested against real Go, not proved from fmt's source: count such statements apart). THE CARD IS WHAT COUNTS. Prove the row's statement (the work); the ties are given (YtibccecmicndaaaDoorTie.lean); close each card by the builder's one call (the guide's Derived/Test/ToyasCard.lean, 'card_holds'). Laid BY PROGRAM, IN A SANDBOX (cutbox-door.mjs). By AI agents, Wed Nov 11 2026. No macro, syntax, notation, axiom, sorry.
-/
import Derived.Test.YtibccecmicndaaaDoorRows
import GoSem.ClaimSeven
namespace Go.Proofs.YtibccecmicndaaaDoor
namespace Rows

/-- THE TIED CARD OF 'confluxlaw11.CoverMasks'. -/
def coverMasksCard : Claim7 := { stood := { row := coverMasksRow, standIns := [], harness := (true, "2ca40419d4f94af96999608765505457d9e55f45a124c30ef680fe1b5e636a22"), looks := false }, kinds := [], alts := [], laidByText := true, laidKinds := [.data], laidTests := true, laidLooks := .later }
def CoverMasksCardSaid : Prop := Claim7.holds Tryd.pinned (.plain (OpenSpec.ofChange coverMasksSpec)) coverMasksCard

/-- THE TIED CARD OF 'confluxlaw11.CoverSets'. -/
def coverSetsCard : Claim7 := { stood := { row := coverSetsRow, standIns := [], harness := (true, "2ca40419d4f94af96999608765505457d9e55f45a124c30ef680fe1b5e636a22"), looks := false }, kinds := [], alts := [], laidByText := true, laidKinds := [.data], laidTests := true, laidLooks := .later }
def CoverSetsCardSaid : Prop := Claim7.holds Tryd.pinned (.plain (OpenSpec.ofChange coverSetsSpec)) coverSetsCard

/-- THE TIED CARD OF 'confluxlaw11.CoverMoves'. -/
def coverMovesCard : Claim7 := { stood := { row := coverMovesRow, standIns := [], harness := (true, "2ca40419d4f94af96999608765505457d9e55f45a124c30ef680fe1b5e636a22"), looks := false }, kinds := [], alts := [], laidByText := true, laidKinds := [.data], laidTests := true, laidLooks := .later }
def CoverMovesCardSaid : Prop := Claim7.holds Tryd.pinned (.plain (OpenSpec.ofChange coverMovesSpec)) coverMovesCard

/-- THE TIED CARD OF 'confluxlaw11.CoverBack'. -/
def coverBackCard : Claim7 := { stood := { row := coverBackRow, standIns := [], harness := (true, "2ca40419d4f94af96999608765505457d9e55f45a124c30ef680fe1b5e636a22"), looks := false }, kinds := [], alts := [], laidByText := true, laidKinds := [.data], laidTests := true, laidLooks := .later }
def CoverBackCardSaid : Prop := Claim7.holds Tryd.pinned (.plain (OpenSpec.ofChange coverBackSpec)) coverBackCard

/-- THE SECOND FORM's CARD OF 'confluxlaw11.CoverMasks'. -/
def coverMasksUptoCard : Claim7 := { stood := { row := coverMasksUptoRow, standIns := [], harness := (true, "2ca40419d4f94af96999608765505457d9e55f45a124c30ef680fe1b5e636a22"), looks := false }, kinds := [], alts := [], laidByText := true, laidKinds := [.data], laidTests := true, laidLooks := .later }
def CoverMasksUptoCardSaid : Prop := Claim7.holds Tryd.pinned (.plain (OpenSpec.upto coverMasksSpec)) coverMasksUptoCard

/-- THE SECOND FORM's CARD OF 'confluxlaw11.CoverSets'. -/
def coverSetsUptoCard : Claim7 := { stood := { row := coverSetsUptoRow, standIns := [], harness := (true, "2ca40419d4f94af96999608765505457d9e55f45a124c30ef680fe1b5e636a22"), looks := false }, kinds := [], alts := [], laidByText := true, laidKinds := [.data], laidTests := true, laidLooks := .later }
def CoverSetsUptoCardSaid : Prop := Claim7.holds Tryd.pinned (.plain (OpenSpec.upto coverSetsSpec)) coverSetsUptoCard

/-- THE SECOND FORM's CARD OF 'confluxlaw11.CoverMoves'. -/
def coverMovesUptoCard : Claim7 := { stood := { row := coverMovesUptoRow, standIns := [], harness := (true, "2ca40419d4f94af96999608765505457d9e55f45a124c30ef680fe1b5e636a22"), looks := false }, kinds := [], alts := [], laidByText := true, laidKinds := [.data], laidTests := true, laidLooks := .later }
def CoverMovesUptoCardSaid : Prop := Claim7.holds Tryd.pinned (.plain (OpenSpec.upto coverMovesSpec)) coverMovesUptoCard

/-- THE SECOND FORM's CARD OF 'confluxlaw11.CoverBack'. -/
def coverBackUptoCard : Claim7 := { stood := { row := coverBackUptoRow, standIns := [], harness := (true, "2ca40419d4f94af96999608765505457d9e55f45a124c30ef680fe1b5e636a22"), looks := false }, kinds := [], alts := [], laidByText := true, laidKinds := [.data], laidTests := true, laidLooks := .later }
def CoverBackUptoCardSaid : Prop := Claim7.holds Tryd.pinned (.plain (OpenSpec.upto coverBackSpec)) coverBackUptoCard
end Rows
end Go.Proofs.YtibccecmicndaaaDoor
