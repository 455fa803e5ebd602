/-
  DERIVED. GIVEN WITH THE SEED: THE CARDS: each row of YtnloabpdjedanaaDoorRows.lean that lists a variable, with what it lists TIED to the program's text (the seventh form; the later family's looks); each row that meets fmt, with fmt's text TOLD by the authors' own Lean function (tested against real Go, not proved from fmt's source: count such statements apart). THE CARD IS WHAT COUNTS. Prove the row's statement (the work); the ties are given (YtnloabpdjedanaaDoorTie.lean); close each card by the builder's one call (the guide's Derived/Test/ToyasCard.lean, 'card_holds'). Laid BY PROGRAM, IN A SANDBOX (cutbox-door.mjs). By AI agents, Wed Nov 11 2026. No macro, syntax, notation, axiom, sorry.
-/
import Derived.Test.YtnloabpdjedanaaDoorRows
import GoSem.ClaimSeven
namespace Go.Proofs.YtnloabpdjedanaaDoor
namespace Rows

/-- THE TIED CARD OF 'confluxlaw10.FlexParses'. -/
def flexParsesCard : Claim7 := { stood := { row := flexParsesRow, standIns := [], harness := (true, "511316a0fb0491594b112fb9888bd7487507fb16604f00f90ee264ff8b0b6591"), looks := true }, kinds := [], alts := [], laidByText := true, laidKinds := [.data], laidTests := true, laidLooks := .later }
def FlexParsesCardSaid : Prop := Claim7.holds Tryd.pinned (.plain (OpenSpec.ofChange flexParsesSpec)) flexParsesCard

/-- THE TIED CARD OF 'confluxlaw10.FlexWrites'. -/
def flexWritesCard : Claim7 := { stood := { row := flexWritesRow, standIns := [], harness := (true, "511316a0fb0491594b112fb9888bd7487507fb16604f00f90ee264ff8b0b6591"), looks := true }, kinds := [], alts := [], laidByText := true, laidKinds := [.data], laidTests := true, laidLooks := .later }
def FlexWritesCardSaid : Prop := Claim7.holds Tryd.pinned (.plain (OpenSpec.ofChange flexWritesSpec)) flexWritesCard

/-- THE TIED CARD OF 'confluxlaw10.FlexOf'. -/
def flexOfCard : Claim7 := { stood := { row := flexOfRow, standIns := [], harness := (true, "511316a0fb0491594b112fb9888bd7487507fb16604f00f90ee264ff8b0b6591"), looks := true }, kinds := [], alts := [], laidByText := true, laidKinds := [.data], laidTests := true, laidLooks := .later }
def FlexOfCardSaid : Prop := Claim7.holds Tryd.pinned (.plain (OpenSpec.ofChange flexOfSpec)) flexOfCard

/-- THE TIED CARD OF 'confluxlaw10.FlexBack'. -/
def flexBackCard : Claim7 := { stood := { row := flexBackRow, standIns := [], harness := (true, "511316a0fb0491594b112fb9888bd7487507fb16604f00f90ee264ff8b0b6591"), looks := true }, kinds := [], alts := [], laidByText := true, laidKinds := [.data], laidTests := true, laidLooks := .later }
def FlexBackCardSaid : Prop := Claim7.holds Tryd.pinned (.plain (OpenSpec.ofChange flexBackSpec)) flexBackCard

/-- THE TIED CARD OF 'confluxlaw10.FlexGrids'. -/
def flexGridsCard : Claim7 := { stood := { row := flexGridsRow, standIns := [], harness := (true, "511316a0fb0491594b112fb9888bd7487507fb16604f00f90ee264ff8b0b6591"), looks := true }, kinds := [], alts := [], laidByText := true, laidKinds := [.data], laidTests := true, laidLooks := .later }
def FlexGridsCardSaid : Prop := Claim7.holds Tryd.pinned (.plain (OpenSpec.ofChange flexGridsSpec)) flexGridsCard

/-- THE SECOND FORM's CARD OF 'confluxlaw10.FlexParses'. -/
def flexParsesUptoCard : Claim7 := { stood := { row := flexParsesUptoRow, standIns := [], harness := (true, "511316a0fb0491594b112fb9888bd7487507fb16604f00f90ee264ff8b0b6591"), looks := true }, kinds := [], alts := [], laidByText := true, laidKinds := [.data], laidTests := true, laidLooks := .later }
def FlexParsesUptoCardSaid : Prop := Claim7.holds Tryd.pinned (.plain (OpenSpec.upto flexParsesSpec)) flexParsesUptoCard

/-- THE SECOND FORM's CARD OF 'confluxlaw10.FlexWrites'. -/
def flexWritesUptoCard : Claim7 := { stood := { row := flexWritesUptoRow, standIns := [], harness := (true, "511316a0fb0491594b112fb9888bd7487507fb16604f00f90ee264ff8b0b6591"), looks := true }, kinds := [], alts := [], laidByText := true, laidKinds := [.data], laidTests := true, laidLooks := .later }
def FlexWritesUptoCardSaid : Prop := Claim7.holds Tryd.pinned (.plain (OpenSpec.upto flexWritesSpec)) flexWritesUptoCard

/-- THE SECOND FORM's CARD OF 'confluxlaw10.FlexOf'. -/
def flexOfUptoCard : Claim7 := { stood := { row := flexOfUptoRow, standIns := [], harness := (true, "511316a0fb0491594b112fb9888bd7487507fb16604f00f90ee264ff8b0b6591"), looks := true }, kinds := [], alts := [], laidByText := true, laidKinds := [.data], laidTests := true, laidLooks := .later }
def FlexOfUptoCardSaid : Prop := Claim7.holds Tryd.pinned (.plain (OpenSpec.upto flexOfSpec)) flexOfUptoCard

/-- THE SECOND FORM's CARD OF 'confluxlaw10.FlexBack'. -/
def flexBackUptoCard : Claim7 := { stood := { row := flexBackUptoRow, standIns := [], harness := (true, "511316a0fb0491594b112fb9888bd7487507fb16604f00f90ee264ff8b0b6591"), looks := true }, kinds := [], alts := [], laidByText := true, laidKinds := [.data], laidTests := true, laidLooks := .later }
def FlexBackUptoCardSaid : Prop := Claim7.holds Tryd.pinned (.plain (OpenSpec.upto flexBackSpec)) flexBackUptoCard

/-- THE SECOND FORM's CARD OF 'confluxlaw10.FlexGrids'. -/
def flexGridsUptoCard : Claim7 := { stood := { row := flexGridsUptoRow, standIns := [], harness := (true, "511316a0fb0491594b112fb9888bd7487507fb16604f00f90ee264ff8b0b6591"), looks := true }, kinds := [], alts := [], laidByText := true, laidKinds := [.data], laidTests := true, laidLooks := .later }
def FlexGridsUptoCardSaid : Prop := Claim7.holds Tryd.pinned (.plain (OpenSpec.upto flexGridsSpec)) flexGridsUptoCard
end Rows
end Go.Proofs.YtnloabpdjedanaaDoor
