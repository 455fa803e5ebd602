/-
  DERIVED. GIVEN WITH THE SEED: THE CARDS: each row of YtlkhjffbhcjdfaaDoorRows.lean that lists a variable, with what it lists TIED to the program's text (the seventh form; the later family's looks); each row that meets fmt, with fmt's text TOLD by the authors' own Lean function (tested against real Go, not proved from fmt's source: count such statements apart). THE CARD IS WHAT COUNTS. Prove the row's statement (the work); the ties are given (YtlkhjffbhcjdfaaDoorTie.lean); close each card by the builder's one call (the guide's Derived/Test/ToyasCard.lean, 'card_holds'). Laid BY PROGRAM, IN A SANDBOX (cutbox-door.mjs). By AI agents, Wed Nov 11 2026. No macro, syntax, notation, axiom, sorry.
-/
import Derived.Test.YtlkhjffbhcjdfaaDoorRows
import GoSem.ClaimSeven
namespace Go.Proofs.YtlkhjffbhcjdfaaDoor
namespace Rows

/-- THE TIED CARD OF 'confluxlaw02.MaskOne'. -/
def maskOneCard : Claim7 := { stood := { row := maskOneRow, standIns := [], harness := (true, "f160a66ecd7a8c3c5e851ecb8ca863584d670f3fbb2cf76bc665c83341d2995f"), looks := false }, kinds := [], alts := [], laidByText := true, laidKinds := [.data, .data, .data], laidTests := true, laidLooks := .later }
def MaskOneCardSaid : Prop := Claim7.holds Tryd.pinned (.plain (OpenSpec.ofChange maskOneSpec)) maskOneCard

/-- THE TIED CARD OF 'confluxlaw02.MaskParts'. -/
def maskPartsCard : Claim7 := { stood := { row := maskPartsRow, standIns := [], harness := (true, "f160a66ecd7a8c3c5e851ecb8ca863584d670f3fbb2cf76bc665c83341d2995f"), looks := false }, kinds := [], alts := [], laidByText := true, laidKinds := [.data, .data, .data], laidTests := true, laidLooks := .later }
def MaskPartsCardSaid : Prop := Claim7.holds Tryd.pinned (.plain (OpenSpec.ofChange maskPartsSpec)) maskPartsCard

/-- THE TIED CARD OF 'confluxlaw02.MaskTwo'. -/
def maskTwoCard : Claim7 := { stood := { row := maskTwoRow, standIns := [], harness := (true, "f160a66ecd7a8c3c5e851ecb8ca863584d670f3fbb2cf76bc665c83341d2995f"), looks := false }, kinds := [], alts := [], laidByText := true, laidKinds := [.data, .data, .data], laidTests := true, laidLooks := .later }
def MaskTwoCardSaid : Prop := Claim7.holds Tryd.pinned (.plain (OpenSpec.ofChange maskTwoSpec)) maskTwoCard

/-- THE TIED CARD OF 'confluxlaw02.MaskBack'. -/
def maskBackCard : Claim7 := { stood := { row := maskBackRow, standIns := [], harness := (true, "f160a66ecd7a8c3c5e851ecb8ca863584d670f3fbb2cf76bc665c83341d2995f"), looks := false }, kinds := [], alts := [], laidByText := true, laidKinds := [.data, .data, .data], laidTests := true, laidLooks := .later }
def MaskBackCardSaid : Prop := Claim7.holds Tryd.pinned (.plain (OpenSpec.ofChange maskBackSpec)) maskBackCard

/-- THE TIED CARD OF 'confluxlaw02.MaskSteps'. -/
def maskStepsCard : Claim7 := { stood := { row := maskStepsRow, standIns := [], harness := (true, "f160a66ecd7a8c3c5e851ecb8ca863584d670f3fbb2cf76bc665c83341d2995f"), looks := false }, kinds := [], alts := [], laidByText := true, laidKinds := [.data, .data, .data], laidTests := true, laidLooks := .later }
def MaskStepsCardSaid : Prop := Claim7.holds Tryd.pinned (.plain (OpenSpec.ofChange maskStepsSpec)) maskStepsCard

/-- THE SECOND FORM's CARD OF 'confluxlaw02.MaskOne'. -/
def maskOneUptoCard : Claim7 := { stood := { row := maskOneUptoRow, standIns := [], harness := (true, "f160a66ecd7a8c3c5e851ecb8ca863584d670f3fbb2cf76bc665c83341d2995f"), looks := false }, kinds := [], alts := [], laidByText := true, laidKinds := [.data, .data, .data], laidTests := true, laidLooks := .later }
def MaskOneUptoCardSaid : Prop := Claim7.holds Tryd.pinned (.plain (OpenSpec.upto maskOneSpec)) maskOneUptoCard

/-- THE SECOND FORM's CARD OF 'confluxlaw02.MaskParts'. -/
def maskPartsUptoCard : Claim7 := { stood := { row := maskPartsUptoRow, standIns := [], harness := (true, "f160a66ecd7a8c3c5e851ecb8ca863584d670f3fbb2cf76bc665c83341d2995f"), looks := false }, kinds := [], alts := [], laidByText := true, laidKinds := [.data, .data, .data], laidTests := true, laidLooks := .later }
def MaskPartsUptoCardSaid : Prop := Claim7.holds Tryd.pinned (.plain (OpenSpec.upto maskPartsSpec)) maskPartsUptoCard

/-- THE SECOND FORM's CARD OF 'confluxlaw02.MaskTwo'. -/
def maskTwoUptoCard : Claim7 := { stood := { row := maskTwoUptoRow, standIns := [], harness := (true, "f160a66ecd7a8c3c5e851ecb8ca863584d670f3fbb2cf76bc665c83341d2995f"), looks := false }, kinds := [], alts := [], laidByText := true, laidKinds := [.data, .data, .data], laidTests := true, laidLooks := .later }
def MaskTwoUptoCardSaid : Prop := Claim7.holds Tryd.pinned (.plain (OpenSpec.upto maskTwoSpec)) maskTwoUptoCard

/-- THE SECOND FORM's CARD OF 'confluxlaw02.MaskBack'. -/
def maskBackUptoCard : Claim7 := { stood := { row := maskBackUptoRow, standIns := [], harness := (true, "f160a66ecd7a8c3c5e851ecb8ca863584d670f3fbb2cf76bc665c83341d2995f"), looks := false }, kinds := [], alts := [], laidByText := true, laidKinds := [.data, .data, .data], laidTests := true, laidLooks := .later }
def MaskBackUptoCardSaid : Prop := Claim7.holds Tryd.pinned (.plain (OpenSpec.upto maskBackSpec)) maskBackUptoCard

/-- THE SECOND FORM's CARD OF 'confluxlaw02.MaskSteps'. -/
def maskStepsUptoCard : Claim7 := { stood := { row := maskStepsUptoRow, standIns := [], harness := (true, "f160a66ecd7a8c3c5e851ecb8ca863584d670f3fbb2cf76bc665c83341d2995f"), looks := false }, kinds := [], alts := [], laidByText := true, laidKinds := [.data, .data, .data], laidTests := true, laidLooks := .later }
def MaskStepsUptoCardSaid : Prop := Claim7.holds Tryd.pinned (.plain (OpenSpec.upto maskStepsSpec)) maskStepsUptoCard
end Rows
end Go.Proofs.YtlkhjffbhcjdfaaDoor
