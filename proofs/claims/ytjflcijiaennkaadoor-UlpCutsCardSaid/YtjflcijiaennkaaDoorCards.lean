/-
  DERIVED. GIVEN WITH THE SEED: THE CARDS: each row of YtjflcijiaennkaaDoorRows.lean that lists a variable, with what it lists TIED to the program's text (the seventh form; the later family's looks); each row that meets fmt, with fmt's text TOLD by the authors' own Lean function (tested against real Go, not proved from fmt's source: count such statements apart). THE CARD IS WHAT COUNTS. Prove the row's statement (the work); the ties are given (YtjflcijiaennkaaDoorTie.lean); close each card by the builder's one call (the guide's Derived/Test/ToyasCard.lean, 'card_holds'). Laid BY PROGRAM, IN A SANDBOX (cutbox-door.mjs). By AI agents, Wed Nov 11 2026. No macro, syntax, notation, axiom, sorry.
-/
import Derived.Test.YtjflcijiaennkaaDoorRows
import GoSem.ClaimSeven
namespace Go.Proofs.YtjflcijiaennkaaDoor
namespace Rows

/-- THE TIED CARD OF 'confluxlaw09.UlpParses'. -/
def ulpParsesCard : Claim7 := { stood := { row := ulpParsesRow, standIns := [], harness := (true, "e22030150ddab186fde16e98c321f37b4177bf0b9169d4d71e986e24a1bd4504"), looks := true }, kinds := [], alts := [], laidByText := true, laidKinds := [.data], laidTests := true, laidLooks := .later }
def UlpParsesCardSaid : Prop := Claim7.holds Tryd.pinned (.plain (OpenSpec.ofChange ulpParsesSpec)) ulpParsesCard

/-- THE TIED CARD OF 'confluxlaw09.UlpWrites'. -/
def ulpWritesCard : Claim7 := { stood := { row := ulpWritesRow, standIns := [], harness := (true, "e22030150ddab186fde16e98c321f37b4177bf0b9169d4d71e986e24a1bd4504"), looks := true }, kinds := [], alts := [], laidByText := true, laidKinds := [.data], laidTests := true, laidLooks := .later }
def UlpWritesCardSaid : Prop := Claim7.holds Tryd.pinned (.plain (OpenSpec.ofChange ulpWritesSpec)) ulpWritesCard

/-- THE TIED CARD OF 'confluxlaw09.UlpOf'. -/
def ulpOfCard : Claim7 := { stood := { row := ulpOfRow, standIns := [], harness := (true, "e22030150ddab186fde16e98c321f37b4177bf0b9169d4d71e986e24a1bd4504"), looks := true }, kinds := [], alts := [], laidByText := true, laidKinds := [.data], laidTests := true, laidLooks := .later }
def UlpOfCardSaid : Prop := Claim7.holds Tryd.pinned (.plain (OpenSpec.ofChange ulpOfSpec)) ulpOfCard

/-- THE TIED CARD OF 'confluxlaw09.UlpBack'. -/
def ulpBackCard : Claim7 := { stood := { row := ulpBackRow, standIns := [], harness := (true, "e22030150ddab186fde16e98c321f37b4177bf0b9169d4d71e986e24a1bd4504"), looks := true }, kinds := [], alts := [], laidByText := true, laidKinds := [.data], laidTests := true, laidLooks := .later }
def UlpBackCardSaid : Prop := Claim7.holds Tryd.pinned (.plain (OpenSpec.ofChange ulpBackSpec)) ulpBackCard

/-- THE TIED CARD OF 'confluxlaw09.UlpCuts'. -/
def ulpCutsCard : Claim7 := { stood := { row := ulpCutsRow, standIns := [], harness := (true, "e22030150ddab186fde16e98c321f37b4177bf0b9169d4d71e986e24a1bd4504"), looks := true }, kinds := [], alts := [], laidByText := true, laidKinds := [.data], laidTests := true, laidLooks := .later }
def UlpCutsCardSaid : Prop := Claim7.holds Tryd.pinned (.plain (OpenSpec.ofChange ulpCutsSpec)) ulpCutsCard

/-- THE SECOND FORM's CARD OF 'confluxlaw09.UlpParses'. -/
def ulpParsesUptoCard : Claim7 := { stood := { row := ulpParsesUptoRow, standIns := [], harness := (true, "e22030150ddab186fde16e98c321f37b4177bf0b9169d4d71e986e24a1bd4504"), looks := true }, kinds := [], alts := [], laidByText := true, laidKinds := [.data], laidTests := true, laidLooks := .later }
def UlpParsesUptoCardSaid : Prop := Claim7.holds Tryd.pinned (.plain (OpenSpec.upto ulpParsesSpec)) ulpParsesUptoCard

/-- THE SECOND FORM's CARD OF 'confluxlaw09.UlpWrites'. -/
def ulpWritesUptoCard : Claim7 := { stood := { row := ulpWritesUptoRow, standIns := [], harness := (true, "e22030150ddab186fde16e98c321f37b4177bf0b9169d4d71e986e24a1bd4504"), looks := true }, kinds := [], alts := [], laidByText := true, laidKinds := [.data], laidTests := true, laidLooks := .later }
def UlpWritesUptoCardSaid : Prop := Claim7.holds Tryd.pinned (.plain (OpenSpec.upto ulpWritesSpec)) ulpWritesUptoCard

/-- THE SECOND FORM's CARD OF 'confluxlaw09.UlpOf'. -/
def ulpOfUptoCard : Claim7 := { stood := { row := ulpOfUptoRow, standIns := [], harness := (true, "e22030150ddab186fde16e98c321f37b4177bf0b9169d4d71e986e24a1bd4504"), looks := true }, kinds := [], alts := [], laidByText := true, laidKinds := [.data], laidTests := true, laidLooks := .later }
def UlpOfUptoCardSaid : Prop := Claim7.holds Tryd.pinned (.plain (OpenSpec.upto ulpOfSpec)) ulpOfUptoCard

/-- THE SECOND FORM's CARD OF 'confluxlaw09.UlpBack'. -/
def ulpBackUptoCard : Claim7 := { stood := { row := ulpBackUptoRow, standIns := [], harness := (true, "e22030150ddab186fde16e98c321f37b4177bf0b9169d4d71e986e24a1bd4504"), looks := true }, kinds := [], alts := [], laidByText := true, laidKinds := [.data], laidTests := true, laidLooks := .later }
def UlpBackUptoCardSaid : Prop := Claim7.holds Tryd.pinned (.plain (OpenSpec.upto ulpBackSpec)) ulpBackUptoCard

/-- THE SECOND FORM's CARD OF 'confluxlaw09.UlpCuts'. -/
def ulpCutsUptoCard : Claim7 := { stood := { row := ulpCutsUptoRow, standIns := [], harness := (true, "e22030150ddab186fde16e98c321f37b4177bf0b9169d4d71e986e24a1bd4504"), looks := true }, kinds := [], alts := [], laidByText := true, laidKinds := [.data], laidTests := true, laidLooks := .later }
def UlpCutsUptoCardSaid : Prop := Claim7.holds Tryd.pinned (.plain (OpenSpec.upto ulpCutsSpec)) ulpCutsUptoCard
end Rows
end Go.Proofs.YtjflcijiaennkaaDoor
