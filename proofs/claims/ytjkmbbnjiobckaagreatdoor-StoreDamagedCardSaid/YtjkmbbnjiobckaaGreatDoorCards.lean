/-
  DERIVED. GIVEN WITH THE SEED: THE CARDS: each row of YtjkmbbnjiobckaaGreatDoorRows.lean that lists a variable, with what it lists TIED to the program's text (the seventh form; the later family's looks); each row that meets fmt, with fmt's text TOLD by the authors' own Lean function (tested against real Go, not proved from fmt's source: count such statements apart). THE CARD IS WHAT COUNTS. Prove the row's statement (the work); the ties are given (YtjkmbbnjiobckaaGreatDoorTie.lean); close each card by the builder's one call (the guide's Derived/Test/ToyasCard.lean, 'card_holds'). Laid BY PROGRAM, IN A SANDBOX (cutbox-door.mjs). By AI agents, Wed Nov 11 2026. No macro, syntax, notation, axiom, sorry.
-/
import Derived.Test.YtjkmbbnjiobckaaGreatDoorRows
import GoSem.ClaimSeven
namespace Go.Proofs.YtjkmbbnjiobckaaGreatDoor
namespace Rows

/-- THE TIED CARD OF 'flagstonelaw33.StoreDamaged'. -/
def storeDamagedCard : Claim7 := { stood := { row := storeDamagedRow, standIns := [], harness := (true, "8b7ac111d124187b49d5c68f65da622aa1ee0280345d3dd34025d74b17c1fdc3"), looks := false }, kinds := [], alts := [], laidByText := true, laidKinds := [.listed, .data], laidTests := true, laidLooks := .later }
def StoreDamagedCardSaid : Prop := Claim7.holds Tryz.pinned (.plain (OpenSpec.ofChange storeDamagedSpec)) storeDamagedCard

/-- THE TIED CARD OF 'flagstonelaw33.StorePlays'. -/
def storePlaysCard : Claim7 := { stood := { row := storePlaysRow, standIns := [], harness := (true, "8b7ac111d124187b49d5c68f65da622aa1ee0280345d3dd34025d74b17c1fdc3"), looks := false }, kinds := [], alts := [], laidByText := true, laidKinds := [.listed, .data], laidTests := true, laidLooks := .later }
def StorePlaysCardSaid : Prop := Claim7.holds Tryz.pinned (.plain (OpenSpec.ofChange storePlaysSpec)) storePlaysCard

/-- THE TIED CARD OF 'flagstonelaw33.StoreKeeps'. -/
def storeKeepsCard : Claim7 := { stood := { row := storeKeepsRow, standIns := [], harness := (true, "8b7ac111d124187b49d5c68f65da622aa1ee0280345d3dd34025d74b17c1fdc3"), looks := false }, kinds := [], alts := [], laidByText := true, laidKinds := [.listed, .data], laidTests := true, laidLooks := .later }
def StoreKeepsCardSaid : Prop := Claim7.holds Tryz.pinned (.plain (OpenSpec.ofChange storeKeepsSpec)) storeKeepsCard

/-- THE TIED CARD OF 'flagstonelaw33.StoreCrashes'. -/
def storeCrashesCard : Claim7 := { stood := { row := storeCrashesRow, standIns := [], harness := (true, "8b7ac111d124187b49d5c68f65da622aa1ee0280345d3dd34025d74b17c1fdc3"), looks := false }, kinds := [], alts := [], laidByText := true, laidKinds := [.listed, .data], laidTests := true, laidLooks := .later }
def StoreCrashesCardSaid : Prop := Claim7.holds Tryz.pinned (.plain (OpenSpec.ofChange storeCrashesSpec)) storeCrashesCard

/-- THE SECOND FORM's CARD OF 'flagstonelaw33.StoreDamaged'. -/
def storeDamagedUptoCard : Claim7 := { stood := { row := storeDamagedUptoRow, standIns := [], harness := (true, "8b7ac111d124187b49d5c68f65da622aa1ee0280345d3dd34025d74b17c1fdc3"), looks := false }, kinds := [], alts := [], laidByText := true, laidKinds := [.listed, .data], laidTests := true, laidLooks := .later }
def StoreDamagedUptoCardSaid : Prop := Claim7.holds Tryz.pinned (.plain (OpenSpec.upto storeDamagedSpec)) storeDamagedUptoCard

/-- THE SECOND FORM's CARD OF 'flagstonelaw33.StorePlays'. -/
def storePlaysUptoCard : Claim7 := { stood := { row := storePlaysUptoRow, standIns := [], harness := (true, "8b7ac111d124187b49d5c68f65da622aa1ee0280345d3dd34025d74b17c1fdc3"), looks := false }, kinds := [], alts := [], laidByText := true, laidKinds := [.listed, .data], laidTests := true, laidLooks := .later }
def StorePlaysUptoCardSaid : Prop := Claim7.holds Tryz.pinned (.plain (OpenSpec.upto storePlaysSpec)) storePlaysUptoCard

/-- THE SECOND FORM's CARD OF 'flagstonelaw33.StoreKeeps'. -/
def storeKeepsUptoCard : Claim7 := { stood := { row := storeKeepsUptoRow, standIns := [], harness := (true, "8b7ac111d124187b49d5c68f65da622aa1ee0280345d3dd34025d74b17c1fdc3"), looks := false }, kinds := [], alts := [], laidByText := true, laidKinds := [.listed, .data], laidTests := true, laidLooks := .later }
def StoreKeepsUptoCardSaid : Prop := Claim7.holds Tryz.pinned (.plain (OpenSpec.upto storeKeepsSpec)) storeKeepsUptoCard

/-- THE SECOND FORM's CARD OF 'flagstonelaw33.StoreCrashes'. -/
def storeCrashesUptoCard : Claim7 := { stood := { row := storeCrashesUptoRow, standIns := [], harness := (true, "8b7ac111d124187b49d5c68f65da622aa1ee0280345d3dd34025d74b17c1fdc3"), looks := false }, kinds := [], alts := [], laidByText := true, laidKinds := [.listed, .data], laidTests := true, laidLooks := .later }
def StoreCrashesUptoCardSaid : Prop := Claim7.holds Tryz.pinned (.plain (OpenSpec.upto storeCrashesSpec)) storeCrashesUptoCard
end Rows
end Go.Proofs.YtjkmbbnjiobckaaGreatDoor
