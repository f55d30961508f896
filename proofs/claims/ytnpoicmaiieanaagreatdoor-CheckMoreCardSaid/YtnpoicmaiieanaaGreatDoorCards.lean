/-
  DERIVED. GIVEN WITH THE SEED: THE CARDS: each row of YtnpoicmaiieanaaGreatDoorRows.lean that lists a variable, with what it lists TIED to the program's text (the seventh form; the later family's looks); each row that meets fmt, with fmt's text TOLD by the authors' own Lean function (tested against real Go, not proved from fmt's source: count such statements apart). THE CARD IS WHAT COUNTS. Prove the row's statement (the work); the ties are given (YtnpoicmaiieanaaGreatDoorTie.lean); close each card by the builder's one call (the guide's Derived/Test/ToyasCard.lean, 'card_holds'). Laid BY PROGRAM, IN A SANDBOX (cutbox-door.mjs). By AI agents, Wed Nov 11 2026. No macro, syntax, notation, axiom, sorry.
-/
import Derived.Test.YtnpoicmaiieanaaGreatDoorRows
import GoSem.ClaimSeven
namespace Go.Proofs.YtnpoicmaiieanaaGreatDoor
namespace Rows

/-- THE TIED CARD OF 'augurylaw09.CheckMore'. -/
def checkMoreCard : Claim7 := { stood := { row := checkMoreRow, standIns := [], harness := (true, "a42c4b729db43ddf2335e87661fb4e20247a4e1ccb06a27af7d0ee1db1b9896b"), looks := true }, kinds := [], alts := [], laidByText := true, laidKinds := [.handle], laidTests := true, laidLooks := .later }
def CheckMoreCardSaid : Prop := Claim7.holds Tryz.pinned (.plain (OpenSpec.ofChange checkMoreSpec)) checkMoreCard

/-- THE TIED CARD OF 'augurylaw09.CheckKinds'. -/
def checkKindsCard : Claim7 := { stood := { row := checkKindsRow, standIns := [], harness := (true, "a42c4b729db43ddf2335e87661fb4e20247a4e1ccb06a27af7d0ee1db1b9896b"), looks := true }, kinds := [], alts := [], laidByText := true, laidKinds := [.handle], laidTests := true, laidLooks := .later }
def CheckKindsCardSaid : Prop := Claim7.holds Tryz.pinned (.plain (OpenSpec.ofChange checkKindsSpec)) checkKindsCard

/-- THE TIED CARD OF 'augurylaw09.CheckVars'. -/
def checkVarsCard : Claim7 := { stood := { row := checkVarsRow, standIns := [], harness := (true, "a42c4b729db43ddf2335e87661fb4e20247a4e1ccb06a27af7d0ee1db1b9896b"), looks := true }, kinds := [], alts := [], laidByText := true, laidKinds := [.handle], laidTests := true, laidLooks := .later }
def CheckVarsCardSaid : Prop := Claim7.holds Tryz.pinned (.plain (OpenSpec.ofChange checkVarsSpec)) checkVarsCard

/-- THE TIED CARD OF 'augurylaw09.CheckFirst'. -/
def checkFirstCard : Claim7 := { stood := { row := checkFirstRow, standIns := [], harness := (true, "a42c4b729db43ddf2335e87661fb4e20247a4e1ccb06a27af7d0ee1db1b9896b"), looks := true }, kinds := [], alts := [], laidByText := true, laidKinds := [.handle], laidTests := true, laidLooks := .later }
def CheckFirstCardSaid : Prop := Claim7.holds Tryz.pinned (.plain (OpenSpec.ofChange checkFirstSpec)) checkFirstCard

/-- THE SECOND FORM's CARD OF 'augurylaw09.CheckMore'. -/
def checkMoreUptoCard : Claim7 := { stood := { row := checkMoreUptoRow, standIns := [], harness := (true, "a42c4b729db43ddf2335e87661fb4e20247a4e1ccb06a27af7d0ee1db1b9896b"), looks := true }, kinds := [], alts := [], laidByText := true, laidKinds := [.handle], laidTests := true, laidLooks := .later }
def CheckMoreUptoCardSaid : Prop := Claim7.holds Tryz.pinned (.plain (OpenSpec.upto checkMoreSpec)) checkMoreUptoCard

/-- THE SECOND FORM's CARD OF 'augurylaw09.CheckKinds'. -/
def checkKindsUptoCard : Claim7 := { stood := { row := checkKindsUptoRow, standIns := [], harness := (true, "a42c4b729db43ddf2335e87661fb4e20247a4e1ccb06a27af7d0ee1db1b9896b"), looks := true }, kinds := [], alts := [], laidByText := true, laidKinds := [.handle], laidTests := true, laidLooks := .later }
def CheckKindsUptoCardSaid : Prop := Claim7.holds Tryz.pinned (.plain (OpenSpec.upto checkKindsSpec)) checkKindsUptoCard

/-- THE SECOND FORM's CARD OF 'augurylaw09.CheckVars'. -/
def checkVarsUptoCard : Claim7 := { stood := { row := checkVarsUptoRow, standIns := [], harness := (true, "a42c4b729db43ddf2335e87661fb4e20247a4e1ccb06a27af7d0ee1db1b9896b"), looks := true }, kinds := [], alts := [], laidByText := true, laidKinds := [.handle], laidTests := true, laidLooks := .later }
def CheckVarsUptoCardSaid : Prop := Claim7.holds Tryz.pinned (.plain (OpenSpec.upto checkVarsSpec)) checkVarsUptoCard

/-- THE SECOND FORM's CARD OF 'augurylaw09.CheckFirst'. -/
def checkFirstUptoCard : Claim7 := { stood := { row := checkFirstUptoRow, standIns := [], harness := (true, "a42c4b729db43ddf2335e87661fb4e20247a4e1ccb06a27af7d0ee1db1b9896b"), looks := true }, kinds := [], alts := [], laidByText := true, laidKinds := [.handle], laidTests := true, laidLooks := .later }
def CheckFirstUptoCardSaid : Prop := Claim7.holds Tryz.pinned (.plain (OpenSpec.upto checkFirstSpec)) checkFirstUptoCard
end Rows
end Go.Proofs.YtnpoicmaiieanaaGreatDoor
