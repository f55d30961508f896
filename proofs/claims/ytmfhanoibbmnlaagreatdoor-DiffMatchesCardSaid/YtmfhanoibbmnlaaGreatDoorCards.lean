/-
  DERIVED. GIVEN WITH THE SEED: THE CARDS: each row of YtmfhanoibbmnlaaGreatDoorRows.lean that lists a variable, with what it lists TIED to the program's text (the seventh form; the later family's looks); each row that meets fmt, with fmt's text TOLD by the authors' own Lean function (tested against real Go, not proved from fmt's source: count such statements apart). THE CARD IS WHAT COUNTS. Prove the row's statement (the work); the ties are given (YtmfhanoibbmnlaaGreatDoorTie.lean); close each card by the builder's one call (the guide's Derived/Test/ToyasCard.lean, 'card_holds'). Laid BY PROGRAM, IN A SANDBOX (cutbox-door.mjs). By AI agents, Wed Nov 11 2026. No macro, syntax, notation, axiom, sorry.
-/
import Derived.Test.YtmfhanoibbmnlaaGreatDoorRows
import GoSem.ClaimSeven
namespace Go.Proofs.YtmfhanoibbmnlaaGreatDoor
namespace Rows

/-- THE TIED CARD OF 'augurylaw19.DiffTells'. -/
def diffTellsCard : Claim7 := { stood := { row := diffTellsRow, standIns := [], harness := (true, "d97b3e467d85f09ce8ad0d56c4826768a5612a17c76decb946abe20cd376cc63"), looks := false }, kinds := [], alts := [], laidByText := true, laidKinds := [.data, .data, .data], laidTests := true, laidLooks := .later }
def DiffTellsCardSaid : Prop := Claim7.holds Tryz.pinned (.plain (OpenSpec.ofChange diffTellsSpec)) diffTellsCard

/-- THE TIED CARD OF 'augurylaw19.DiffOther'. -/
def diffOtherCard : Claim7 := { stood := { row := diffOtherRow, standIns := [], harness := (true, "d97b3e467d85f09ce8ad0d56c4826768a5612a17c76decb946abe20cd376cc63"), looks := false }, kinds := [], alts := [], laidByText := true, laidKinds := [.data, .data, .data], laidTests := true, laidLooks := .later }
def DiffOtherCardSaid : Prop := Claim7.holds Tryz.pinned (.plain (OpenSpec.ofChange diffOtherSpec)) diffOtherCard

/-- THE TIED CARD OF 'augurylaw19.DiffMatches'. -/
def diffMatchesCard : Claim7 := { stood := { row := diffMatchesRow, standIns := [], harness := (true, "d97b3e467d85f09ce8ad0d56c4826768a5612a17c76decb946abe20cd376cc63"), looks := false }, kinds := [], alts := [], laidByText := true, laidKinds := [.data, .data, .data], laidTests := true, laidLooks := .later }
def DiffMatchesCardSaid : Prop := Claim7.holds Tryz.pinned (.plain (OpenSpec.ofChange diffMatchesSpec)) diffMatchesCard

/-- THE SECOND FORM's CARD OF 'augurylaw19.DiffTells'. -/
def diffTellsUptoCard : Claim7 := { stood := { row := diffTellsUptoRow, standIns := [], harness := (true, "d97b3e467d85f09ce8ad0d56c4826768a5612a17c76decb946abe20cd376cc63"), looks := false }, kinds := [], alts := [], laidByText := true, laidKinds := [.data, .data, .data], laidTests := true, laidLooks := .later }
def DiffTellsUptoCardSaid : Prop := Claim7.holds Tryz.pinned (.plain (OpenSpec.upto diffTellsSpec)) diffTellsUptoCard

/-- THE SECOND FORM's CARD OF 'augurylaw19.DiffOther'. -/
def diffOtherUptoCard : Claim7 := { stood := { row := diffOtherUptoRow, standIns := [], harness := (true, "d97b3e467d85f09ce8ad0d56c4826768a5612a17c76decb946abe20cd376cc63"), looks := false }, kinds := [], alts := [], laidByText := true, laidKinds := [.data, .data, .data], laidTests := true, laidLooks := .later }
def DiffOtherUptoCardSaid : Prop := Claim7.holds Tryz.pinned (.plain (OpenSpec.upto diffOtherSpec)) diffOtherUptoCard

/-- THE SECOND FORM's CARD OF 'augurylaw19.DiffMatches'. -/
def diffMatchesUptoCard : Claim7 := { stood := { row := diffMatchesUptoRow, standIns := [], harness := (true, "d97b3e467d85f09ce8ad0d56c4826768a5612a17c76decb946abe20cd376cc63"), looks := false }, kinds := [], alts := [], laidByText := true, laidKinds := [.data, .data, .data], laidTests := true, laidLooks := .later }
def DiffMatchesUptoCardSaid : Prop := Claim7.holds Tryz.pinned (.plain (OpenSpec.upto diffMatchesSpec)) diffMatchesUptoCard
end Rows
end Go.Proofs.YtmfhanoibbmnlaaGreatDoor
