/-
  DERIVED. GIVEN WITH THE SEED: THE CARDS: each row of YthdkeggdipogoaaGreatDoorRows.lean that lists a variable, with what it lists TIED to the program's text (the seventh form; the later family's looks); each row that meets fmt, with fmt's text TOLD by the authors' own Lean function (tested against real Go, not proved from fmt's source: count such statements apart). THE CARD IS WHAT COUNTS. Prove the row's statement (the work); the ties are given (YthdkeggdipogoaaGreatDoorTie.lean); close each card by the builder's one call (the guide's Derived/Test/ToyasCard.lean, 'card_holds'). Laid BY PROGRAM, IN A SANDBOX (cutbox-door.mjs). By AI agents, Wed Nov 11 2026. No macro, syntax, notation, axiom, sorry.
-/
import Derived.Test.YthdkeggdipogoaaGreatDoorRows
import GoSem.ClaimSeven
namespace Go.Proofs.YthdkeggdipogoaaGreatDoor
namespace Rows

/-- THE TIED CARD OF 'augurylaw10.NormTells'. -/
def normTellsCard : Claim7 := { stood := { row := normTellsRow, standIns := [], harness := (true, "a62cbb5ad77a954691d510a9215302b2979dd7be6eb8f1be153fb2889b6ae74b"), looks := true }, kinds := [], alts := [], laidByText := true, laidKinds := [.data, .data, .data], laidTests := true, laidLooks := .later }
def NormTellsCardSaid : Prop := Claim7.holds Tryz.pinned (.plain (OpenSpec.ofChange normTellsSpec)) normTellsCard

/-- THE TIED CARD OF 'augurylaw10.NormOrder'. -/
def normOrderCard : Claim7 := { stood := { row := normOrderRow, standIns := [], harness := (true, "a62cbb5ad77a954691d510a9215302b2979dd7be6eb8f1be153fb2889b6ae74b"), looks := true }, kinds := [], alts := [], laidByText := true, laidKinds := [.data, .data, .data], laidTests := true, laidLooks := .later }
def NormOrderCardSaid : Prop := Claim7.holds Tryz.pinned (.plain (OpenSpec.ofChange normOrderSpec)) normOrderCard

/-- THE TIED CARD OF 'augurylaw10.NormPlaces'. -/
def normPlacesCard : Claim7 := { stood := { row := normPlacesRow, standIns := [], harness := (true, "a62cbb5ad77a954691d510a9215302b2979dd7be6eb8f1be153fb2889b6ae74b"), looks := true }, kinds := [], alts := [], laidByText := true, laidKinds := [.data, .data, .data], laidTests := true, laidLooks := .later }
def NormPlacesCardSaid : Prop := Claim7.holds Tryz.pinned (.plain (OpenSpec.ofChange normPlacesSpec)) normPlacesCard

/-- THE TIED CARD OF 'augurylaw10.NormFolds'. -/
def normFoldsCard : Claim7 := { stood := { row := normFoldsRow, standIns := [], harness := (true, "a62cbb5ad77a954691d510a9215302b2979dd7be6eb8f1be153fb2889b6ae74b"), looks := true }, kinds := [], alts := [], laidByText := true, laidKinds := [.data, .data, .data], laidTests := true, laidLooks := .later }
def NormFoldsCardSaid : Prop := Claim7.holds Tryz.pinned (.plain (OpenSpec.ofChange normFoldsSpec)) normFoldsCard

/-- THE TIED CARD OF 'augurylaw10.NormOnce'. -/
def normOnceCard : Claim7 := { stood := { row := normOnceRow, standIns := [], harness := (true, "a62cbb5ad77a954691d510a9215302b2979dd7be6eb8f1be153fb2889b6ae74b"), looks := true }, kinds := [], alts := [], laidByText := true, laidKinds := [.data, .data, .data], laidTests := true, laidLooks := .later }
def NormOnceCardSaid : Prop := Claim7.holds Tryz.pinned (.plain (OpenSpec.ofChange normOnceSpec)) normOnceCard

/-- THE TIED CARD OF 'augurylaw11.EvalNorm'. -/
def evalNormCard : Claim7 := { stood := { row := evalNormRow, standIns := [], harness := (true, "a62cbb5ad77a954691d510a9215302b2979dd7be6eb8f1be153fb2889b6ae74b"), looks := true }, kinds := [], alts := [], laidByText := true, laidKinds := [.data, .data, .data], laidTests := true, laidLooks := .later }
def EvalNormCardSaid : Prop := Claim7.holds Tryz.pinned (.plain (OpenSpec.ofChange evalNormSpec)) evalNormCard

/-- THE TIED CARD OF 'augurylaw10.NormAsked'. -/
def normAskedCard : Claim7 := { stood := { row := normAskedRow, standIns := [], harness := (true, "a62cbb5ad77a954691d510a9215302b2979dd7be6eb8f1be153fb2889b6ae74b"), looks := true }, kinds := [], alts := [], laidByText := true, laidKinds := [.data, .data, .data, .handle], laidTests := true, laidLooks := .later }
def NormAskedCardSaid : Prop := Claim7.holds Tryz.pinned (.plain (OpenSpec.ofChange normAskedSpec)) normAskedCard

/-- THE SECOND FORM's CARD OF 'augurylaw10.NormTells'. -/
def normTellsUptoCard : Claim7 := { stood := { row := normTellsUptoRow, standIns := [], harness := (true, "a62cbb5ad77a954691d510a9215302b2979dd7be6eb8f1be153fb2889b6ae74b"), looks := true }, kinds := [], alts := [], laidByText := true, laidKinds := [.data, .data, .data], laidTests := true, laidLooks := .later }
def NormTellsUptoCardSaid : Prop := Claim7.holds Tryz.pinned (.plain (OpenSpec.upto normTellsSpec)) normTellsUptoCard

/-- THE SECOND FORM's CARD OF 'augurylaw10.NormOrder'. -/
def normOrderUptoCard : Claim7 := { stood := { row := normOrderUptoRow, standIns := [], harness := (true, "a62cbb5ad77a954691d510a9215302b2979dd7be6eb8f1be153fb2889b6ae74b"), looks := true }, kinds := [], alts := [], laidByText := true, laidKinds := [.data, .data, .data], laidTests := true, laidLooks := .later }
def NormOrderUptoCardSaid : Prop := Claim7.holds Tryz.pinned (.plain (OpenSpec.upto normOrderSpec)) normOrderUptoCard

/-- THE SECOND FORM's CARD OF 'augurylaw10.NormPlaces'. -/
def normPlacesUptoCard : Claim7 := { stood := { row := normPlacesUptoRow, standIns := [], harness := (true, "a62cbb5ad77a954691d510a9215302b2979dd7be6eb8f1be153fb2889b6ae74b"), looks := true }, kinds := [], alts := [], laidByText := true, laidKinds := [.data, .data, .data], laidTests := true, laidLooks := .later }
def NormPlacesUptoCardSaid : Prop := Claim7.holds Tryz.pinned (.plain (OpenSpec.upto normPlacesSpec)) normPlacesUptoCard

/-- THE SECOND FORM's CARD OF 'augurylaw10.NormFolds'. -/
def normFoldsUptoCard : Claim7 := { stood := { row := normFoldsUptoRow, standIns := [], harness := (true, "a62cbb5ad77a954691d510a9215302b2979dd7be6eb8f1be153fb2889b6ae74b"), looks := true }, kinds := [], alts := [], laidByText := true, laidKinds := [.data, .data, .data], laidTests := true, laidLooks := .later }
def NormFoldsUptoCardSaid : Prop := Claim7.holds Tryz.pinned (.plain (OpenSpec.upto normFoldsSpec)) normFoldsUptoCard

/-- THE SECOND FORM's CARD OF 'augurylaw10.NormOnce'. -/
def normOnceUptoCard : Claim7 := { stood := { row := normOnceUptoRow, standIns := [], harness := (true, "a62cbb5ad77a954691d510a9215302b2979dd7be6eb8f1be153fb2889b6ae74b"), looks := true }, kinds := [], alts := [], laidByText := true, laidKinds := [.data, .data, .data], laidTests := true, laidLooks := .later }
def NormOnceUptoCardSaid : Prop := Claim7.holds Tryz.pinned (.plain (OpenSpec.upto normOnceSpec)) normOnceUptoCard

/-- THE SECOND FORM's CARD OF 'augurylaw11.EvalNorm'. -/
def evalNormUptoCard : Claim7 := { stood := { row := evalNormUptoRow, standIns := [], harness := (true, "a62cbb5ad77a954691d510a9215302b2979dd7be6eb8f1be153fb2889b6ae74b"), looks := true }, kinds := [], alts := [], laidByText := true, laidKinds := [.data, .data, .data], laidTests := true, laidLooks := .later }
def EvalNormUptoCardSaid : Prop := Claim7.holds Tryz.pinned (.plain (OpenSpec.upto evalNormSpec)) evalNormUptoCard

/-- THE SECOND FORM's CARD OF 'augurylaw10.NormAsked'. -/
def normAskedUptoCard : Claim7 := { stood := { row := normAskedUptoRow, standIns := [], harness := (true, "a62cbb5ad77a954691d510a9215302b2979dd7be6eb8f1be153fb2889b6ae74b"), looks := true }, kinds := [], alts := [], laidByText := true, laidKinds := [.data, .data, .data, .handle], laidTests := true, laidLooks := .later }
def NormAskedUptoCardSaid : Prop := Claim7.holds Tryz.pinned (.plain (OpenSpec.upto normAskedSpec)) normAskedUptoCard
end Rows
end Go.Proofs.YthdkeggdipogoaaGreatDoor
