/-
  DERIVED. GIVEN WITH THE SEED: THE CARDS: each row of YtajehicfjidaiaaGreatDoorRows.lean that lists a variable, with what it lists TIED to the program's text (the seventh form; the later family's looks); each row that meets fmt, with fmt's text TOLD by the authors' own Lean function (tested against real Go, not proved from fmt's source: count such statements apart). THE CARD IS WHAT COUNTS. Prove the row's statement (the work); the ties are given (YtajehicfjidaiaaGreatDoorTie.lean); close each card by the builder's one call (the guide's Derived/Test/ToyasCard.lean, 'card_holds'). Laid BY PROGRAM, IN A SANDBOX (cutbox-door.mjs). By AI agents, Wed Nov 11 2026. No macro, syntax, notation, axiom, sorry.
-/
import Derived.Test.YtajehicfjidaiaaGreatDoorRows
import GoSem.ClaimSeven
namespace Go.Proofs.YtajehicfjidaiaaGreatDoor
namespace Rows

/-- THE TIED CARD OF 'locumlaw24.DeciderBallots'. -/
def deciderBallotsCard : Claim7 := { stood := { row := deciderBallotsRow, standIns := [], harness := (true, "e2ed939a75d1f644c2777f9b7915ebcae11448914a468b153afa5c2eae8f1bf4"), looks := false }, kinds := [], alts := [], laidByText := true, laidKinds := [.data, .data, .data], laidTests := true, laidLooks := .later }
def DeciderBallotsCardSaid : Prop := Claim7.holds Tryz.pinned (.plain (OpenSpec.ofChange deciderBallotsSpec)) deciderBallotsCard

/-- THE TIED CARD OF 'locumlaw24.DeciderKnows'. -/
def deciderKnowsCard : Claim7 := { stood := { row := deciderKnowsRow, standIns := [], harness := (true, "e2ed939a75d1f644c2777f9b7915ebcae11448914a468b153afa5c2eae8f1bf4"), looks := false }, kinds := [], alts := [], laidByText := true, laidKinds := [.data, .data, .data], laidTests := true, laidLooks := .later }
def DeciderKnowsCardSaid : Prop := Claim7.holds Tryz.pinned (.plain (OpenSpec.ofChange deciderKnowsSpec)) deciderKnowsCard

/-- THE TIED CARD OF 'locumlaw24.DeciderSays'. -/
def deciderSaysCard : Claim7 := { stood := { row := deciderSaysRow, standIns := [], harness := (true, "e2ed939a75d1f644c2777f9b7915ebcae11448914a468b153afa5c2eae8f1bf4"), looks := false }, kinds := [], alts := [], laidByText := true, laidKinds := [.data, .data, .data], laidTests := true, laidLooks := .later }
def DeciderSaysCardSaid : Prop := Claim7.holds Tryz.pinned (.plain (OpenSpec.ofChange deciderSaysSpec)) deciderSaysCard

/-- THE TIED CARD OF 'locumlaw24.DeciderProposes'. -/
def deciderProposesCard : Claim7 := { stood := { row := deciderProposesRow, standIns := [], harness := (true, "e2ed939a75d1f644c2777f9b7915ebcae11448914a468b153afa5c2eae8f1bf4"), looks := false }, kinds := [], alts := [], laidByText := true, laidKinds := [.data, .data, .data], laidTests := true, laidLooks := .later }
def DeciderProposesCardSaid : Prop := Claim7.holds Tryz.pinned (.plain (OpenSpec.ofChange deciderProposesSpec)) deciderProposesCard

/-- THE SECOND FORM's CARD OF 'locumlaw24.DeciderBallots'. -/
def deciderBallotsUptoCard : Claim7 := { stood := { row := deciderBallotsUptoRow, standIns := [], harness := (true, "e2ed939a75d1f644c2777f9b7915ebcae11448914a468b153afa5c2eae8f1bf4"), looks := false }, kinds := [], alts := [], laidByText := true, laidKinds := [.data, .data, .data], laidTests := true, laidLooks := .later }
def DeciderBallotsUptoCardSaid : Prop := Claim7.holds Tryz.pinned (.plain (OpenSpec.upto deciderBallotsSpec)) deciderBallotsUptoCard

/-- THE SECOND FORM's CARD OF 'locumlaw24.DeciderKnows'. -/
def deciderKnowsUptoCard : Claim7 := { stood := { row := deciderKnowsUptoRow, standIns := [], harness := (true, "e2ed939a75d1f644c2777f9b7915ebcae11448914a468b153afa5c2eae8f1bf4"), looks := false }, kinds := [], alts := [], laidByText := true, laidKinds := [.data, .data, .data], laidTests := true, laidLooks := .later }
def DeciderKnowsUptoCardSaid : Prop := Claim7.holds Tryz.pinned (.plain (OpenSpec.upto deciderKnowsSpec)) deciderKnowsUptoCard

/-- THE SECOND FORM's CARD OF 'locumlaw24.DeciderSays'. -/
def deciderSaysUptoCard : Claim7 := { stood := { row := deciderSaysUptoRow, standIns := [], harness := (true, "e2ed939a75d1f644c2777f9b7915ebcae11448914a468b153afa5c2eae8f1bf4"), looks := false }, kinds := [], alts := [], laidByText := true, laidKinds := [.data, .data, .data], laidTests := true, laidLooks := .later }
def DeciderSaysUptoCardSaid : Prop := Claim7.holds Tryz.pinned (.plain (OpenSpec.upto deciderSaysSpec)) deciderSaysUptoCard

/-- THE SECOND FORM's CARD OF 'locumlaw24.DeciderProposes'. -/
def deciderProposesUptoCard : Claim7 := { stood := { row := deciderProposesUptoRow, standIns := [], harness := (true, "e2ed939a75d1f644c2777f9b7915ebcae11448914a468b153afa5c2eae8f1bf4"), looks := false }, kinds := [], alts := [], laidByText := true, laidKinds := [.data, .data, .data], laidTests := true, laidLooks := .later }
def DeciderProposesUptoCardSaid : Prop := Claim7.holds Tryz.pinned (.plain (OpenSpec.upto deciderProposesSpec)) deciderProposesUptoCard
end Rows
end Go.Proofs.YtajehicfjidaiaaGreatDoor
