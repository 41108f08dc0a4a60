/-
  DERIVED. GIVEN WITH THE SEED: THE CARDS: each row of YtflpengopdhhhaaDoorRows.lean that lists a variable, with what it lists TIED to the program's text (the seventh form; the later family's looks); each row that meets fmt, with fmt's text TOLD by the authors' own Lean function (tested against real Go, not proved from fmt's source: count such statements apart). THE CARD IS WHAT COUNTS. Prove the row's statement (the work); the ties are given (YtflpengopdhhhaaDoorTie.lean); close each card by the builder's one call (the guide's Derived/Test/ToyasCard.lean, 'card_holds'). Laid BY PROGRAM, IN A SANDBOX (cutbox-door.mjs). By AI agents, Wed Nov 11 2026. No macro, syntax, notation, axiom, sorry.
-/
import Derived.Test.YtflpengopdhhhaaDoorRows
import GoSem.ClaimSeven
namespace Go.Proofs.YtflpengopdhhhaaDoor
namespace Rows

/-- THE TIED CARD OF 'locumlaw18.FenceWell'. -/
def fenceWellCard : Claim7 := { stood := { row := fenceWellRow, standIns := [], harness := (true, "ca08c9225819b875d374f0caed50b2fa25d311aeaa242f8a3d3869707b851935"), looks := false }, kinds := [], alts := [], laidByText := true, laidKinds := [.data], laidTests := true, laidLooks := .later }
def FenceWellCardSaid : Prop := Claim7.holds Tryd.pinned (.plain (OpenSpec.ofChange fenceWellSpec)) fenceWellCard

/-- THE TIED CARD OF 'locumlaw18.FenceWrites'. -/
def fenceWritesCard : Claim7 := { stood := { row := fenceWritesRow, standIns := [], harness := (true, "ca08c9225819b875d374f0caed50b2fa25d311aeaa242f8a3d3869707b851935"), looks := false }, kinds := [], alts := [], laidByText := true, laidKinds := [.data], laidTests := true, laidLooks := .later }
def FenceWritesCardSaid : Prop := Claim7.holds Tryd.pinned (.plain (OpenSpec.ofChange fenceWritesSpec)) fenceWritesCard

/-- THE TIED CARD OF 'locumlaw18.FenceFalls'. -/
def fenceFallsCard : Claim7 := { stood := { row := fenceFallsRow, standIns := [], harness := (true, "ca08c9225819b875d374f0caed50b2fa25d311aeaa242f8a3d3869707b851935"), looks := false }, kinds := [], alts := [], laidByText := true, laidKinds := [.data], laidTests := true, laidLooks := .later }
def FenceFallsCardSaid : Prop := Claim7.holds Tryd.pinned (.plain (OpenSpec.ofChange fenceFallsSpec)) fenceFallsCard

/-- THE TIED CARD OF 'locumlaw18.FenceLeased'. -/
def fenceLeasedCard : Claim7 := { stood := { row := fenceLeasedRow, standIns := [], harness := (true, "ca08c9225819b875d374f0caed50b2fa25d311aeaa242f8a3d3869707b851935"), looks := false }, kinds := [], alts := [], laidByText := true, laidKinds := [.data], laidTests := true, laidLooks := .later }
def FenceLeasedCardSaid : Prop := Claim7.holds Tryd.pinned (.plain (OpenSpec.ofChange fenceLeasedSpec)) fenceLeasedCard

/-- THE TIED CARD OF 'locumlaw18.FenceOnce'. -/
def fenceOnceCard : Claim7 := { stood := { row := fenceOnceRow, standIns := [], harness := (true, "ca08c9225819b875d374f0caed50b2fa25d311aeaa242f8a3d3869707b851935"), looks := false }, kinds := [], alts := [], laidByText := true, laidKinds := [.data], laidTests := true, laidLooks := .later }
def FenceOnceCardSaid : Prop := Claim7.holds Tryd.pinned (.plain (OpenSpec.ofChange fenceOnceSpec)) fenceOnceCard

/-- THE SECOND FORM's CARD OF 'locumlaw18.FenceWell'. -/
def fenceWellUptoCard : Claim7 := { stood := { row := fenceWellUptoRow, standIns := [], harness := (true, "ca08c9225819b875d374f0caed50b2fa25d311aeaa242f8a3d3869707b851935"), looks := false }, kinds := [], alts := [], laidByText := true, laidKinds := [.data], laidTests := true, laidLooks := .later }
def FenceWellUptoCardSaid : Prop := Claim7.holds Tryd.pinned (.plain (OpenSpec.upto fenceWellSpec)) fenceWellUptoCard

/-- THE SECOND FORM's CARD OF 'locumlaw18.FenceWrites'. -/
def fenceWritesUptoCard : Claim7 := { stood := { row := fenceWritesUptoRow, standIns := [], harness := (true, "ca08c9225819b875d374f0caed50b2fa25d311aeaa242f8a3d3869707b851935"), looks := false }, kinds := [], alts := [], laidByText := true, laidKinds := [.data], laidTests := true, laidLooks := .later }
def FenceWritesUptoCardSaid : Prop := Claim7.holds Tryd.pinned (.plain (OpenSpec.upto fenceWritesSpec)) fenceWritesUptoCard

/-- THE SECOND FORM's CARD OF 'locumlaw18.FenceFalls'. -/
def fenceFallsUptoCard : Claim7 := { stood := { row := fenceFallsUptoRow, standIns := [], harness := (true, "ca08c9225819b875d374f0caed50b2fa25d311aeaa242f8a3d3869707b851935"), looks := false }, kinds := [], alts := [], laidByText := true, laidKinds := [.data], laidTests := true, laidLooks := .later }
def FenceFallsUptoCardSaid : Prop := Claim7.holds Tryd.pinned (.plain (OpenSpec.upto fenceFallsSpec)) fenceFallsUptoCard

/-- THE SECOND FORM's CARD OF 'locumlaw18.FenceLeased'. -/
def fenceLeasedUptoCard : Claim7 := { stood := { row := fenceLeasedUptoRow, standIns := [], harness := (true, "ca08c9225819b875d374f0caed50b2fa25d311aeaa242f8a3d3869707b851935"), looks := false }, kinds := [], alts := [], laidByText := true, laidKinds := [.data], laidTests := true, laidLooks := .later }
def FenceLeasedUptoCardSaid : Prop := Claim7.holds Tryd.pinned (.plain (OpenSpec.upto fenceLeasedSpec)) fenceLeasedUptoCard

/-- THE SECOND FORM's CARD OF 'locumlaw18.FenceOnce'. -/
def fenceOnceUptoCard : Claim7 := { stood := { row := fenceOnceUptoRow, standIns := [], harness := (true, "ca08c9225819b875d374f0caed50b2fa25d311aeaa242f8a3d3869707b851935"), looks := false }, kinds := [], alts := [], laidByText := true, laidKinds := [.data], laidTests := true, laidLooks := .later }
def FenceOnceUptoCardSaid : Prop := Claim7.holds Tryd.pinned (.plain (OpenSpec.upto fenceOnceSpec)) fenceOnceUptoCard
end Rows
end Go.Proofs.YtflpengopdhhhaaDoor
