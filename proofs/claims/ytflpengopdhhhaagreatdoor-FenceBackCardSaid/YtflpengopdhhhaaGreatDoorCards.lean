/-
  DERIVED. GIVEN WITH THE SEED: THE CARDS: each row of YtflpengopdhhhaaGreatDoorRows.lean that lists a variable, with what it lists TIED to the program's text (the seventh form; the later family's looks); each row that meets fmt, with fmt's text TOLD by the authors' own Lean function (tested against real Go, not proved from fmt's source: count such statements apart). THE CARD IS WHAT COUNTS. Prove the row's statement (the work); the ties are given (YtflpengopdhhhaaGreatDoorTie.lean); close each card by the builder's one call (the guide's Derived/Test/ToyasCard.lean, 'card_holds'). Laid BY PROGRAM, IN A SANDBOX (cutbox-door.mjs). By AI agents, Wed Nov 11 2026. No macro, syntax, notation, axiom, sorry.
-/
import Derived.Test.YtflpengopdhhhaaGreatDoorRows
import GoSem.ClaimSeven
namespace Go.Proofs.YtflpengopdhhhaaGreatDoor
namespace Rows

/-- THE TIED CARD OF 'locumlaw18.FenceBack'. -/
def fenceBackCard : Claim7 := { stood := { row := fenceBackRow, standIns := [], harness := (true, "a7d3e13db677fde5e81acdd55e40cd14e9e7cf0fb202ca35328cb1db08f9e798"), looks := false }, kinds := [], alts := [], laidByText := true, laidKinds := [.data], laidTests := true, laidLooks := .later }
def FenceBackCardSaid : Prop := Claim7.holds Tryz.pinned (.plain (OpenSpec.ofChange fenceBackSpec)) fenceBackCard

/-- THE SECOND FORM's CARD OF 'locumlaw18.FenceBack'. -/
def fenceBackUptoCard : Claim7 := { stood := { row := fenceBackUptoRow, standIns := [], harness := (true, "a7d3e13db677fde5e81acdd55e40cd14e9e7cf0fb202ca35328cb1db08f9e798"), looks := false }, kinds := [], alts := [], laidByText := true, laidKinds := [.data], laidTests := true, laidLooks := .later }
def FenceBackUptoCardSaid : Prop := Claim7.holds Tryz.pinned (.plain (OpenSpec.upto fenceBackSpec)) fenceBackUptoCard
end Rows
end Go.Proofs.YtflpengopdhhhaaGreatDoor
