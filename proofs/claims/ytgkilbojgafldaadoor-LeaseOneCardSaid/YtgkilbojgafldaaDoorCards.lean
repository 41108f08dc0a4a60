/-
  DERIVED. GIVEN WITH THE SEED: THE CARDS: each row of YtgkilbojgafldaaDoorRows.lean that lists a variable, with what it lists TIED to the program's text (the seventh form; the later family's looks); each row that meets fmt, with fmt's text TOLD by the authors' own Lean function (tested against real Go, not proved from fmt's source: count such statements apart). THE CARD IS WHAT COUNTS. Prove the row's statement (the work); the ties are given (YtgkilbojgafldaaDoorTie.lean); close each card by the builder's one call (the guide's Derived/Test/ToyasCard.lean, 'card_holds'). Laid BY PROGRAM, IN A SANDBOX (cutbox-door.mjs). By AI agents, Wed Nov 11 2026. No macro, syntax, notation, axiom, sorry.
-/
import Derived.Test.YtgkilbojgafldaaDoorRows
import GoSem.ClaimSeven
namespace Go.Proofs.YtgkilbojgafldaaDoor
namespace Rows

/-- THE TIED CARD OF 'locumlaw17.LeaseOne'. -/
def leaseOneCard : Claim7 := { stood := { row := leaseOneRow, standIns := [], harness := (true, "38d050345a132010d6386bdf4880c46de6b78d78a6fb9a8b3c278c961577f4f0"), looks := false }, kinds := [], alts := [], laidByText := true, laidKinds := [.data], laidTests := true, laidLooks := .later }
def LeaseOneCardSaid : Prop := Claim7.holds Tryd.pinned (.plain (OpenSpec.ofChange leaseOneSpec)) leaseOneCard

/-- THE SECOND FORM's CARD OF 'locumlaw17.LeaseOne'. -/
def leaseOneUptoCard : Claim7 := { stood := { row := leaseOneUptoRow, standIns := [], harness := (true, "38d050345a132010d6386bdf4880c46de6b78d78a6fb9a8b3c278c961577f4f0"), looks := false }, kinds := [], alts := [], laidByText := true, laidKinds := [.data], laidTests := true, laidLooks := .later }
def LeaseOneUptoCardSaid : Prop := Claim7.holds Tryd.pinned (.plain (OpenSpec.upto leaseOneSpec)) leaseOneUptoCard
end Rows
end Go.Proofs.YtgkilbojgafldaaDoor
