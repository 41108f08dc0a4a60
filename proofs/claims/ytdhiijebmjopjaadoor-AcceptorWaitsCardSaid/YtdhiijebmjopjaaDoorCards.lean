/-
  DERIVED. GIVEN WITH THE SEED: THE CARDS: each row of YtdhiijebmjopjaaDoorRows.lean that lists a variable, with what it lists TIED to the program's text (the seventh form; the later family's looks); each row that meets fmt, with fmt's text TOLD by the authors' own Lean function (tested against real Go, not proved from fmt's source: count such statements apart). THE CARD IS WHAT COUNTS. Prove the row's statement (the work); the ties are given (YtdhiijebmjopjaaDoorTie.lean); close each card by the builder's one call (the guide's Derived/Test/ToyasCard.lean, 'card_holds'). Laid BY PROGRAM, IN A SANDBOX (cutbox-door.mjs). By AI agents, Wed Nov 11 2026. No macro, syntax, notation, axiom, sorry.
-/
import Derived.Test.YtdhiijebmjopjaaDoorRows
import GoSem.ClaimSeven
namespace Go.Proofs.YtdhiijebmjopjaaDoor
namespace Rows

/-- THE TIED CARD OF 'locumlaw15.AcceptorAnswers'. -/
def acceptorAnswersCard : Claim7 := { stood := { row := acceptorAnswersRow, standIns := [], harness := (true, "ab68eeb7d97f872fbd2fad3281ac2d60e5f80a94ffc808b98c355a6022220c35"), looks := false }, kinds := [], alts := [], laidByText := true, laidKinds := [.data], laidTests := true, laidLooks := .later }
def AcceptorAnswersCardSaid : Prop := Claim7.holds Tryd.pinned (.plain (OpenSpec.ofChange acceptorAnswersSpec)) acceptorAnswersCard

/-- THE TIED CARD OF 'locumlaw15.AcceptorFirst'. -/
def acceptorFirstCard : Claim7 := { stood := { row := acceptorFirstRow, standIns := [], harness := (true, "ab68eeb7d97f872fbd2fad3281ac2d60e5f80a94ffc808b98c355a6022220c35"), looks := false }, kinds := [], alts := [], laidByText := true, laidKinds := [.data], laidTests := true, laidLooks := .later }
def AcceptorFirstCardSaid : Prop := Claim7.holds Tryd.pinned (.plain (OpenSpec.ofChange acceptorFirstSpec)) acceptorFirstCard

/-- THE TIED CARD OF 'locumlaw15.AcceptorKeeps'. -/
def acceptorKeepsCard : Claim7 := { stood := { row := acceptorKeepsRow, standIns := [], harness := (true, "ab68eeb7d97f872fbd2fad3281ac2d60e5f80a94ffc808b98c355a6022220c35"), looks := false }, kinds := [], alts := [], laidByText := true, laidKinds := [.data], laidTests := true, laidLooks := .later }
def AcceptorKeepsCardSaid : Prop := Claim7.holds Tryd.pinned (.plain (OpenSpec.ofChange acceptorKeepsSpec)) acceptorKeepsCard

/-- THE TIED CARD OF 'locumlaw15.AcceptorLeads'. -/
def acceptorLeadsCard : Claim7 := { stood := { row := acceptorLeadsRow, standIns := [], harness := (true, "ab68eeb7d97f872fbd2fad3281ac2d60e5f80a94ffc808b98c355a6022220c35"), looks := false }, kinds := [], alts := [], laidByText := true, laidKinds := [.data], laidTests := true, laidLooks := .later }
def AcceptorLeadsCardSaid : Prop := Claim7.holds Tryd.pinned (.plain (OpenSpec.ofChange acceptorLeadsSpec)) acceptorLeadsCard

/-- THE TIED CARD OF 'locumlaw15.AcceptorWaits'. -/
def acceptorWaitsCard : Claim7 := { stood := { row := acceptorWaitsRow, standIns := [], harness := (true, "ab68eeb7d97f872fbd2fad3281ac2d60e5f80a94ffc808b98c355a6022220c35"), looks := false }, kinds := [], alts := [], laidByText := true, laidKinds := [.data], laidTests := true, laidLooks := .later }
def AcceptorWaitsCardSaid : Prop := Claim7.holds Tryd.pinned (.plain (OpenSpec.ofChange acceptorWaitsSpec)) acceptorWaitsCard

/-- THE TIED CARD OF 'locumlaw15.AcceptorBack'. -/
def acceptorBackCard : Claim7 := { stood := { row := acceptorBackRow, standIns := [], harness := (true, "ab68eeb7d97f872fbd2fad3281ac2d60e5f80a94ffc808b98c355a6022220c35"), looks := false }, kinds := [], alts := [], laidByText := true, laidKinds := [.data], laidTests := true, laidLooks := .later }
def AcceptorBackCardSaid : Prop := Claim7.holds Tryd.pinned (.plain (OpenSpec.ofChange acceptorBackSpec)) acceptorBackCard

/-- THE SECOND FORM's CARD OF 'locumlaw15.AcceptorAnswers'. -/
def acceptorAnswersUptoCard : Claim7 := { stood := { row := acceptorAnswersUptoRow, standIns := [], harness := (true, "ab68eeb7d97f872fbd2fad3281ac2d60e5f80a94ffc808b98c355a6022220c35"), looks := false }, kinds := [], alts := [], laidByText := true, laidKinds := [.data], laidTests := true, laidLooks := .later }
def AcceptorAnswersUptoCardSaid : Prop := Claim7.holds Tryd.pinned (.plain (OpenSpec.upto acceptorAnswersSpec)) acceptorAnswersUptoCard

/-- THE SECOND FORM's CARD OF 'locumlaw15.AcceptorFirst'. -/
def acceptorFirstUptoCard : Claim7 := { stood := { row := acceptorFirstUptoRow, standIns := [], harness := (true, "ab68eeb7d97f872fbd2fad3281ac2d60e5f80a94ffc808b98c355a6022220c35"), looks := false }, kinds := [], alts := [], laidByText := true, laidKinds := [.data], laidTests := true, laidLooks := .later }
def AcceptorFirstUptoCardSaid : Prop := Claim7.holds Tryd.pinned (.plain (OpenSpec.upto acceptorFirstSpec)) acceptorFirstUptoCard

/-- THE SECOND FORM's CARD OF 'locumlaw15.AcceptorKeeps'. -/
def acceptorKeepsUptoCard : Claim7 := { stood := { row := acceptorKeepsUptoRow, standIns := [], harness := (true, "ab68eeb7d97f872fbd2fad3281ac2d60e5f80a94ffc808b98c355a6022220c35"), looks := false }, kinds := [], alts := [], laidByText := true, laidKinds := [.data], laidTests := true, laidLooks := .later }
def AcceptorKeepsUptoCardSaid : Prop := Claim7.holds Tryd.pinned (.plain (OpenSpec.upto acceptorKeepsSpec)) acceptorKeepsUptoCard

/-- THE SECOND FORM's CARD OF 'locumlaw15.AcceptorLeads'. -/
def acceptorLeadsUptoCard : Claim7 := { stood := { row := acceptorLeadsUptoRow, standIns := [], harness := (true, "ab68eeb7d97f872fbd2fad3281ac2d60e5f80a94ffc808b98c355a6022220c35"), looks := false }, kinds := [], alts := [], laidByText := true, laidKinds := [.data], laidTests := true, laidLooks := .later }
def AcceptorLeadsUptoCardSaid : Prop := Claim7.holds Tryd.pinned (.plain (OpenSpec.upto acceptorLeadsSpec)) acceptorLeadsUptoCard

/-- THE SECOND FORM's CARD OF 'locumlaw15.AcceptorWaits'. -/
def acceptorWaitsUptoCard : Claim7 := { stood := { row := acceptorWaitsUptoRow, standIns := [], harness := (true, "ab68eeb7d97f872fbd2fad3281ac2d60e5f80a94ffc808b98c355a6022220c35"), looks := false }, kinds := [], alts := [], laidByText := true, laidKinds := [.data], laidTests := true, laidLooks := .later }
def AcceptorWaitsUptoCardSaid : Prop := Claim7.holds Tryd.pinned (.plain (OpenSpec.upto acceptorWaitsSpec)) acceptorWaitsUptoCard

/-- THE SECOND FORM's CARD OF 'locumlaw15.AcceptorBack'. -/
def acceptorBackUptoCard : Claim7 := { stood := { row := acceptorBackUptoRow, standIns := [], harness := (true, "ab68eeb7d97f872fbd2fad3281ac2d60e5f80a94ffc808b98c355a6022220c35"), looks := false }, kinds := [], alts := [], laidByText := true, laidKinds := [.data], laidTests := true, laidLooks := .later }
def AcceptorBackUptoCardSaid : Prop := Claim7.holds Tryd.pinned (.plain (OpenSpec.upto acceptorBackSpec)) acceptorBackUptoCard
end Rows
end Go.Proofs.YtdhiijebmjopjaaDoor
