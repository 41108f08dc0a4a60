/-
  DERIVED. GIVEN WITH THE SEED: THE CARDS: each row of YtgjhdekafiodhaaDoorRows.lean that lists a variable, with what it lists TIED to the program's text (the seventh form; the later family's looks); each row that meets fmt, with fmt's text TOLD by the authors' own Lean function (tested against real Go, not proved from fmt's source: count such statements apart). THE CARD IS WHAT COUNTS. Prove the row's statement (the work); the ties are given (YtgjhdekafiodhaaDoorTie.lean); close each card by the builder's one call (the guide's Derived/Test/ToyasCard.lean, 'card_holds'). Laid BY PROGRAM, IN A SANDBOX (cutbox-door.mjs). By AI agents, Wed Nov 11 2026. No macro, syntax, notation, axiom, sorry.
-/
import Derived.Test.YtgjhdekafiodhaaDoorRows
import GoSem.ClaimSeven
namespace Go.Proofs.YtgjhdekafiodhaaDoor
namespace Rows

/-- THE TIED CARD OF 'locumlaw05.MsgPuts'. -/
def msgPutsCard : Claim7 := { stood := { row := msgPutsRow, standIns := [], harness := (true, "0de246c8685d6e6c243b1ee0279f020b1000aec9f8ac21a59155261a4657a2de"), looks := false }, kinds := [], alts := [], laidByText := true, laidKinds := [.data], laidTests := true, laidLooks := .later }
def MsgPutsCardSaid : Prop := Claim7.holds Tryd.pinned (.plain (OpenSpec.ofChange msgPutsSpec)) msgPutsCard

/-- THE TIED CARD OF 'locumlaw05.MsgGets'. -/
def msgGetsCard : Claim7 := { stood := { row := msgGetsRow, standIns := [], harness := (true, "0de246c8685d6e6c243b1ee0279f020b1000aec9f8ac21a59155261a4657a2de"), looks := false }, kinds := [], alts := [], laidByText := true, laidKinds := [.data], laidTests := true, laidLooks := .later }
def MsgGetsCardSaid : Prop := Claim7.holds Tryd.pinned (.plain (OpenSpec.ofChange msgGetsSpec)) msgGetsCard

/-- THE TIED CARD OF 'locumlaw05.MsgBack'. -/
def msgBackCard : Claim7 := { stood := { row := msgBackRow, standIns := [], harness := (true, "0de246c8685d6e6c243b1ee0279f020b1000aec9f8ac21a59155261a4657a2de"), looks := false }, kinds := [], alts := [], laidByText := true, laidKinds := [.data], laidTests := true, laidLooks := .later }
def MsgBackCardSaid : Prop := Claim7.holds Tryd.pinned (.plain (OpenSpec.ofChange msgBackSpec)) msgBackCard

/-- THE TIED CARD OF 'locumlaw05.MsgCuts'. -/
def msgCutsCard : Claim7 := { stood := { row := msgCutsRow, standIns := [], harness := (true, "0de246c8685d6e6c243b1ee0279f020b1000aec9f8ac21a59155261a4657a2de"), looks := false }, kinds := [], alts := [], laidByText := true, laidKinds := [.data], laidTests := true, laidLooks := .later }
def MsgCutsCardSaid : Prop := Claim7.holds Tryd.pinned (.plain (OpenSpec.ofChange msgCutsSpec)) msgCutsCard

/-- THE TIED CARD OF 'locumlaw05.MsgBodies'. -/
def msgBodiesCard : Claim7 := { stood := { row := msgBodiesRow, standIns := [], harness := (true, "0de246c8685d6e6c243b1ee0279f020b1000aec9f8ac21a59155261a4657a2de"), looks := false }, kinds := [], alts := [], laidByText := true, laidKinds := [.data], laidTests := true, laidLooks := .later }
def MsgBodiesCardSaid : Prop := Claim7.holds Tryd.pinned (.plain (OpenSpec.ofChange msgBodiesSpec)) msgBodiesCard

/-- THE TIED CARD OF 'locumlaw05.MsgLimits'. -/
def msgLimitsCard : Claim7 := { stood := { row := msgLimitsRow, standIns := [], harness := (true, "0de246c8685d6e6c243b1ee0279f020b1000aec9f8ac21a59155261a4657a2de"), looks := false }, kinds := [], alts := [], laidByText := true, laidKinds := [.data], laidTests := true, laidLooks := .later }
def MsgLimitsCardSaid : Prop := Claim7.holds Tryd.pinned (.plain (OpenSpec.ofChange msgLimitsSpec)) msgLimitsCard

/-- THE SECOND FORM's CARD OF 'locumlaw05.MsgPuts'. -/
def msgPutsUptoCard : Claim7 := { stood := { row := msgPutsUptoRow, standIns := [], harness := (true, "0de246c8685d6e6c243b1ee0279f020b1000aec9f8ac21a59155261a4657a2de"), looks := false }, kinds := [], alts := [], laidByText := true, laidKinds := [.data], laidTests := true, laidLooks := .later }
def MsgPutsUptoCardSaid : Prop := Claim7.holds Tryd.pinned (.plain (OpenSpec.upto msgPutsSpec)) msgPutsUptoCard

/-- THE SECOND FORM's CARD OF 'locumlaw05.MsgGets'. -/
def msgGetsUptoCard : Claim7 := { stood := { row := msgGetsUptoRow, standIns := [], harness := (true, "0de246c8685d6e6c243b1ee0279f020b1000aec9f8ac21a59155261a4657a2de"), looks := false }, kinds := [], alts := [], laidByText := true, laidKinds := [.data], laidTests := true, laidLooks := .later }
def MsgGetsUptoCardSaid : Prop := Claim7.holds Tryd.pinned (.plain (OpenSpec.upto msgGetsSpec)) msgGetsUptoCard

/-- THE SECOND FORM's CARD OF 'locumlaw05.MsgBack'. -/
def msgBackUptoCard : Claim7 := { stood := { row := msgBackUptoRow, standIns := [], harness := (true, "0de246c8685d6e6c243b1ee0279f020b1000aec9f8ac21a59155261a4657a2de"), looks := false }, kinds := [], alts := [], laidByText := true, laidKinds := [.data], laidTests := true, laidLooks := .later }
def MsgBackUptoCardSaid : Prop := Claim7.holds Tryd.pinned (.plain (OpenSpec.upto msgBackSpec)) msgBackUptoCard

/-- THE SECOND FORM's CARD OF 'locumlaw05.MsgCuts'. -/
def msgCutsUptoCard : Claim7 := { stood := { row := msgCutsUptoRow, standIns := [], harness := (true, "0de246c8685d6e6c243b1ee0279f020b1000aec9f8ac21a59155261a4657a2de"), looks := false }, kinds := [], alts := [], laidByText := true, laidKinds := [.data], laidTests := true, laidLooks := .later }
def MsgCutsUptoCardSaid : Prop := Claim7.holds Tryd.pinned (.plain (OpenSpec.upto msgCutsSpec)) msgCutsUptoCard

/-- THE SECOND FORM's CARD OF 'locumlaw05.MsgBodies'. -/
def msgBodiesUptoCard : Claim7 := { stood := { row := msgBodiesUptoRow, standIns := [], harness := (true, "0de246c8685d6e6c243b1ee0279f020b1000aec9f8ac21a59155261a4657a2de"), looks := false }, kinds := [], alts := [], laidByText := true, laidKinds := [.data], laidTests := true, laidLooks := .later }
def MsgBodiesUptoCardSaid : Prop := Claim7.holds Tryd.pinned (.plain (OpenSpec.upto msgBodiesSpec)) msgBodiesUptoCard

/-- THE SECOND FORM's CARD OF 'locumlaw05.MsgLimits'. -/
def msgLimitsUptoCard : Claim7 := { stood := { row := msgLimitsUptoRow, standIns := [], harness := (true, "0de246c8685d6e6c243b1ee0279f020b1000aec9f8ac21a59155261a4657a2de"), looks := false }, kinds := [], alts := [], laidByText := true, laidKinds := [.data], laidTests := true, laidLooks := .later }
def MsgLimitsUptoCardSaid : Prop := Claim7.holds Tryd.pinned (.plain (OpenSpec.upto msgLimitsSpec)) msgLimitsUptoCard
end Rows
end Go.Proofs.YtgjhdekafiodhaaDoor
