/-
  NARROWER THAN 'FOR EVERY INPUT', by the rows' own cells (each row's printed sentence says how): AcceptorAnswers: laid · AcceptorFirst: laid · AcceptorKeeps: laid · AcceptorLeads: laid · AcceptorWaits: laid · AcceptorBack: laid.
  DERIVED. THE GIVEN ROWS OF THIS SEAT. 6 by the template 'for every input the law returns true; each argument reads behind the call as it read before'; 0 by the template 'total and deterministic' (their statements: YtdhiijebmjopjaaDoorTotals.lean).
  GIVEN WITH THE SEED: the statements are not yours to turn. If you find one false, say at which input.
  Laid BY PROGRAM, IN A SANDBOX (cutbox-rows.mjs): the forced cells as the released guide's own fill.sh prints them over the translation e0d373b7725ba99b… (all of the seat's roots in one cut). By AI agents, Wed Nov 11 2026. No macro, syntax, notation, axiom, sorry.
-/
import Derived.Test.YtdhiijebmjopjaaDoorChecked
import GoSem.Claim
import GoSem.ClaimJoined
import GoSem.ClaimMapViews
import Derived.JoinedTies
import Derived.KernelRfl
namespace Go.Proofs.YtdhiijebmjopjaaDoor
/- THE CELL 'sum', in the pinned program and in every row, IS THE sha256 OF THE DUMP (.gsa) THAT YtdhiijebmjopjaaDoorProg.lean LOADS. Nothing in Lean hashes anything: it is a label: what it is worth is what the hold of that sum in a sandbox is worth. -/
noncomputable def Tryd.pinned : Pinned := { name := "ytdhiijebmjopjaadoor", sum := "e0d373b7725ba99ba40818e33bac5e2684036a3fa3303c4dc64e6c420bcdd237", checked := Tryd.checked }
namespace Rows
def none {H : Type} : Left H := { results := [], args := [] }

/- WHAT THE LISTED PACKAGE-LEVEL VARIABLES READ AS WHEN THE CALL BEGINS. Each datum BY PROGRAM (the guide's laid-datum.mjs) off the statement by which the dump's own 'gosem.cut.vars' lays the variable. In a bare row this is a premise. The card (YtdhiijebmjopjaaDoorCards.lean) ties it to the program's text. -/
def laid_locum_crc_four {H : Type} : DataW H := .agg [.lit (.int .u32 0), .lit (.int .u32 498536548), .lit (.int .u32 997073096), .lit (.int .u32 651767980), .lit (.int .u32 1994146192), .lit (.int .u32 1802195444), .lit (.int .u32 1303535960), .lit (.int .u32 1342533948), .lit (.int .u32 3988292384), .lit (.int .u32 4027552580), .lit (.int .u32 3604390888), .lit (.int .u32 3412177804), .lit (.int .u32 2607071920), .lit (.int .u32 2262029012), .lit (.int .u32 2685067896), .lit (.int .u32 3183342108)]

/-- 'locumlaw15.AcceptorAnswers': WHATEVER THE INPUT: true; the input reads as it did. -/
def acceptorAnswersSpec : ChangeSpec := { name := "acceptorAnswers", fn := fun _ => fun
  | [d1, d2, d3] => { results := [.lit (.bool true)], args := [d1, d2, d3] }
  | _ => none }
def acceptorAnswersRow : OpenClaim := { program := "ytdhiijebmjopjaadoor", sum := "e0d373b7725ba99ba40818e33bac5e2684036a3fa3303c4dc64e6c420bcdd237", func := "locum/locumlaw15.AcceptorAnswers", spec := "acceptorAnswers", unfollowed := true, recurses := true, named := ["locum/crc.four"], apart := false, laid := [("locum/crc.four", laid_locum_crc_four)] }
def AcceptorAnswersSaid : Prop := acceptorAnswersRow.holds Tryd.pinned (OpenSpec.ofChange acceptorAnswersSpec)

/-- ITS FALSE NEIGHBOUR: 'it returns false'. Refute it at one input. -/
def acceptorAnswersWrong : ChangeSpec := { name := "acceptorAnswers", fn := fun _ => fun
  | [d1, d2, d3] => { results := [.lit (.bool false)], args := [d1, d2, d3] }
  | _ => none }
def AcceptorAnswersWrongFalsely : Prop := acceptorAnswersRow.holds Tryd.pinned (OpenSpec.ofChange acceptorAnswersWrong)

/-- 'locumlaw15.AcceptorFirst': WHATEVER THE INPUT: true; the input reads as it did. -/
def acceptorFirstSpec : ChangeSpec := { name := "acceptorFirst", fn := fun _ => fun
  | [d1, d2, d3, d4] => { results := [.lit (.bool true)], args := [d1, d2, d3, d4] }
  | _ => none }
def acceptorFirstRow : OpenClaim := { program := "ytdhiijebmjopjaadoor", sum := "e0d373b7725ba99ba40818e33bac5e2684036a3fa3303c4dc64e6c420bcdd237", func := "locum/locumlaw15.AcceptorFirst", spec := "acceptorFirst", unfollowed := true, recurses := true, named := ["locum/crc.four"], apart := false, laid := [("locum/crc.four", laid_locum_crc_four)] }
def AcceptorFirstSaid : Prop := acceptorFirstRow.holds Tryd.pinned (OpenSpec.ofChange acceptorFirstSpec)

/-- ITS FALSE NEIGHBOUR: 'it returns false'. Refute it at one input. -/
def acceptorFirstWrong : ChangeSpec := { name := "acceptorFirst", fn := fun _ => fun
  | [d1, d2, d3, d4] => { results := [.lit (.bool false)], args := [d1, d2, d3, d4] }
  | _ => none }
def AcceptorFirstWrongFalsely : Prop := acceptorFirstRow.holds Tryd.pinned (OpenSpec.ofChange acceptorFirstWrong)

/-- 'locumlaw15.AcceptorKeeps': WHATEVER THE INPUT: true; the input reads as it did. -/
def acceptorKeepsSpec : ChangeSpec := { name := "acceptorKeeps", fn := fun _ => fun
  | [d1, d2] => { results := [.lit (.bool true)], args := [d1, d2] }
  | _ => none }
def acceptorKeepsRow : OpenClaim := { program := "ytdhiijebmjopjaadoor", sum := "e0d373b7725ba99ba40818e33bac5e2684036a3fa3303c4dc64e6c420bcdd237", func := "locum/locumlaw15.AcceptorKeeps", spec := "acceptorKeeps", unfollowed := true, recurses := true, named := ["locum/crc.four"], apart := false, laid := [("locum/crc.four", laid_locum_crc_four)] }
def AcceptorKeepsSaid : Prop := acceptorKeepsRow.holds Tryd.pinned (OpenSpec.ofChange acceptorKeepsSpec)

/-- ITS FALSE NEIGHBOUR: 'it returns false'. Refute it at one input. -/
def acceptorKeepsWrong : ChangeSpec := { name := "acceptorKeeps", fn := fun _ => fun
  | [d1, d2] => { results := [.lit (.bool false)], args := [d1, d2] }
  | _ => none }
def AcceptorKeepsWrongFalsely : Prop := acceptorKeepsRow.holds Tryd.pinned (OpenSpec.ofChange acceptorKeepsWrong)

/-- 'locumlaw15.AcceptorLeads': WHATEVER THE INPUT: true; the input reads as it did. -/
def acceptorLeadsSpec : ChangeSpec := { name := "acceptorLeads", fn := fun _ => fun
  | [d1, d2] => { results := [.lit (.bool true)], args := [d1, d2] }
  | _ => none }
def acceptorLeadsRow : OpenClaim := { program := "ytdhiijebmjopjaadoor", sum := "e0d373b7725ba99ba40818e33bac5e2684036a3fa3303c4dc64e6c420bcdd237", func := "locum/locumlaw15.AcceptorLeads", spec := "acceptorLeads", unfollowed := true, recurses := true, named := ["locum/crc.four"], apart := false, laid := [("locum/crc.four", laid_locum_crc_four)] }
def AcceptorLeadsSaid : Prop := acceptorLeadsRow.holds Tryd.pinned (OpenSpec.ofChange acceptorLeadsSpec)

/-- ITS FALSE NEIGHBOUR: 'it returns false'. Refute it at one input. -/
def acceptorLeadsWrong : ChangeSpec := { name := "acceptorLeads", fn := fun _ => fun
  | [d1, d2] => { results := [.lit (.bool false)], args := [d1, d2] }
  | _ => none }
def AcceptorLeadsWrongFalsely : Prop := acceptorLeadsRow.holds Tryd.pinned (OpenSpec.ofChange acceptorLeadsWrong)

/-- 'locumlaw15.AcceptorWaits': WHATEVER THE INPUT: true; the input reads as it did. -/
def acceptorWaitsSpec : ChangeSpec := { name := "acceptorWaits", fn := fun _ => fun
  | [d1, d2] => { results := [.lit (.bool true)], args := [d1, d2] }
  | _ => none }
def acceptorWaitsRow : OpenClaim := { program := "ytdhiijebmjopjaadoor", sum := "e0d373b7725ba99ba40818e33bac5e2684036a3fa3303c4dc64e6c420bcdd237", func := "locum/locumlaw15.AcceptorWaits", spec := "acceptorWaits", unfollowed := true, recurses := true, named := ["locum/crc.four"], apart := false, laid := [("locum/crc.four", laid_locum_crc_four)] }
def AcceptorWaitsSaid : Prop := acceptorWaitsRow.holds Tryd.pinned (OpenSpec.ofChange acceptorWaitsSpec)

/-- ITS FALSE NEIGHBOUR: 'it returns false'. Refute it at one input. -/
def acceptorWaitsWrong : ChangeSpec := { name := "acceptorWaits", fn := fun _ => fun
  | [d1, d2] => { results := [.lit (.bool false)], args := [d1, d2] }
  | _ => none }
def AcceptorWaitsWrongFalsely : Prop := acceptorWaitsRow.holds Tryd.pinned (OpenSpec.ofChange acceptorWaitsWrong)

/-- 'locumlaw15.AcceptorBack': WHATEVER THE INPUT: true; the input reads as it did. -/
def acceptorBackSpec : ChangeSpec := { name := "acceptorBack", fn := fun _ => fun
  | [d1, d2, d3] => { results := [.lit (.bool true)], args := [d1, d2, d3] }
  | _ => none }
def acceptorBackRow : OpenClaim := { program := "ytdhiijebmjopjaadoor", sum := "e0d373b7725ba99ba40818e33bac5e2684036a3fa3303c4dc64e6c420bcdd237", func := "locum/locumlaw15.AcceptorBack", spec := "acceptorBack", unfollowed := true, recurses := true, named := ["locum/crc.four"], apart := false, laid := [("locum/crc.four", laid_locum_crc_four)] }
def AcceptorBackSaid : Prop := acceptorBackRow.holds Tryd.pinned (OpenSpec.ofChange acceptorBackSpec)

/-- ITS FALSE NEIGHBOUR: 'it returns false'. Refute it at one input. -/
def acceptorBackWrong : ChangeSpec := { name := "acceptorBack", fn := fun _ => fun
  | [d1, d2, d3] => { results := [.lit (.bool false)], args := [d1, d2, d3] }
  | _ => none }
def AcceptorBackWrongFalsely : Prop := acceptorBackRow.holds Tryd.pinned (OpenSpec.ofChange acceptorBackWrong)

/- THE SECOND FORM. 'bulk': how many values and letters a reading holds, each counted each time it is reached (what is shared counts as often as it is met; a slice's spare places count too). A statement '..UptoSaid' is the law's where the arguments, and the package variables that the reading takes, are together of bulk at most 1048576: NARROWER than '..Said'. Prove '..Said' where nothing that the law and all that it calls make is longer than what came in: it says more and counts as full. Else prove '..UptoSaid'. A law counts once. -/
mutual
def uptoBulk {H : Type} : DataW H → Nat
  | .lit (.string bytes) => bytes.length + 1
  | .lit _ => 1
  | .nil => 1
  | .ptr d => uptoBulk d + 1
  | .slice elems spare => uptoBulkAll elems + uptoBulkAll spare + 1
  | .agg parts => uptoBulkAll parts + 1
  | .iface _ d => uptoBulk d + 1
  | .map entries => uptoBulkEntries entries + 1
  | .held _ => 1
def uptoBulkAll {H : Type} : List (DataW H) → Nat
  | [] => 0
  | d :: r => uptoBulk d + uptoBulkAll r
def uptoBulkEntries {H : Type} : List (Lit × DataW H) → Nat
  | [] => 0
  | x :: r => uptoBulkEntry x + uptoBulkEntries r
def uptoBulkEntry {H : Type} : Lit × DataW H → Nat
  | (.string bytes, d) => bytes.length + uptoBulk d + 1
  | (_, d) => uptoBulk d + 1
 end
def uptoSmall : (H : Type) → List (DataW H) → Bool := fun _ ds => decide (uptoBulkAll ds ≤ 1048576)
def OpenSpec.upto (s : _root_.Go.ChangeSpec) : _root_.Go.OpenSpec := { _root_.Go.OpenSpec.ofChange s with cond := some uptoSmall }

/-- 'locumlaw15.AcceptorAnswers', WHERE WHAT IT READS IS OF BULK AT MOST 1048576: true; the input reads as it did. -/
def acceptorAnswersUptoRow : OpenClaim := { program := "ytdhiijebmjopjaadoor", sum := "e0d373b7725ba99ba40818e33bac5e2684036a3fa3303c4dc64e6c420bcdd237", func := "locum/locumlaw15.AcceptorAnswers", spec := "acceptorAnswers", unfollowed := true, recurses := true, named := ["locum/crc.four"], apart := false, laid := [("locum/crc.four", laid_locum_crc_four)], narrowed := true }
def AcceptorAnswersUptoSaid : Prop := acceptorAnswersUptoRow.holds Tryd.pinned (OpenSpec.upto acceptorAnswersSpec)

/-- 'locumlaw15.AcceptorFirst', WHERE WHAT IT READS IS OF BULK AT MOST 1048576: true; the input reads as it did. -/
def acceptorFirstUptoRow : OpenClaim := { program := "ytdhiijebmjopjaadoor", sum := "e0d373b7725ba99ba40818e33bac5e2684036a3fa3303c4dc64e6c420bcdd237", func := "locum/locumlaw15.AcceptorFirst", spec := "acceptorFirst", unfollowed := true, recurses := true, named := ["locum/crc.four"], apart := false, laid := [("locum/crc.four", laid_locum_crc_four)], narrowed := true }
def AcceptorFirstUptoSaid : Prop := acceptorFirstUptoRow.holds Tryd.pinned (OpenSpec.upto acceptorFirstSpec)

/-- 'locumlaw15.AcceptorKeeps', WHERE WHAT IT READS IS OF BULK AT MOST 1048576: true; the input reads as it did. -/
def acceptorKeepsUptoRow : OpenClaim := { program := "ytdhiijebmjopjaadoor", sum := "e0d373b7725ba99ba40818e33bac5e2684036a3fa3303c4dc64e6c420bcdd237", func := "locum/locumlaw15.AcceptorKeeps", spec := "acceptorKeeps", unfollowed := true, recurses := true, named := ["locum/crc.four"], apart := false, laid := [("locum/crc.four", laid_locum_crc_four)], narrowed := true }
def AcceptorKeepsUptoSaid : Prop := acceptorKeepsUptoRow.holds Tryd.pinned (OpenSpec.upto acceptorKeepsSpec)

/-- 'locumlaw15.AcceptorLeads', WHERE WHAT IT READS IS OF BULK AT MOST 1048576: true; the input reads as it did. -/
def acceptorLeadsUptoRow : OpenClaim := { program := "ytdhiijebmjopjaadoor", sum := "e0d373b7725ba99ba40818e33bac5e2684036a3fa3303c4dc64e6c420bcdd237", func := "locum/locumlaw15.AcceptorLeads", spec := "acceptorLeads", unfollowed := true, recurses := true, named := ["locum/crc.four"], apart := false, laid := [("locum/crc.four", laid_locum_crc_four)], narrowed := true }
def AcceptorLeadsUptoSaid : Prop := acceptorLeadsUptoRow.holds Tryd.pinned (OpenSpec.upto acceptorLeadsSpec)

/-- 'locumlaw15.AcceptorWaits', WHERE WHAT IT READS IS OF BULK AT MOST 1048576: true; the input reads as it did. -/
def acceptorWaitsUptoRow : OpenClaim := { program := "ytdhiijebmjopjaadoor", sum := "e0d373b7725ba99ba40818e33bac5e2684036a3fa3303c4dc64e6c420bcdd237", func := "locum/locumlaw15.AcceptorWaits", spec := "acceptorWaits", unfollowed := true, recurses := true, named := ["locum/crc.four"], apart := false, laid := [("locum/crc.four", laid_locum_crc_four)], narrowed := true }
def AcceptorWaitsUptoSaid : Prop := acceptorWaitsUptoRow.holds Tryd.pinned (OpenSpec.upto acceptorWaitsSpec)

/-- 'locumlaw15.AcceptorBack', WHERE WHAT IT READS IS OF BULK AT MOST 1048576: true; the input reads as it did. -/
def acceptorBackUptoRow : OpenClaim := { program := "ytdhiijebmjopjaadoor", sum := "e0d373b7725ba99ba40818e33bac5e2684036a3fa3303c4dc64e6c420bcdd237", func := "locum/locumlaw15.AcceptorBack", spec := "acceptorBack", unfollowed := true, recurses := true, named := ["locum/crc.four"], apart := false, laid := [("locum/crc.four", laid_locum_crc_four)], narrowed := true }
def AcceptorBackUptoSaid : Prop := acceptorBackUptoRow.holds Tryd.pinned (OpenSpec.upto acceptorBackSpec)

end Rows
end Go.Proofs.YtdhiijebmjopjaaDoor
