/-
  NARROWER THAN 'FOR EVERY INPUT', by the rows' own cells (each row's printed sentence says how): MsgPuts: laid · MsgGets: laid · MsgBack: laid · MsgCuts: laid · MsgBodies: laid · MsgLimits: laid.
  DERIVED. THE GIVEN ROWS OF THIS SEAT. 6 by the template 'for every input the law returns true; each argument reads behind the call as it read before'; 0 by the template 'total and deterministic' (their statements: YtgjhdekafiodhaaDoorTotals.lean).
  GIVEN WITH THE SEED: the statements are not yours to turn. If you find one false, say at which input.
  Laid BY PROGRAM, IN A SANDBOX (cutbox-rows.mjs): the forced cells as the released guide's own fill.sh prints them over the translation 66a93b08e5829a18… (all of the seat's roots in one cut). By AI agents, Wed Nov 11 2026. No macro, syntax, notation, axiom, sorry.
-/
import Derived.Test.YtgjhdekafiodhaaDoorChecked
import GoSem.Claim
import GoSem.ClaimJoined
import GoSem.ClaimMapViews
import Derived.JoinedTies
import Derived.KernelRfl
namespace Go.Proofs.YtgjhdekafiodhaaDoor
/- THE CELL 'sum', in the pinned program and in every row, IS THE sha256 OF THE DUMP (.gsa) THAT YtgjhdekafiodhaaDoorProg.lean LOADS. Nothing in Lean hashes anything: it is a label: what it is worth is what the hold of that sum in a sandbox is worth. -/
noncomputable def Tryd.pinned : Pinned := { name := "ytgjhdekafiodhaadoor", sum := "66a93b08e5829a183403dc4c9008420ae11c2b4ad1872c03442fa05828c874c2", checked := Tryd.checked }
namespace Rows
def none {H : Type} : Left H := { results := [], args := [] }

/- WHAT THE LISTED PACKAGE-LEVEL VARIABLES READ AS WHEN THE CALL BEGINS. Each datum BY PROGRAM (the guide's laid-datum.mjs) off the statement by which the dump's own 'gosem.cut.vars' lays the variable. In a bare row this is a premise. The card (YtgjhdekafiodhaaDoorCards.lean) ties it to the program's text. -/
def laid_locum_crc_four {H : Type} : DataW H := .agg [.lit (.int .u32 0), .lit (.int .u32 498536548), .lit (.int .u32 997073096), .lit (.int .u32 651767980), .lit (.int .u32 1994146192), .lit (.int .u32 1802195444), .lit (.int .u32 1303535960), .lit (.int .u32 1342533948), .lit (.int .u32 3988292384), .lit (.int .u32 4027552580), .lit (.int .u32 3604390888), .lit (.int .u32 3412177804), .lit (.int .u32 2607071920), .lit (.int .u32 2262029012), .lit (.int .u32 2685067896), .lit (.int .u32 3183342108)]

/-- 'locumlaw05.MsgPuts': WHATEVER THE INPUT: true; the input reads as it did. -/
def msgPutsSpec : ChangeSpec := { name := "msgPuts", fn := fun _ => fun
  | [d] => { results := [.lit (.bool true)], args := [d] }
  | _ => none }
def msgPutsRow : OpenClaim := { program := "ytgjhdekafiodhaadoor", sum := "66a93b08e5829a183403dc4c9008420ae11c2b4ad1872c03442fa05828c874c2", func := "locum/locumlaw05.MsgPuts", spec := "msgPuts", unfollowed := true, recurses := true, named := ["locum/crc.four"], apart := false, laid := [("locum/crc.four", laid_locum_crc_four)] }
def MsgPutsSaid : Prop := msgPutsRow.holds Tryd.pinned (OpenSpec.ofChange msgPutsSpec)

/-- ITS FALSE NEIGHBOUR: 'it returns false'. Refute it at one input. -/
def msgPutsWrong : ChangeSpec := { name := "msgPuts", fn := fun _ => fun
  | [d] => { results := [.lit (.bool false)], args := [d] }
  | _ => none }
def MsgPutsWrongFalsely : Prop := msgPutsRow.holds Tryd.pinned (OpenSpec.ofChange msgPutsWrong)

/-- 'locumlaw05.MsgGets': WHATEVER THE INPUT: true; the input reads as it did. -/
def msgGetsSpec : ChangeSpec := { name := "msgGets", fn := fun _ => fun
  | [d1, d2, d3] => { results := [.lit (.bool true)], args := [d1, d2, d3] }
  | _ => none }
def msgGetsRow : OpenClaim := { program := "ytgjhdekafiodhaadoor", sum := "66a93b08e5829a183403dc4c9008420ae11c2b4ad1872c03442fa05828c874c2", func := "locum/locumlaw05.MsgGets", spec := "msgGets", unfollowed := true, recurses := true, named := ["locum/crc.four"], apart := false, laid := [("locum/crc.four", laid_locum_crc_four)] }
def MsgGetsSaid : Prop := msgGetsRow.holds Tryd.pinned (OpenSpec.ofChange msgGetsSpec)

/-- ITS FALSE NEIGHBOUR: 'it returns false'. Refute it at one input. -/
def msgGetsWrong : ChangeSpec := { name := "msgGets", fn := fun _ => fun
  | [d1, d2, d3] => { results := [.lit (.bool false)], args := [d1, d2, d3] }
  | _ => none }
def MsgGetsWrongFalsely : Prop := msgGetsRow.holds Tryd.pinned (OpenSpec.ofChange msgGetsWrong)

/-- 'locumlaw05.MsgBack': WHATEVER THE INPUT: true; the input reads as it did. -/
def msgBackSpec : ChangeSpec := { name := "msgBack", fn := fun _ => fun
  | [d1, d2, d3] => { results := [.lit (.bool true)], args := [d1, d2, d3] }
  | _ => none }
def msgBackRow : OpenClaim := { program := "ytgjhdekafiodhaadoor", sum := "66a93b08e5829a183403dc4c9008420ae11c2b4ad1872c03442fa05828c874c2", func := "locum/locumlaw05.MsgBack", spec := "msgBack", unfollowed := true, recurses := true, named := ["locum/crc.four"], apart := false, laid := [("locum/crc.four", laid_locum_crc_four)] }
def MsgBackSaid : Prop := msgBackRow.holds Tryd.pinned (OpenSpec.ofChange msgBackSpec)

/-- ITS FALSE NEIGHBOUR: 'it returns false'. Refute it at one input. -/
def msgBackWrong : ChangeSpec := { name := "msgBack", fn := fun _ => fun
  | [d1, d2, d3] => { results := [.lit (.bool false)], args := [d1, d2, d3] }
  | _ => none }
def MsgBackWrongFalsely : Prop := msgBackRow.holds Tryd.pinned (OpenSpec.ofChange msgBackWrong)

/-- 'locumlaw05.MsgCuts': WHATEVER THE INPUT: true; the input reads as it did. -/
def msgCutsSpec : ChangeSpec := { name := "msgCuts", fn := fun _ => fun
  | [d1, d2, d3, d4] => { results := [.lit (.bool true)], args := [d1, d2, d3, d4] }
  | _ => none }
def msgCutsRow : OpenClaim := { program := "ytgjhdekafiodhaadoor", sum := "66a93b08e5829a183403dc4c9008420ae11c2b4ad1872c03442fa05828c874c2", func := "locum/locumlaw05.MsgCuts", spec := "msgCuts", unfollowed := true, recurses := true, named := ["locum/crc.four"], apart := false, laid := [("locum/crc.four", laid_locum_crc_four)] }
def MsgCutsSaid : Prop := msgCutsRow.holds Tryd.pinned (OpenSpec.ofChange msgCutsSpec)

/-- ITS FALSE NEIGHBOUR: 'it returns false'. Refute it at one input. -/
def msgCutsWrong : ChangeSpec := { name := "msgCuts", fn := fun _ => fun
  | [d1, d2, d3, d4] => { results := [.lit (.bool false)], args := [d1, d2, d3, d4] }
  | _ => none }
def MsgCutsWrongFalsely : Prop := msgCutsRow.holds Tryd.pinned (OpenSpec.ofChange msgCutsWrong)

/-- 'locumlaw05.MsgBodies': WHATEVER THE INPUT: true; the input reads as it did. -/
def msgBodiesSpec : ChangeSpec := { name := "msgBodies", fn := fun _ => fun
  | [d1, d2] => { results := [.lit (.bool true)], args := [d1, d2] }
  | _ => none }
def msgBodiesRow : OpenClaim := { program := "ytgjhdekafiodhaadoor", sum := "66a93b08e5829a183403dc4c9008420ae11c2b4ad1872c03442fa05828c874c2", func := "locum/locumlaw05.MsgBodies", spec := "msgBodies", unfollowed := true, recurses := true, named := ["locum/crc.four"], apart := false, laid := [("locum/crc.four", laid_locum_crc_four)] }
def MsgBodiesSaid : Prop := msgBodiesRow.holds Tryd.pinned (OpenSpec.ofChange msgBodiesSpec)

/-- ITS FALSE NEIGHBOUR: 'it returns false'. Refute it at one input. -/
def msgBodiesWrong : ChangeSpec := { name := "msgBodies", fn := fun _ => fun
  | [d1, d2] => { results := [.lit (.bool false)], args := [d1, d2] }
  | _ => none }
def MsgBodiesWrongFalsely : Prop := msgBodiesRow.holds Tryd.pinned (OpenSpec.ofChange msgBodiesWrong)

/-- 'locumlaw05.MsgLimits': WHATEVER THE INPUT: true; the input reads as it did. -/
def msgLimitsSpec : ChangeSpec := { name := "msgLimits", fn := fun _ => fun
  | [d] => { results := [.lit (.bool true)], args := [d] }
  | _ => none }
def msgLimitsRow : OpenClaim := { program := "ytgjhdekafiodhaadoor", sum := "66a93b08e5829a183403dc4c9008420ae11c2b4ad1872c03442fa05828c874c2", func := "locum/locumlaw05.MsgLimits", spec := "msgLimits", unfollowed := true, recurses := true, named := ["locum/crc.four"], apart := false, laid := [("locum/crc.four", laid_locum_crc_four)] }
def MsgLimitsSaid : Prop := msgLimitsRow.holds Tryd.pinned (OpenSpec.ofChange msgLimitsSpec)

/-- ITS FALSE NEIGHBOUR: 'it returns false'. Refute it at one input. -/
def msgLimitsWrong : ChangeSpec := { name := "msgLimits", fn := fun _ => fun
  | [d] => { results := [.lit (.bool false)], args := [d] }
  | _ => none }
def MsgLimitsWrongFalsely : Prop := msgLimitsRow.holds Tryd.pinned (OpenSpec.ofChange msgLimitsWrong)

/- THE SECOND FORM. 'bulk': how many values and letters a reading holds, each counted each time it is reached (what is shared counts as often as it is met; a slice's spare places count too). A statement '..UptoSaid' is the law's where the arguments, and the package variables that the reading takes, are together of bulk at most 1048576: NARROWER than '..Said'. Prove '..Said' where nothing that the law and all that it calls make is longer than what came in: it says more and counts as full. Else prove '..UptoSaid'. A law counts once. -/
mutual
def uptoBulk {H : Type} : DataW H → Nat
  | .lit (.string bytes) => bytes.length + 1
  | .lit _ => 1
  | .nil => 1
  | .ptr d => uptoBulk d + 1
  | .slice elems spare => uptoBulkAll elems + uptoBulkAll spare + 1
  | .agg parts => uptoBulkAll parts + 1
  | .iface _ d => uptoBulk d + 1
  | .map entries => uptoBulkEntries entries + 1
  | .held _ => 1
def uptoBulkAll {H : Type} : List (DataW H) → Nat
  | [] => 0
  | d :: r => uptoBulk d + uptoBulkAll r
def uptoBulkEntries {H : Type} : List (Lit × DataW H) → Nat
  | [] => 0
  | x :: r => uptoBulkEntry x + uptoBulkEntries r
def uptoBulkEntry {H : Type} : Lit × DataW H → Nat
  | (.string bytes, d) => bytes.length + uptoBulk d + 1
  | (_, d) => uptoBulk d + 1
 end
def uptoSmall : (H : Type) → List (DataW H) → Bool := fun _ ds => decide (uptoBulkAll ds ≤ 1048576)
def OpenSpec.upto (s : _root_.Go.ChangeSpec) : _root_.Go.OpenSpec := { _root_.Go.OpenSpec.ofChange s with cond := some uptoSmall }

/-- 'locumlaw05.MsgPuts', WHERE WHAT IT READS IS OF BULK AT MOST 1048576: true; the input reads as it did. -/
def msgPutsUptoRow : OpenClaim := { program := "ytgjhdekafiodhaadoor", sum := "66a93b08e5829a183403dc4c9008420ae11c2b4ad1872c03442fa05828c874c2", func := "locum/locumlaw05.MsgPuts", spec := "msgPuts", unfollowed := true, recurses := true, named := ["locum/crc.four"], apart := false, laid := [("locum/crc.four", laid_locum_crc_four)], narrowed := true }
def MsgPutsUptoSaid : Prop := msgPutsUptoRow.holds Tryd.pinned (OpenSpec.upto msgPutsSpec)

/-- 'locumlaw05.MsgGets', WHERE WHAT IT READS IS OF BULK AT MOST 1048576: true; the input reads as it did. -/
def msgGetsUptoRow : OpenClaim := { program := "ytgjhdekafiodhaadoor", sum := "66a93b08e5829a183403dc4c9008420ae11c2b4ad1872c03442fa05828c874c2", func := "locum/locumlaw05.MsgGets", spec := "msgGets", unfollowed := true, recurses := true, named := ["locum/crc.four"], apart := false, laid := [("locum/crc.four", laid_locum_crc_four)], narrowed := true }
def MsgGetsUptoSaid : Prop := msgGetsUptoRow.holds Tryd.pinned (OpenSpec.upto msgGetsSpec)

/-- 'locumlaw05.MsgBack', WHERE WHAT IT READS IS OF BULK AT MOST 1048576: true; the input reads as it did. -/
def msgBackUptoRow : OpenClaim := { program := "ytgjhdekafiodhaadoor", sum := "66a93b08e5829a183403dc4c9008420ae11c2b4ad1872c03442fa05828c874c2", func := "locum/locumlaw05.MsgBack", spec := "msgBack", unfollowed := true, recurses := true, named := ["locum/crc.four"], apart := false, laid := [("locum/crc.four", laid_locum_crc_four)], narrowed := true }
def MsgBackUptoSaid : Prop := msgBackUptoRow.holds Tryd.pinned (OpenSpec.upto msgBackSpec)

/-- 'locumlaw05.MsgCuts', WHERE WHAT IT READS IS OF BULK AT MOST 1048576: true; the input reads as it did. -/
def msgCutsUptoRow : OpenClaim := { program := "ytgjhdekafiodhaadoor", sum := "66a93b08e5829a183403dc4c9008420ae11c2b4ad1872c03442fa05828c874c2", func := "locum/locumlaw05.MsgCuts", spec := "msgCuts", unfollowed := true, recurses := true, named := ["locum/crc.four"], apart := false, laid := [("locum/crc.four", laid_locum_crc_four)], narrowed := true }
def MsgCutsUptoSaid : Prop := msgCutsUptoRow.holds Tryd.pinned (OpenSpec.upto msgCutsSpec)

/-- 'locumlaw05.MsgBodies', WHERE WHAT IT READS IS OF BULK AT MOST 1048576: true; the input reads as it did. -/
def msgBodiesUptoRow : OpenClaim := { program := "ytgjhdekafiodhaadoor", sum := "66a93b08e5829a183403dc4c9008420ae11c2b4ad1872c03442fa05828c874c2", func := "locum/locumlaw05.MsgBodies", spec := "msgBodies", unfollowed := true, recurses := true, named := ["locum/crc.four"], apart := false, laid := [("locum/crc.four", laid_locum_crc_four)], narrowed := true }
def MsgBodiesUptoSaid : Prop := msgBodiesUptoRow.holds Tryd.pinned (OpenSpec.upto msgBodiesSpec)

/-- 'locumlaw05.MsgLimits', WHERE WHAT IT READS IS OF BULK AT MOST 1048576: true; the input reads as it did. -/
def msgLimitsUptoRow : OpenClaim := { program := "ytgjhdekafiodhaadoor", sum := "66a93b08e5829a183403dc4c9008420ae11c2b4ad1872c03442fa05828c874c2", func := "locum/locumlaw05.MsgLimits", spec := "msgLimits", unfollowed := true, recurses := true, named := ["locum/crc.four"], apart := false, laid := [("locum/crc.four", laid_locum_crc_four)], narrowed := true }
def MsgLimitsUptoSaid : Prop := msgLimitsUptoRow.holds Tryd.pinned (OpenSpec.upto msgLimitsSpec)

end Rows
end Go.Proofs.YtgjhdekafiodhaaDoor
