/-
  NARROWER THAN 'FOR EVERY INPUT', by the rows' own cells (each row's printed sentence says how): FenceWell: laid · FenceWrites: laid · FenceFalls: laid · FenceLeased: laid · FenceOnce: laid.
  DERIVED. THE GIVEN ROWS OF THIS SEAT. 5 by the template 'for every input the law returns true; each argument reads behind the call as it read before'; 0 by the template 'total and deterministic' (their statements: YtflpengopdhhhaaDoorTotals.lean).
  GIVEN WITH THE SEED: the statements are not yours to turn. If you find one false, say at which input.
  Laid BY PROGRAM, IN A SANDBOX (cutbox-rows.mjs): the forced cells as the released guide's own fill.sh prints them over the translation 644c3227d9bb250a… (all of the seat's roots in one cut). By AI agents, Wed Nov 11 2026. No macro, syntax, notation, axiom, sorry.
-/
import Derived.Test.YtflpengopdhhhaaDoorChecked
import GoSem.Claim
import GoSem.ClaimJoined
import GoSem.ClaimMapViews
import Derived.JoinedTies
import Derived.KernelRfl
namespace Go.Proofs.YtflpengopdhhhaaDoor
/- THE CELL 'sum', in the pinned program and in every row, IS THE sha256 OF THE DUMP (.gsa) THAT YtflpengopdhhhaaDoorProg.lean LOADS. Nothing in Lean hashes anything: it is a label: what it is worth is what the hold of that sum in a sandbox is worth. -/
noncomputable def Tryd.pinned : Pinned := { name := "ytflpengopdhhhaadoor", sum := "644c3227d9bb250a834c59f941754ea1beaa9aa8ab335ef695258c768f142040", checked := Tryd.checked }
namespace Rows
def none {H : Type} : Left H := { results := [], args := [] }

/- WHAT THE LISTED PACKAGE-LEVEL VARIABLES READ AS WHEN THE CALL BEGINS. Each datum BY PROGRAM (the guide's laid-datum.mjs) off the statement by which the dump's own 'gosem.cut.vars' lays the variable. In a bare row this is a premise. The card (YtflpengopdhhhaaDoorCards.lean) ties it to the program's text. -/
def laid_locum_crc_four {H : Type} : DataW H := .agg [.lit (.int .u32 0), .lit (.int .u32 498536548), .lit (.int .u32 997073096), .lit (.int .u32 651767980), .lit (.int .u32 1994146192), .lit (.int .u32 1802195444), .lit (.int .u32 1303535960), .lit (.int .u32 1342533948), .lit (.int .u32 3988292384), .lit (.int .u32 4027552580), .lit (.int .u32 3604390888), .lit (.int .u32 3412177804), .lit (.int .u32 2607071920), .lit (.int .u32 2262029012), .lit (.int .u32 2685067896), .lit (.int .u32 3183342108)]

/-- 'locumlaw18.FenceWell': WHATEVER THE INPUT: true; the input reads as it did. -/
def fenceWellSpec : ChangeSpec := { name := "fenceWell", fn := fun _ => fun
  | [d1, d2, d3, d4, d5] => { results := [.lit (.bool true)], args := [d1, d2, d3, d4, d5] }
  | _ => none }
def fenceWellRow : OpenClaim := { program := "ytflpengopdhhhaadoor", sum := "644c3227d9bb250a834c59f941754ea1beaa9aa8ab335ef695258c768f142040", func := "locum/locumlaw18.FenceWell", spec := "fenceWell", unfollowed := true, recurses := true, named := ["locum/crc.four"], apart := false, laid := [("locum/crc.four", laid_locum_crc_four)] }
def FenceWellSaid : Prop := fenceWellRow.holds Tryd.pinned (OpenSpec.ofChange fenceWellSpec)

/-- ITS FALSE NEIGHBOUR: 'it returns false'. Refute it at one input. -/
def fenceWellWrong : ChangeSpec := { name := "fenceWell", fn := fun _ => fun
  | [d1, d2, d3, d4, d5] => { results := [.lit (.bool false)], args := [d1, d2, d3, d4, d5] }
  | _ => none }
def FenceWellWrongFalsely : Prop := fenceWellRow.holds Tryd.pinned (OpenSpec.ofChange fenceWellWrong)

/-- 'locumlaw18.FenceWrites': WHATEVER THE INPUT: true; the input reads as it did. -/
def fenceWritesSpec : ChangeSpec := { name := "fenceWrites", fn := fun _ => fun
  | [d1, d2, d3] => { results := [.lit (.bool true)], args := [d1, d2, d3] }
  | _ => none }
def fenceWritesRow : OpenClaim := { program := "ytflpengopdhhhaadoor", sum := "644c3227d9bb250a834c59f941754ea1beaa9aa8ab335ef695258c768f142040", func := "locum/locumlaw18.FenceWrites", spec := "fenceWrites", unfollowed := true, recurses := true, named := ["locum/crc.four"], apart := false, laid := [("locum/crc.four", laid_locum_crc_four)] }
def FenceWritesSaid : Prop := fenceWritesRow.holds Tryd.pinned (OpenSpec.ofChange fenceWritesSpec)

/-- ITS FALSE NEIGHBOUR: 'it returns false'. Refute it at one input. -/
def fenceWritesWrong : ChangeSpec := { name := "fenceWrites", fn := fun _ => fun
  | [d1, d2, d3] => { results := [.lit (.bool false)], args := [d1, d2, d3] }
  | _ => none }
def FenceWritesWrongFalsely : Prop := fenceWritesRow.holds Tryd.pinned (OpenSpec.ofChange fenceWritesWrong)

/-- 'locumlaw18.FenceFalls': WHATEVER THE INPUT: true; the input reads as it did. -/
def fenceFallsSpec : ChangeSpec := { name := "fenceFalls", fn := fun _ => fun
  | [d1, d2] => { results := [.lit (.bool true)], args := [d1, d2] }
  | _ => none }
def fenceFallsRow : OpenClaim := { program := "ytflpengopdhhhaadoor", sum := "644c3227d9bb250a834c59f941754ea1beaa9aa8ab335ef695258c768f142040", func := "locum/locumlaw18.FenceFalls", spec := "fenceFalls", unfollowed := true, recurses := true, named := ["locum/crc.four"], apart := false, laid := [("locum/crc.four", laid_locum_crc_four)] }
def FenceFallsSaid : Prop := fenceFallsRow.holds Tryd.pinned (OpenSpec.ofChange fenceFallsSpec)

/-- ITS FALSE NEIGHBOUR: 'it returns false'. Refute it at one input. -/
def fenceFallsWrong : ChangeSpec := { name := "fenceFalls", fn := fun _ => fun
  | [d1, d2] => { results := [.lit (.bool false)], args := [d1, d2] }
  | _ => none }
def FenceFallsWrongFalsely : Prop := fenceFallsRow.holds Tryd.pinned (OpenSpec.ofChange fenceFallsWrong)

/-- 'locumlaw18.FenceLeased': WHATEVER THE INPUT: true; the input reads as it did. -/
def fenceLeasedSpec : ChangeSpec := { name := "fenceLeased", fn := fun _ => fun
  | [d1, d2] => { results := [.lit (.bool true)], args := [d1, d2] }
  | _ => none }
def fenceLeasedRow : OpenClaim := { program := "ytflpengopdhhhaadoor", sum := "644c3227d9bb250a834c59f941754ea1beaa9aa8ab335ef695258c768f142040", func := "locum/locumlaw18.FenceLeased", spec := "fenceLeased", unfollowed := true, recurses := true, named := ["locum/crc.four"], apart := false, laid := [("locum/crc.four", laid_locum_crc_four)] }
def FenceLeasedSaid : Prop := fenceLeasedRow.holds Tryd.pinned (OpenSpec.ofChange fenceLeasedSpec)

/-- ITS FALSE NEIGHBOUR: 'it returns false'. Refute it at one input. -/
def fenceLeasedWrong : ChangeSpec := { name := "fenceLeased", fn := fun _ => fun
  | [d1, d2] => { results := [.lit (.bool false)], args := [d1, d2] }
  | _ => none }
def FenceLeasedWrongFalsely : Prop := fenceLeasedRow.holds Tryd.pinned (OpenSpec.ofChange fenceLeasedWrong)

/-- 'locumlaw18.FenceOnce': WHATEVER THE INPUT: true; the input reads as it did. -/
def fenceOnceSpec : ChangeSpec := { name := "fenceOnce", fn := fun _ => fun
  | [d1, d2] => { results := [.lit (.bool true)], args := [d1, d2] }
  | _ => none }
def fenceOnceRow : OpenClaim := { program := "ytflpengopdhhhaadoor", sum := "644c3227d9bb250a834c59f941754ea1beaa9aa8ab335ef695258c768f142040", func := "locum/locumlaw18.FenceOnce", spec := "fenceOnce", unfollowed := true, recurses := true, named := ["locum/crc.four"], apart := false, laid := [("locum/crc.four", laid_locum_crc_four)] }
def FenceOnceSaid : Prop := fenceOnceRow.holds Tryd.pinned (OpenSpec.ofChange fenceOnceSpec)

/-- ITS FALSE NEIGHBOUR: 'it returns false'. Refute it at one input. -/
def fenceOnceWrong : ChangeSpec := { name := "fenceOnce", fn := fun _ => fun
  | [d1, d2] => { results := [.lit (.bool false)], args := [d1, d2] }
  | _ => none }
def FenceOnceWrongFalsely : Prop := fenceOnceRow.holds Tryd.pinned (OpenSpec.ofChange fenceOnceWrong)

/- THE SECOND FORM. 'bulk': how many values and letters a reading holds, each counted each time it is reached (what is shared counts as often as it is met; a slice's spare places count too). A statement '..UptoSaid' is the law's where the arguments, and the package variables that the reading takes, are together of bulk at most 1048576: NARROWER than '..Said'. Prove '..Said' where nothing that the law and all that it calls make is longer than what came in: it says more and counts as full. Else prove '..UptoSaid'. A law counts once. -/
mutual
def uptoBulk {H : Type} : DataW H → Nat
  | .lit (.string bytes) => bytes.length + 1
  | .lit _ => 1
  | .nil => 1
  | .ptr d => uptoBulk d + 1
  | .slice elems spare => uptoBulkAll elems + uptoBulkAll spare + 1
  | .agg parts => uptoBulkAll parts + 1
  | .iface _ d => uptoBulk d + 1
  | .map entries => uptoBulkEntries entries + 1
  | .held _ => 1
def uptoBulkAll {H : Type} : List (DataW H) → Nat
  | [] => 0
  | d :: r => uptoBulk d + uptoBulkAll r
def uptoBulkEntries {H : Type} : List (Lit × DataW H) → Nat
  | [] => 0
  | x :: r => uptoBulkEntry x + uptoBulkEntries r
def uptoBulkEntry {H : Type} : Lit × DataW H → Nat
  | (.string bytes, d) => bytes.length + uptoBulk d + 1
  | (_, d) => uptoBulk d + 1
 end
def uptoSmall : (H : Type) → List (DataW H) → Bool := fun _ ds => decide (uptoBulkAll ds ≤ 1048576)
def OpenSpec.upto (s : _root_.Go.ChangeSpec) : _root_.Go.OpenSpec := { _root_.Go.OpenSpec.ofChange s with cond := some uptoSmall }

/-- 'locumlaw18.FenceWell', WHERE WHAT IT READS IS OF BULK AT MOST 1048576: true; the input reads as it did. -/
def fenceWellUptoRow : OpenClaim := { program := "ytflpengopdhhhaadoor", sum := "644c3227d9bb250a834c59f941754ea1beaa9aa8ab335ef695258c768f142040", func := "locum/locumlaw18.FenceWell", spec := "fenceWell", unfollowed := true, recurses := true, named := ["locum/crc.four"], apart := false, laid := [("locum/crc.four", laid_locum_crc_four)], narrowed := true }
def FenceWellUptoSaid : Prop := fenceWellUptoRow.holds Tryd.pinned (OpenSpec.upto fenceWellSpec)

/-- 'locumlaw18.FenceWrites', WHERE WHAT IT READS IS OF BULK AT MOST 1048576: true; the input reads as it did. -/
def fenceWritesUptoRow : OpenClaim := { program := "ytflpengopdhhhaadoor", sum := "644c3227d9bb250a834c59f941754ea1beaa9aa8ab335ef695258c768f142040", func := "locum/locumlaw18.FenceWrites", spec := "fenceWrites", unfollowed := true, recurses := true, named := ["locum/crc.four"], apart := false, laid := [("locum/crc.four", laid_locum_crc_four)], narrowed := true }
def FenceWritesUptoSaid : Prop := fenceWritesUptoRow.holds Tryd.pinned (OpenSpec.upto fenceWritesSpec)

/-- 'locumlaw18.FenceFalls', WHERE WHAT IT READS IS OF BULK AT MOST 1048576: true; the input reads as it did. -/
def fenceFallsUptoRow : OpenClaim := { program := "ytflpengopdhhhaadoor", sum := "644c3227d9bb250a834c59f941754ea1beaa9aa8ab335ef695258c768f142040", func := "locum/locumlaw18.FenceFalls", spec := "fenceFalls", unfollowed := true, recurses := true, named := ["locum/crc.four"], apart := false, laid := [("locum/crc.four", laid_locum_crc_four)], narrowed := true }
def FenceFallsUptoSaid : Prop := fenceFallsUptoRow.holds Tryd.pinned (OpenSpec.upto fenceFallsSpec)

/-- 'locumlaw18.FenceLeased', WHERE WHAT IT READS IS OF BULK AT MOST 1048576: true; the input reads as it did. -/
def fenceLeasedUptoRow : OpenClaim := { program := "ytflpengopdhhhaadoor", sum := "644c3227d9bb250a834c59f941754ea1beaa9aa8ab335ef695258c768f142040", func := "locum/locumlaw18.FenceLeased", spec := "fenceLeased", unfollowed := true, recurses := true, named := ["locum/crc.four"], apart := false, laid := [("locum/crc.four", laid_locum_crc_four)], narrowed := true }
def FenceLeasedUptoSaid : Prop := fenceLeasedUptoRow.holds Tryd.pinned (OpenSpec.upto fenceLeasedSpec)

/-- 'locumlaw18.FenceOnce', WHERE WHAT IT READS IS OF BULK AT MOST 1048576: true; the input reads as it did. -/
def fenceOnceUptoRow : OpenClaim := { program := "ytflpengopdhhhaadoor", sum := "644c3227d9bb250a834c59f941754ea1beaa9aa8ab335ef695258c768f142040", func := "locum/locumlaw18.FenceOnce", spec := "fenceOnce", unfollowed := true, recurses := true, named := ["locum/crc.four"], apart := false, laid := [("locum/crc.four", laid_locum_crc_four)], narrowed := true }
def FenceOnceUptoSaid : Prop := fenceOnceUptoRow.holds Tryd.pinned (OpenSpec.upto fenceOnceSpec)

end Rows
end Go.Proofs.YtflpengopdhhhaaDoor
