/-
  No cell of these rows narrows 'for every input' (looked for: loops, veiled, ifaces, maps, wideKeys, modest, calm, conditions, laid).
  DERIVED. THE GIVEN ROWS OF THIS SEAT. 6 by the template 'for every input the law returns true; each argument reads behind the call as it read before'; 0 by the template 'total and deterministic' (their statements: YthooiaebbikjiaaTotals.lean).
  GIVEN WITH THE SEED: the statements are not yours to turn. If you find one false, say at which input.
  Laid BY PROGRAM, IN A SANDBOX (cutbox-rows.mjs): the forced cells as the released guide's own fill.sh prints them over the translation 3038bb8cf0965d1c… (all of the seat's roots in one cut). By AI agents, Wed Nov 11 2026. No macro, syntax, notation, axiom, sorry.
-/
import Derived.Test.YthooiaebbikjiaaChecked
import GoSem.Claim
import GoSem.ClaimJoined
import GoSem.ClaimMapViews
import Derived.JoinedTies
import Derived.KernelRfl
namespace Go.Proofs.Ythooiaebbikjiaa
/- THE CELL 'sum', in the pinned program and in every row, IS THE sha256 OF THE DUMP (.gsa) THAT YthooiaebbikjiaaProg.lean LOADS. Nothing in Lean hashes anything: it is a label: what it is worth is what the hold of that sum in a sandbox is worth. -/
noncomputable def Try.pinned : Pinned := { name := "ythooiaebbikjiaa", sum := "3038bb8cf0965d1c320e65032d7b36dbf2d310a5a13ecbde742badb554349264", checked := Try.checked }
namespace Rows
def none {H : Type} : Left H := { results := [], args := [] }

/-- 'locumlaw11.TallyTells': WHATEVER THE INPUT: true; the input reads as it did. -/
def tallyTellsSpec : ChangeSpec := { name := "tallyTells", fn := fun _ => fun
  | [d1, d2, d3, d4, d5] => { results := [.lit (.bool true)], args := [d1, d2, d3, d4, d5] }
  | _ => none }
def tallyTellsRow : OpenClaim := { program := "ythooiaebbikjiaa", sum := "3038bb8cf0965d1c320e65032d7b36dbf2d310a5a13ecbde742badb554349264", func := "locum/locumlaw11.TallyTells", spec := "tallyTells", unfollowed := true, recurses := true, apart := false }
def TallyTellsSaid : Prop := tallyTellsRow.holds Try.pinned (OpenSpec.ofChange tallyTellsSpec)

/-- ITS FALSE NEIGHBOUR: 'it returns false'. Refute it at one input. -/
def tallyTellsWrong : ChangeSpec := { name := "tallyTells", fn := fun _ => fun
  | [d1, d2, d3, d4, d5] => { results := [.lit (.bool false)], args := [d1, d2, d3, d4, d5] }
  | _ => none }
def TallyTellsWrongFalsely : Prop := tallyTellsRow.holds Try.pinned (OpenSpec.ofChange tallyTellsWrong)

/-- 'locumlaw11.TallyMost': WHATEVER THE INPUT: true; the input reads as it did. -/
def tallyMostSpec : ChangeSpec := { name := "tallyMost", fn := fun _ => fun
  | [d1, d2, d3, d4, d5, d6] => { results := [.lit (.bool true)], args := [d1, d2, d3, d4, d5, d6] }
  | _ => none }
def tallyMostRow : OpenClaim := { program := "ythooiaebbikjiaa", sum := "3038bb8cf0965d1c320e65032d7b36dbf2d310a5a13ecbde742badb554349264", func := "locum/locumlaw11.TallyMost", spec := "tallyMost", unfollowed := true, recurses := true, apart := false }
def TallyMostSaid : Prop := tallyMostRow.holds Try.pinned (OpenSpec.ofChange tallyMostSpec)

/-- ITS FALSE NEIGHBOUR: 'it returns false'. Refute it at one input. -/
def tallyMostWrong : ChangeSpec := { name := "tallyMost", fn := fun _ => fun
  | [d1, d2, d3, d4, d5, d6] => { results := [.lit (.bool false)], args := [d1, d2, d3, d4, d5, d6] }
  | _ => none }
def TallyMostWrongFalsely : Prop := tallyMostRow.holds Try.pinned (OpenSpec.ofChange tallyMostWrong)

/-- 'locumlaw11.TallyMore': WHATEVER THE INPUT: true; the input reads as it did. -/
def tallyMoreSpec : ChangeSpec := { name := "tallyMore", fn := fun _ => fun
  | [d1, d2, d3, d4, d5, d6] => { results := [.lit (.bool true)], args := [d1, d2, d3, d4, d5, d6] }
  | _ => none }
def tallyMoreRow : OpenClaim := { program := "ythooiaebbikjiaa", sum := "3038bb8cf0965d1c320e65032d7b36dbf2d310a5a13ecbde742badb554349264", func := "locum/locumlaw11.TallyMore", spec := "tallyMore", unfollowed := true, recurses := true, apart := false }
def TallyMoreSaid : Prop := tallyMoreRow.holds Try.pinned (OpenSpec.ofChange tallyMoreSpec)

/-- ITS FALSE NEIGHBOUR: 'it returns false'. Refute it at one input. -/
def tallyMoreWrong : ChangeSpec := { name := "tallyMore", fn := fun _ => fun
  | [d1, d2, d3, d4, d5, d6] => { results := [.lit (.bool false)], args := [d1, d2, d3, d4, d5, d6] }
  | _ => none }
def TallyMoreWrongFalsely : Prop := tallyMoreRow.holds Try.pinned (OpenSpec.ofChange tallyMoreWrong)

/-- 'locumlaw11.TallyPuts': WHATEVER THE INPUT: true; the input reads as it did. -/
def tallyPutsSpec : ChangeSpec := { name := "tallyPuts", fn := fun _ => fun
  | [d] => { results := [.lit (.bool true)], args := [d] }
  | _ => none }
def tallyPutsRow : OpenClaim := { program := "ythooiaebbikjiaa", sum := "3038bb8cf0965d1c320e65032d7b36dbf2d310a5a13ecbde742badb554349264", func := "locum/locumlaw11.TallyPuts", spec := "tallyPuts", unfollowed := true, recurses := true, apart := false }
def TallyPutsSaid : Prop := tallyPutsRow.holds Try.pinned (OpenSpec.ofChange tallyPutsSpec)

/-- ITS FALSE NEIGHBOUR: 'it returns false'. Refute it at one input. -/
def tallyPutsWrong : ChangeSpec := { name := "tallyPuts", fn := fun _ => fun
  | [d] => { results := [.lit (.bool false)], args := [d] }
  | _ => none }
def TallyPutsWrongFalsely : Prop := tallyPutsRow.holds Try.pinned (OpenSpec.ofChange tallyPutsWrong)

/-- 'locumlaw11.TallyAll': WHATEVER THE INPUT: true; the input reads as it did. -/
def tallyAllSpec : ChangeSpec := { name := "tallyAll", fn := fun _ => fun
  | [d1, d2, d3, d4, d5] => { results := [.lit (.bool true)], args := [d1, d2, d3, d4, d5] }
  | _ => none }
def tallyAllRow : OpenClaim := { program := "ythooiaebbikjiaa", sum := "3038bb8cf0965d1c320e65032d7b36dbf2d310a5a13ecbde742badb554349264", func := "locum/locumlaw11.TallyAll", spec := "tallyAll", unfollowed := true, recurses := true, apart := false }
def TallyAllSaid : Prop := tallyAllRow.holds Try.pinned (OpenSpec.ofChange tallyAllSpec)

/-- ITS FALSE NEIGHBOUR: 'it returns false'. Refute it at one input. -/
def tallyAllWrong : ChangeSpec := { name := "tallyAll", fn := fun _ => fun
  | [d1, d2, d3, d4, d5] => { results := [.lit (.bool false)], args := [d1, d2, d3, d4, d5] }
  | _ => none }
def TallyAllWrongFalsely : Prop := tallyAllRow.holds Try.pinned (OpenSpec.ofChange tallyAllWrong)

/-- 'locumlaw11.TallyOne': WHATEVER THE INPUT: true; the input reads as it did. -/
def tallyOneSpec : ChangeSpec := { name := "tallyOne", fn := fun _ => fun
  | [d1, d2, d3] => { results := [.lit (.bool true)], args := [d1, d2, d3] }
  | _ => none }
def tallyOneRow : OpenClaim := { program := "ythooiaebbikjiaa", sum := "3038bb8cf0965d1c320e65032d7b36dbf2d310a5a13ecbde742badb554349264", func := "locum/locumlaw11.TallyOne", spec := "tallyOne", unfollowed := true, recurses := true, apart := false }
def TallyOneSaid : Prop := tallyOneRow.holds Try.pinned (OpenSpec.ofChange tallyOneSpec)

/-- ITS FALSE NEIGHBOUR: 'it returns false'. Refute it at one input. -/
def tallyOneWrong : ChangeSpec := { name := "tallyOne", fn := fun _ => fun
  | [d1, d2, d3] => { results := [.lit (.bool false)], args := [d1, d2, d3] }
  | _ => none }
def TallyOneWrongFalsely : Prop := tallyOneRow.holds Try.pinned (OpenSpec.ofChange tallyOneWrong)

/- THE SECOND FORM. 'bulk': how many values and letters a reading holds, each counted each time it is reached (what is shared counts as often as it is met; a slice's spare places count too). A statement '..UptoSaid' is the law's where the arguments, and the package variables that the reading takes, are together of bulk at most 1048576: NARROWER than '..Said'. Prove '..Said' where nothing that the law and all that it calls make is longer than what came in: it says more and counts as full. Else prove '..UptoSaid'. A law counts once. -/
mutual
def uptoBulk {H : Type} : DataW H → Nat
  | .lit (.string bytes) => bytes.length + 1
  | .lit _ => 1
  | .nil => 1
  | .ptr d => uptoBulk d + 1
  | .slice elems spare => uptoBulkAll elems + uptoBulkAll spare + 1
  | .agg parts => uptoBulkAll parts + 1
  | .iface _ d => uptoBulk d + 1
  | .map entries => uptoBulkEntries entries + 1
  | .held _ => 1
def uptoBulkAll {H : Type} : List (DataW H) → Nat
  | [] => 0
  | d :: r => uptoBulk d + uptoBulkAll r
def uptoBulkEntries {H : Type} : List (Lit × DataW H) → Nat
  | [] => 0
  | x :: r => uptoBulkEntry x + uptoBulkEntries r
def uptoBulkEntry {H : Type} : Lit × DataW H → Nat
  | (.string bytes, d) => bytes.length + uptoBulk d + 1
  | (_, d) => uptoBulk d + 1
 end
def uptoSmall : (H : Type) → List (DataW H) → Bool := fun _ ds => decide (uptoBulkAll ds ≤ 1048576)
def OpenSpec.upto (s : _root_.Go.ChangeSpec) : _root_.Go.OpenSpec := { _root_.Go.OpenSpec.ofChange s with cond := some uptoSmall }

/-- 'locumlaw11.TallyTells', WHERE WHAT IT READS IS OF BULK AT MOST 1048576: true; the input reads as it did. -/
def tallyTellsUptoRow : OpenClaim := { program := "ythooiaebbikjiaa", sum := "3038bb8cf0965d1c320e65032d7b36dbf2d310a5a13ecbde742badb554349264", func := "locum/locumlaw11.TallyTells", spec := "tallyTells", unfollowed := true, recurses := true, apart := false, narrowed := true }
def TallyTellsUptoSaid : Prop := tallyTellsUptoRow.holds Try.pinned (OpenSpec.upto tallyTellsSpec)

/-- 'locumlaw11.TallyMost', WHERE WHAT IT READS IS OF BULK AT MOST 1048576: true; the input reads as it did. -/
def tallyMostUptoRow : OpenClaim := { program := "ythooiaebbikjiaa", sum := "3038bb8cf0965d1c320e65032d7b36dbf2d310a5a13ecbde742badb554349264", func := "locum/locumlaw11.TallyMost", spec := "tallyMost", unfollowed := true, recurses := true, apart := false, narrowed := true }
def TallyMostUptoSaid : Prop := tallyMostUptoRow.holds Try.pinned (OpenSpec.upto tallyMostSpec)

/-- 'locumlaw11.TallyMore', WHERE WHAT IT READS IS OF BULK AT MOST 1048576: true; the input reads as it did. -/
def tallyMoreUptoRow : OpenClaim := { program := "ythooiaebbikjiaa", sum := "3038bb8cf0965d1c320e65032d7b36dbf2d310a5a13ecbde742badb554349264", func := "locum/locumlaw11.TallyMore", spec := "tallyMore", unfollowed := true, recurses := true, apart := false, narrowed := true }
def TallyMoreUptoSaid : Prop := tallyMoreUptoRow.holds Try.pinned (OpenSpec.upto tallyMoreSpec)

/-- 'locumlaw11.TallyPuts', WHERE WHAT IT READS IS OF BULK AT MOST 1048576: true; the input reads as it did. -/
def tallyPutsUptoRow : OpenClaim := { program := "ythooiaebbikjiaa", sum := "3038bb8cf0965d1c320e65032d7b36dbf2d310a5a13ecbde742badb554349264", func := "locum/locumlaw11.TallyPuts", spec := "tallyPuts", unfollowed := true, recurses := true, apart := false, narrowed := true }
def TallyPutsUptoSaid : Prop := tallyPutsUptoRow.holds Try.pinned (OpenSpec.upto tallyPutsSpec)

/-- 'locumlaw11.TallyAll', WHERE WHAT IT READS IS OF BULK AT MOST 1048576: true; the input reads as it did. -/
def tallyAllUptoRow : OpenClaim := { program := "ythooiaebbikjiaa", sum := "3038bb8cf0965d1c320e65032d7b36dbf2d310a5a13ecbde742badb554349264", func := "locum/locumlaw11.TallyAll", spec := "tallyAll", unfollowed := true, recurses := true, apart := false, narrowed := true }
def TallyAllUptoSaid : Prop := tallyAllUptoRow.holds Try.pinned (OpenSpec.upto tallyAllSpec)

/-- 'locumlaw11.TallyOne', WHERE WHAT IT READS IS OF BULK AT MOST 1048576: true; the input reads as it did. -/
def tallyOneUptoRow : OpenClaim := { program := "ythooiaebbikjiaa", sum := "3038bb8cf0965d1c320e65032d7b36dbf2d310a5a13ecbde742badb554349264", func := "locum/locumlaw11.TallyOne", spec := "tallyOne", unfollowed := true, recurses := true, apart := false, narrowed := true }
def TallyOneUptoSaid : Prop := tallyOneUptoRow.holds Try.pinned (OpenSpec.upto tallyOneSpec)

end Rows
end Go.Proofs.Ythooiaebbikjiaa
