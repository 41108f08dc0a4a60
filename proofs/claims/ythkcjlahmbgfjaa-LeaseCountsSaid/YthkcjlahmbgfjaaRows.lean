/-
  No cell of these rows narrows 'for every input' (looked for: loops, veiled, ifaces, maps, wideKeys, modest, calm, conditions, laid).
  DERIVED. THE GIVEN ROWS OF THIS SEAT. 5 by the template 'for every input the law returns true; each argument reads behind the call as it read before'; 0 by the template 'total and deterministic' (their statements: YthkcjlahmbgfjaaTotals.lean).
  GIVEN WITH THE SEED: the statements are not yours to turn. If you find one false, say at which input.
  Laid BY PROGRAM, IN A SANDBOX (cutbox-rows.mjs): the forced cells as the released guide's own fill.sh prints them over the translation e4a90517f80d8393… (all of the seat's roots in one cut). By AI agents, Wed Nov 11 2026. No macro, syntax, notation, axiom, sorry.
-/
import Derived.Test.YthkcjlahmbgfjaaChecked
import GoSem.Claim
import GoSem.ClaimJoined
import GoSem.ClaimMapViews
import Derived.JoinedTies
import Derived.KernelRfl
namespace Go.Proofs.Ythkcjlahmbgfjaa
/- THE CELL 'sum', in the pinned program and in every row, IS THE sha256 OF THE DUMP (.gsa) THAT YthkcjlahmbgfjaaProg.lean LOADS. Nothing in Lean hashes anything: it is a label: what it is worth is what the hold of that sum in a sandbox is worth. -/
noncomputable def Try.pinned : Pinned := { name := "ythkcjlahmbgfjaa", sum := "e4a90517f80d839352cf1a9a525fc7cf86e210670f1351e474ddb3274a2a33e6", checked := Try.checked }
namespace Rows
def none {H : Type} : Left H := { results := [], args := [] }

/-- 'locumlaw17.LeaseTells': WHATEVER THE INPUT: true; the input reads as it did. -/
def leaseTellsSpec : ChangeSpec := { name := "leaseTells", fn := fun _ => fun
  | [d1, d2, d3, d4, d5] => { results := [.lit (.bool true)], args := [d1, d2, d3, d4, d5] }
  | _ => none }
def leaseTellsRow : OpenClaim := { program := "ythkcjlahmbgfjaa", sum := "e4a90517f80d839352cf1a9a525fc7cf86e210670f1351e474ddb3274a2a33e6", func := "locum/locumlaw17.LeaseTells", spec := "leaseTells", apart := false }
def LeaseTellsSaid : Prop := leaseTellsRow.holds Try.pinned (OpenSpec.ofChange leaseTellsSpec)

/-- ITS FALSE NEIGHBOUR: 'it returns false'. Refute it at one input. -/
def leaseTellsWrong : ChangeSpec := { name := "leaseTells", fn := fun _ => fun
  | [d1, d2, d3, d4, d5] => { results := [.lit (.bool false)], args := [d1, d2, d3, d4, d5] }
  | _ => none }
def LeaseTellsWrongFalsely : Prop := leaseTellsRow.holds Try.pinned (OpenSpec.ofChange leaseTellsWrong)

/-- 'locumlaw17.LeaseCounts': WHATEVER THE INPUT: true; the input reads as it did. -/
def leaseCountsSpec : ChangeSpec := { name := "leaseCounts", fn := fun _ => fun
  | [d1, d2, d3] => { results := [.lit (.bool true)], args := [d1, d2, d3] }
  | _ => none }
def leaseCountsRow : OpenClaim := { program := "ythkcjlahmbgfjaa", sum := "e4a90517f80d839352cf1a9a525fc7cf86e210670f1351e474ddb3274a2a33e6", func := "locum/locumlaw17.LeaseCounts", spec := "leaseCounts", apart := false }
def LeaseCountsSaid : Prop := leaseCountsRow.holds Try.pinned (OpenSpec.ofChange leaseCountsSpec)

/-- ITS FALSE NEIGHBOUR: 'it returns false'. Refute it at one input. -/
def leaseCountsWrong : ChangeSpec := { name := "leaseCounts", fn := fun _ => fun
  | [d1, d2, d3] => { results := [.lit (.bool false)], args := [d1, d2, d3] }
  | _ => none }
def LeaseCountsWrongFalsely : Prop := leaseCountsRow.holds Try.pinned (OpenSpec.ofChange leaseCountsWrong)

/-- 'locumlaw17.LeaseOther': WHATEVER THE INPUT: true; the input reads as it did. -/
def leaseOtherSpec : ChangeSpec := { name := "leaseOther", fn := fun _ => fun
  | [d1, d2, d3, d4] => { results := [.lit (.bool true)], args := [d1, d2, d3, d4] }
  | _ => none }
def leaseOtherRow : OpenClaim := { program := "ythkcjlahmbgfjaa", sum := "e4a90517f80d839352cf1a9a525fc7cf86e210670f1351e474ddb3274a2a33e6", func := "locum/locumlaw17.LeaseOther", spec := "leaseOther", apart := false }
def LeaseOtherSaid : Prop := leaseOtherRow.holds Try.pinned (OpenSpec.ofChange leaseOtherSpec)

/-- ITS FALSE NEIGHBOUR: 'it returns false'. Refute it at one input. -/
def leaseOtherWrong : ChangeSpec := { name := "leaseOther", fn := fun _ => fun
  | [d1, d2, d3, d4] => { results := [.lit (.bool false)], args := [d1, d2, d3, d4] }
  | _ => none }
def LeaseOtherWrongFalsely : Prop := leaseOtherRow.holds Try.pinned (OpenSpec.ofChange leaseOtherWrong)

/-- 'locumlaw17.LeaseMost': WHATEVER THE INPUT: true; the input reads as it did. -/
def leaseMostSpec : ChangeSpec := { name := "leaseMost", fn := fun _ => fun
  | [d1, d2, d3, d4, d5] => { results := [.lit (.bool true)], args := [d1, d2, d3, d4, d5] }
  | _ => none }
def leaseMostRow : OpenClaim := { program := "ythkcjlahmbgfjaa", sum := "e4a90517f80d839352cf1a9a525fc7cf86e210670f1351e474ddb3274a2a33e6", func := "locum/locumlaw17.LeaseMost", spec := "leaseMost", apart := false }
def LeaseMostSaid : Prop := leaseMostRow.holds Try.pinned (OpenSpec.ofChange leaseMostSpec)

/-- ITS FALSE NEIGHBOUR: 'it returns false'. Refute it at one input. -/
def leaseMostWrong : ChangeSpec := { name := "leaseMost", fn := fun _ => fun
  | [d1, d2, d3, d4, d5] => { results := [.lit (.bool false)], args := [d1, d2, d3, d4, d5] }
  | _ => none }
def LeaseMostWrongFalsely : Prop := leaseMostRow.holds Try.pinned (OpenSpec.ofChange leaseMostWrong)

/-- 'locumlaw17.LeaseFew': WHATEVER THE INPUT: true; the input reads as it did. -/
def leaseFewSpec : ChangeSpec := { name := "leaseFew", fn := fun _ => fun
  | [d1, d2, d3, d4] => { results := [.lit (.bool true)], args := [d1, d2, d3, d4] }
  | _ => none }
def leaseFewRow : OpenClaim := { program := "ythkcjlahmbgfjaa", sum := "e4a90517f80d839352cf1a9a525fc7cf86e210670f1351e474ddb3274a2a33e6", func := "locum/locumlaw17.LeaseFew", spec := "leaseFew", apart := false }
def LeaseFewSaid : Prop := leaseFewRow.holds Try.pinned (OpenSpec.ofChange leaseFewSpec)

/-- ITS FALSE NEIGHBOUR: 'it returns false'. Refute it at one input. -/
def leaseFewWrong : ChangeSpec := { name := "leaseFew", fn := fun _ => fun
  | [d1, d2, d3, d4] => { results := [.lit (.bool false)], args := [d1, d2, d3, d4] }
  | _ => none }
def LeaseFewWrongFalsely : Prop := leaseFewRow.holds Try.pinned (OpenSpec.ofChange leaseFewWrong)

/- THE SECOND FORM. 'bulk': how many values and letters a reading holds, each counted each time it is reached (what is shared counts as often as it is met; a slice's spare places count too). A statement '..UptoSaid' is the law's where the arguments, and the package variables that the reading takes, are together of bulk at most 1048576: NARROWER than '..Said'. Prove '..Said' where nothing that the law and all that it calls make is longer than what came in: it says more and counts as full. Else prove '..UptoSaid'. A law counts once. -/
mutual
def uptoBulk {H : Type} : DataW H → Nat
  | .lit (.string bytes) => bytes.length + 1
  | .lit _ => 1
  | .nil => 1
  | .ptr d => uptoBulk d + 1
  | .slice elems spare => uptoBulkAll elems + uptoBulkAll spare + 1
  | .agg parts => uptoBulkAll parts + 1
  | .iface _ d => uptoBulk d + 1
  | .map entries => uptoBulkEntries entries + 1
  | .held _ => 1
def uptoBulkAll {H : Type} : List (DataW H) → Nat
  | [] => 0
  | d :: r => uptoBulk d + uptoBulkAll r
def uptoBulkEntries {H : Type} : List (Lit × DataW H) → Nat
  | [] => 0
  | x :: r => uptoBulkEntry x + uptoBulkEntries r
def uptoBulkEntry {H : Type} : Lit × DataW H → Nat
  | (.string bytes, d) => bytes.length + uptoBulk d + 1
  | (_, d) => uptoBulk d + 1
 end
def uptoSmall : (H : Type) → List (DataW H) → Bool := fun _ ds => decide (uptoBulkAll ds ≤ 1048576)
def OpenSpec.upto (s : _root_.Go.ChangeSpec) : _root_.Go.OpenSpec := { _root_.Go.OpenSpec.ofChange s with cond := some uptoSmall }

/-- 'locumlaw17.LeaseTells', WHERE WHAT IT READS IS OF BULK AT MOST 1048576: true; the input reads as it did. -/
def leaseTellsUptoRow : OpenClaim := { program := "ythkcjlahmbgfjaa", sum := "e4a90517f80d839352cf1a9a525fc7cf86e210670f1351e474ddb3274a2a33e6", func := "locum/locumlaw17.LeaseTells", spec := "leaseTells", apart := false, narrowed := true }
def LeaseTellsUptoSaid : Prop := leaseTellsUptoRow.holds Try.pinned (OpenSpec.upto leaseTellsSpec)

/-- 'locumlaw17.LeaseCounts', WHERE WHAT IT READS IS OF BULK AT MOST 1048576: true; the input reads as it did. -/
def leaseCountsUptoRow : OpenClaim := { program := "ythkcjlahmbgfjaa", sum := "e4a90517f80d839352cf1a9a525fc7cf86e210670f1351e474ddb3274a2a33e6", func := "locum/locumlaw17.LeaseCounts", spec := "leaseCounts", apart := false, narrowed := true }
def LeaseCountsUptoSaid : Prop := leaseCountsUptoRow.holds Try.pinned (OpenSpec.upto leaseCountsSpec)

/-- 'locumlaw17.LeaseOther', WHERE WHAT IT READS IS OF BULK AT MOST 1048576: true; the input reads as it did. -/
def leaseOtherUptoRow : OpenClaim := { program := "ythkcjlahmbgfjaa", sum := "e4a90517f80d839352cf1a9a525fc7cf86e210670f1351e474ddb3274a2a33e6", func := "locum/locumlaw17.LeaseOther", spec := "leaseOther", apart := false, narrowed := true }
def LeaseOtherUptoSaid : Prop := leaseOtherUptoRow.holds Try.pinned (OpenSpec.upto leaseOtherSpec)

/-- 'locumlaw17.LeaseMost', WHERE WHAT IT READS IS OF BULK AT MOST 1048576: true; the input reads as it did. -/
def leaseMostUptoRow : OpenClaim := { program := "ythkcjlahmbgfjaa", sum := "e4a90517f80d839352cf1a9a525fc7cf86e210670f1351e474ddb3274a2a33e6", func := "locum/locumlaw17.LeaseMost", spec := "leaseMost", apart := false, narrowed := true }
def LeaseMostUptoSaid : Prop := leaseMostUptoRow.holds Try.pinned (OpenSpec.upto leaseMostSpec)

/-- 'locumlaw17.LeaseFew', WHERE WHAT IT READS IS OF BULK AT MOST 1048576: true; the input reads as it did. -/
def leaseFewUptoRow : OpenClaim := { program := "ythkcjlahmbgfjaa", sum := "e4a90517f80d839352cf1a9a525fc7cf86e210670f1351e474ddb3274a2a33e6", func := "locum/locumlaw17.LeaseFew", spec := "leaseFew", apart := false, narrowed := true }
def LeaseFewUptoSaid : Prop := leaseFewUptoRow.holds Try.pinned (OpenSpec.upto leaseFewSpec)

end Rows
end Go.Proofs.Ythkcjlahmbgfjaa
