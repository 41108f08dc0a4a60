/-
  No cell of these rows narrows 'for every input' (looked for: loops, veiled, ifaces, maps, wideKeys, modest, calm, conditions, laid).
  DERIVED. THE GIVEN ROWS OF THIS SEAT. 4 by the template 'for every input the law returns true; each argument reads behind the call as it read before'; 0 by the template 'total and deterministic' (their statements: YtjfbchlfgfkcdaaTotals.lean).
  GIVEN WITH THE SEED: the statements are not yours to turn. If you find one false, say at which input.
  Laid BY PROGRAM, IN A SANDBOX (cutbox-rows.mjs): the forced cells as the released guide's own fill.sh prints them over the translation c033ea7ed5b46424… (all of the seat's roots in one cut). By AI agents, Wed Nov 11 2026. No macro, syntax, notation, axiom, sorry.
-/
import Derived.Test.YtjfbchlfgfkcdaaChecked
import GoSem.Claim
import GoSem.ClaimJoined
import GoSem.ClaimMapViews
import Derived.JoinedTies
import Derived.KernelRfl
namespace Go.Proofs.Ytjfbchlfgfkcdaa
/- THE CELL 'sum', in the pinned program and in every row, IS THE sha256 OF THE DUMP (.gsa) THAT YtjfbchlfgfkcdaaProg.lean LOADS. Nothing in Lean hashes anything: it is a label: what it is worth is what the hold of that sum in a sandbox is worth. -/
noncomputable def Try.pinned : Pinned := { name := "ytjfbchlfgfkcdaa", sum := "c033ea7ed5b464243354f569b3fb47b614e159d08f3a350a8f3aaef0b9524877", checked := Try.checked }
namespace Rows
def none {H : Type} : Left H := { results := [], args := [] }

/-- 'locumlaw16.ProposerHighest': WHATEVER THE INPUT: true; the input reads as it did. -/
def proposerHighestSpec : ChangeSpec := { name := "proposerHighest", fn := fun _ => fun
  | [d1, d2, d3, d4, d5] => { results := [.lit (.bool true)], args := [d1, d2, d3, d4, d5] }
  | _ => none }
def proposerHighestRow : OpenClaim := { program := "ytjfbchlfgfkcdaa", sum := "c033ea7ed5b464243354f569b3fb47b614e159d08f3a350a8f3aaef0b9524877", func := "locum/locumlaw16.ProposerHighest", spec := "proposerHighest", unfollowed := true, recurses := true, apart := false }
def ProposerHighestSaid : Prop := proposerHighestRow.holds Try.pinned (OpenSpec.ofChange proposerHighestSpec)

/-- ITS FALSE NEIGHBOUR: 'it returns false'. Refute it at one input. -/
def proposerHighestWrong : ChangeSpec := { name := "proposerHighest", fn := fun _ => fun
  | [d1, d2, d3, d4, d5] => { results := [.lit (.bool false)], args := [d1, d2, d3, d4, d5] }
  | _ => none }
def ProposerHighestWrongFalsely : Prop := proposerHighestRow.holds Try.pinned (OpenSpec.ofChange proposerHighestWrong)

/-- 'locumlaw16.ProposerMost': WHATEVER THE INPUT: true; the input reads as it did. -/
def proposerMostSpec : ChangeSpec := { name := "proposerMost", fn := fun _ => fun
  | [d1, d2, d3] => { results := [.lit (.bool true)], args := [d1, d2, d3] }
  | _ => none }
def proposerMostRow : OpenClaim := { program := "ytjfbchlfgfkcdaa", sum := "c033ea7ed5b464243354f569b3fb47b614e159d08f3a350a8f3aaef0b9524877", func := "locum/locumlaw16.ProposerMost", spec := "proposerMost", unfollowed := true, recurses := true, apart := false }
def ProposerMostSaid : Prop := proposerMostRow.holds Try.pinned (OpenSpec.ofChange proposerMostSpec)

/-- ITS FALSE NEIGHBOUR: 'it returns false'. Refute it at one input. -/
def proposerMostWrong : ChangeSpec := { name := "proposerMost", fn := fun _ => fun
  | [d1, d2, d3] => { results := [.lit (.bool false)], args := [d1, d2, d3] }
  | _ => none }
def ProposerMostWrongFalsely : Prop := proposerMostRow.holds Try.pinned (OpenSpec.ofChange proposerMostWrong)

/-- 'locumlaw16.ProposerTells': WHATEVER THE INPUT: true; the input reads as it did. -/
def proposerTellsSpec : ChangeSpec := { name := "proposerTells", fn := fun _ => fun
  | [d1, d2, d3, d4] => { results := [.lit (.bool true)], args := [d1, d2, d3, d4] }
  | _ => none }
def proposerTellsRow : OpenClaim := { program := "ytjfbchlfgfkcdaa", sum := "c033ea7ed5b464243354f569b3fb47b614e159d08f3a350a8f3aaef0b9524877", func := "locum/locumlaw16.ProposerTells", spec := "proposerTells", unfollowed := true, recurses := true, apart := false }
def ProposerTellsSaid : Prop := proposerTellsRow.holds Try.pinned (OpenSpec.ofChange proposerTellsSpec)

/-- ITS FALSE NEIGHBOUR: 'it returns false'. Refute it at one input. -/
def proposerTellsWrong : ChangeSpec := { name := "proposerTells", fn := fun _ => fun
  | [d1, d2, d3, d4] => { results := [.lit (.bool false)], args := [d1, d2, d3, d4] }
  | _ => none }
def ProposerTellsWrongFalsely : Prop := proposerTellsRow.holds Try.pinned (OpenSpec.ofChange proposerTellsWrong)

/-- 'locumlaw16.ProposerOther': WHATEVER THE INPUT: true; the input reads as it did. -/
def proposerOtherSpec : ChangeSpec := { name := "proposerOther", fn := fun _ => fun
  | [d1, d2, d3] => { results := [.lit (.bool true)], args := [d1, d2, d3] }
  | _ => none }
def proposerOtherRow : OpenClaim := { program := "ytjfbchlfgfkcdaa", sum := "c033ea7ed5b464243354f569b3fb47b614e159d08f3a350a8f3aaef0b9524877", func := "locum/locumlaw16.ProposerOther", spec := "proposerOther", unfollowed := true, recurses := true, apart := false }
def ProposerOtherSaid : Prop := proposerOtherRow.holds Try.pinned (OpenSpec.ofChange proposerOtherSpec)

/-- ITS FALSE NEIGHBOUR: 'it returns false'. Refute it at one input. -/
def proposerOtherWrong : ChangeSpec := { name := "proposerOther", fn := fun _ => fun
  | [d1, d2, d3] => { results := [.lit (.bool false)], args := [d1, d2, d3] }
  | _ => none }
def ProposerOtherWrongFalsely : Prop := proposerOtherRow.holds Try.pinned (OpenSpec.ofChange proposerOtherWrong)

/- THE SECOND FORM. 'bulk': how many values and letters a reading holds, each counted each time it is reached (what is shared counts as often as it is met; a slice's spare places count too). A statement '..UptoSaid' is the law's where the arguments, and the package variables that the reading takes, are together of bulk at most 1048576: NARROWER than '..Said'. Prove '..Said' where nothing that the law and all that it calls make is longer than what came in: it says more and counts as full. Else prove '..UptoSaid'. A law counts once. -/
mutual
def uptoBulk {H : Type} : DataW H → Nat
  | .lit (.string bytes) => bytes.length + 1
  | .lit _ => 1
  | .nil => 1
  | .ptr d => uptoBulk d + 1
  | .slice elems spare => uptoBulkAll elems + uptoBulkAll spare + 1
  | .agg parts => uptoBulkAll parts + 1
  | .iface _ d => uptoBulk d + 1
  | .map entries => uptoBulkEntries entries + 1
  | .held _ => 1
def uptoBulkAll {H : Type} : List (DataW H) → Nat
  | [] => 0
  | d :: r => uptoBulk d + uptoBulkAll r
def uptoBulkEntries {H : Type} : List (Lit × DataW H) → Nat
  | [] => 0
  | x :: r => uptoBulkEntry x + uptoBulkEntries r
def uptoBulkEntry {H : Type} : Lit × DataW H → Nat
  | (.string bytes, d) => bytes.length + uptoBulk d + 1
  | (_, d) => uptoBulk d + 1
 end
def uptoSmall : (H : Type) → List (DataW H) → Bool := fun _ ds => decide (uptoBulkAll ds ≤ 1048576)
def OpenSpec.upto (s : _root_.Go.ChangeSpec) : _root_.Go.OpenSpec := { _root_.Go.OpenSpec.ofChange s with cond := some uptoSmall }

/-- 'locumlaw16.ProposerHighest', WHERE WHAT IT READS IS OF BULK AT MOST 1048576: true; the input reads as it did. -/
def proposerHighestUptoRow : OpenClaim := { program := "ytjfbchlfgfkcdaa", sum := "c033ea7ed5b464243354f569b3fb47b614e159d08f3a350a8f3aaef0b9524877", func := "locum/locumlaw16.ProposerHighest", spec := "proposerHighest", unfollowed := true, recurses := true, apart := false, narrowed := true }
def ProposerHighestUptoSaid : Prop := proposerHighestUptoRow.holds Try.pinned (OpenSpec.upto proposerHighestSpec)

/-- 'locumlaw16.ProposerMost', WHERE WHAT IT READS IS OF BULK AT MOST 1048576: true; the input reads as it did. -/
def proposerMostUptoRow : OpenClaim := { program := "ytjfbchlfgfkcdaa", sum := "c033ea7ed5b464243354f569b3fb47b614e159d08f3a350a8f3aaef0b9524877", func := "locum/locumlaw16.ProposerMost", spec := "proposerMost", unfollowed := true, recurses := true, apart := false, narrowed := true }
def ProposerMostUptoSaid : Prop := proposerMostUptoRow.holds Try.pinned (OpenSpec.upto proposerMostSpec)

/-- 'locumlaw16.ProposerTells', WHERE WHAT IT READS IS OF BULK AT MOST 1048576: true; the input reads as it did. -/
def proposerTellsUptoRow : OpenClaim := { program := "ytjfbchlfgfkcdaa", sum := "c033ea7ed5b464243354f569b3fb47b614e159d08f3a350a8f3aaef0b9524877", func := "locum/locumlaw16.ProposerTells", spec := "proposerTells", unfollowed := true, recurses := true, apart := false, narrowed := true }
def ProposerTellsUptoSaid : Prop := proposerTellsUptoRow.holds Try.pinned (OpenSpec.upto proposerTellsSpec)

/-- 'locumlaw16.ProposerOther', WHERE WHAT IT READS IS OF BULK AT MOST 1048576: true; the input reads as it did. -/
def proposerOtherUptoRow : OpenClaim := { program := "ytjfbchlfgfkcdaa", sum := "c033ea7ed5b464243354f569b3fb47b614e159d08f3a350a8f3aaef0b9524877", func := "locum/locumlaw16.ProposerOther", spec := "proposerOther", unfollowed := true, recurses := true, apart := false, narrowed := true }
def ProposerOtherUptoSaid : Prop := proposerOtherUptoRow.holds Try.pinned (OpenSpec.upto proposerOtherSpec)

end Rows
end Go.Proofs.Ytjfbchlfgfkcdaa
