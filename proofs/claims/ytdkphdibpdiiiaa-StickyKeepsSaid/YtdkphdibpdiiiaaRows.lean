/-
  No cell of these rows narrows 'for every input' (looked for: loops, veiled, ifaces, maps, wideKeys, modest, calm, conditions, laid).
  DERIVED. THE GIVEN ROWS OF THIS SEAT. 4 by the template 'for every input the law returns true; each argument reads behind the call as it read before'; 0 by the template 'total and deterministic' (their statements: YtdkphdibpdiiiaaTotals.lean).
  GIVEN WITH THE SEED: the statements are not yours to turn. If you find one false, say at which input.
  Laid BY PROGRAM, IN A SANDBOX (cutbox-rows.mjs): the forced cells as the released guide's own fill.sh prints them over the translation 0f1790a8bedbab8a… (all of the seat's roots in one cut). By AI agents, Wed Nov 11 2026. No macro, syntax, notation, axiom, sorry.
-/
import Derived.Test.YtdkphdibpdiiiaaChecked
import GoSem.Claim
import GoSem.ClaimJoined
import GoSem.ClaimMapViews
import Derived.JoinedTies
import Derived.KernelRfl
namespace Go.Proofs.Ytdkphdibpdiiiaa
/- THE CELL 'sum', in the pinned program and in every row, IS THE sha256 OF THE DUMP (.gsa) THAT YtdkphdibpdiiiaaProg.lean LOADS. Nothing in Lean hashes anything: it is a label: what it is worth is what the hold of that sum in a sandbox is worth. -/
noncomputable def Try.pinned : Pinned := { name := "ytdkphdibpdiiiaa", sum := "0f1790a8bedbab8aad2cefea0de73c2f85c47551a3da55fe357f0be31e2b6b99", checked := Try.checked }
namespace Rows
def none {H : Type} : Left H := { results := [], args := [] }

/-- 'locumlaw20.StickyTells': WHATEVER THE INPUT: true; the input reads as it did. -/
def stickyTellsSpec : ChangeSpec := { name := "stickyTells", fn := fun _ => fun
  | [d1, d2, d3, d4] => { results := [.lit (.bool true)], args := [d1, d2, d3, d4] }
  | _ => none }
def stickyTellsRow : OpenClaim := { program := "ytdkphdibpdiiiaa", sum := "0f1790a8bedbab8aad2cefea0de73c2f85c47551a3da55fe357f0be31e2b6b99", func := "locum/locumlaw20.StickyTells", spec := "stickyTells", unfollowed := true, recurses := true, apart := false }
def StickyTellsSaid : Prop := stickyTellsRow.holds Try.pinned (OpenSpec.ofChange stickyTellsSpec)

/-- ITS FALSE NEIGHBOUR: 'it returns false'. Refute it at one input. -/
def stickyTellsWrong : ChangeSpec := { name := "stickyTells", fn := fun _ => fun
  | [d1, d2, d3, d4] => { results := [.lit (.bool false)], args := [d1, d2, d3, d4] }
  | _ => none }
def StickyTellsWrongFalsely : Prop := stickyTellsRow.holds Try.pinned (OpenSpec.ofChange stickyTellsWrong)

/-- 'locumlaw20.StickyKeeps': WHATEVER THE INPUT: true; the input reads as it did. -/
def stickyKeepsSpec : ChangeSpec := { name := "stickyKeeps", fn := fun _ => fun
  | [d1, d2] => { results := [.lit (.bool true)], args := [d1, d2] }
  | _ => none }
def stickyKeepsRow : OpenClaim := { program := "ytdkphdibpdiiiaa", sum := "0f1790a8bedbab8aad2cefea0de73c2f85c47551a3da55fe357f0be31e2b6b99", func := "locum/locumlaw20.StickyKeeps", spec := "stickyKeeps", unfollowed := true, recurses := true, apart := false }
def StickyKeepsSaid : Prop := stickyKeepsRow.holds Try.pinned (OpenSpec.ofChange stickyKeepsSpec)

/-- ITS FALSE NEIGHBOUR: 'it returns false'. Refute it at one input. -/
def stickyKeepsWrong : ChangeSpec := { name := "stickyKeeps", fn := fun _ => fun
  | [d1, d2] => { results := [.lit (.bool false)], args := [d1, d2] }
  | _ => none }
def StickyKeepsWrongFalsely : Prop := stickyKeepsRow.holds Try.pinned (OpenSpec.ofChange stickyKeepsWrong)

/-- 'locumlaw20.StickyLast': WHATEVER THE INPUT: true; the input reads as it did. -/
def stickyLastSpec : ChangeSpec := { name := "stickyLast", fn := fun _ => fun
  | [d1, d2, d3, d4] => { results := [.lit (.bool true)], args := [d1, d2, d3, d4] }
  | _ => none }
def stickyLastRow : OpenClaim := { program := "ytdkphdibpdiiiaa", sum := "0f1790a8bedbab8aad2cefea0de73c2f85c47551a3da55fe357f0be31e2b6b99", func := "locum/locumlaw20.StickyLast", spec := "stickyLast", unfollowed := true, recurses := true, apart := false }
def StickyLastSaid : Prop := stickyLastRow.holds Try.pinned (OpenSpec.ofChange stickyLastSpec)

/-- ITS FALSE NEIGHBOUR: 'it returns false'. Refute it at one input. -/
def stickyLastWrong : ChangeSpec := { name := "stickyLast", fn := fun _ => fun
  | [d1, d2, d3, d4] => { results := [.lit (.bool false)], args := [d1, d2, d3, d4] }
  | _ => none }
def StickyLastWrongFalsely : Prop := stickyLastRow.holds Try.pinned (OpenSpec.ofChange stickyLastWrong)

/-- 'locumlaw20.StickyRoom': WHATEVER THE INPUT: true; the input reads as it did. -/
def stickyRoomSpec : ChangeSpec := { name := "stickyRoom", fn := fun _ => fun
  | [d1, d2, d3, d4] => { results := [.lit (.bool true)], args := [d1, d2, d3, d4] }
  | _ => none }
def stickyRoomRow : OpenClaim := { program := "ytdkphdibpdiiiaa", sum := "0f1790a8bedbab8aad2cefea0de73c2f85c47551a3da55fe357f0be31e2b6b99", func := "locum/locumlaw20.StickyRoom", spec := "stickyRoom", unfollowed := true, recurses := true, apart := false }
def StickyRoomSaid : Prop := stickyRoomRow.holds Try.pinned (OpenSpec.ofChange stickyRoomSpec)

/-- ITS FALSE NEIGHBOUR: 'it returns false'. Refute it at one input. -/
def stickyRoomWrong : ChangeSpec := { name := "stickyRoom", fn := fun _ => fun
  | [d1, d2, d3, d4] => { results := [.lit (.bool false)], args := [d1, d2, d3, d4] }
  | _ => none }
def StickyRoomWrongFalsely : Prop := stickyRoomRow.holds Try.pinned (OpenSpec.ofChange stickyRoomWrong)

/- THE SECOND FORM. 'bulk': how many values and letters a reading holds, each counted each time it is reached (what is shared counts as often as it is met; a slice's spare places count too). A statement '..UptoSaid' is the law's where the arguments, and the package variables that the reading takes, are together of bulk at most 1048576: NARROWER than '..Said'. Prove '..Said' where nothing that the law and all that it calls make is longer than what came in: it says more and counts as full. Else prove '..UptoSaid'. A law counts once. -/
mutual
def uptoBulk {H : Type} : DataW H → Nat
  | .lit (.string bytes) => bytes.length + 1
  | .lit _ => 1
  | .nil => 1
  | .ptr d => uptoBulk d + 1
  | .slice elems spare => uptoBulkAll elems + uptoBulkAll spare + 1
  | .agg parts => uptoBulkAll parts + 1
  | .iface _ d => uptoBulk d + 1
  | .map entries => uptoBulkEntries entries + 1
  | .held _ => 1
def uptoBulkAll {H : Type} : List (DataW H) → Nat
  | [] => 0
  | d :: r => uptoBulk d + uptoBulkAll r
def uptoBulkEntries {H : Type} : List (Lit × DataW H) → Nat
  | [] => 0
  | x :: r => uptoBulkEntry x + uptoBulkEntries r
def uptoBulkEntry {H : Type} : Lit × DataW H → Nat
  | (.string bytes, d) => bytes.length + uptoBulk d + 1
  | (_, d) => uptoBulk d + 1
 end
def uptoSmall : (H : Type) → List (DataW H) → Bool := fun _ ds => decide (uptoBulkAll ds ≤ 1048576)
def OpenSpec.upto (s : _root_.Go.ChangeSpec) : _root_.Go.OpenSpec := { _root_.Go.OpenSpec.ofChange s with cond := some uptoSmall }

/-- 'locumlaw20.StickyTells', WHERE WHAT IT READS IS OF BULK AT MOST 1048576: true; the input reads as it did. -/
def stickyTellsUptoRow : OpenClaim := { program := "ytdkphdibpdiiiaa", sum := "0f1790a8bedbab8aad2cefea0de73c2f85c47551a3da55fe357f0be31e2b6b99", func := "locum/locumlaw20.StickyTells", spec := "stickyTells", unfollowed := true, recurses := true, apart := false, narrowed := true }
def StickyTellsUptoSaid : Prop := stickyTellsUptoRow.holds Try.pinned (OpenSpec.upto stickyTellsSpec)

/-- 'locumlaw20.StickyKeeps', WHERE WHAT IT READS IS OF BULK AT MOST 1048576: true; the input reads as it did. -/
def stickyKeepsUptoRow : OpenClaim := { program := "ytdkphdibpdiiiaa", sum := "0f1790a8bedbab8aad2cefea0de73c2f85c47551a3da55fe357f0be31e2b6b99", func := "locum/locumlaw20.StickyKeeps", spec := "stickyKeeps", unfollowed := true, recurses := true, apart := false, narrowed := true }
def StickyKeepsUptoSaid : Prop := stickyKeepsUptoRow.holds Try.pinned (OpenSpec.upto stickyKeepsSpec)

/-- 'locumlaw20.StickyLast', WHERE WHAT IT READS IS OF BULK AT MOST 1048576: true; the input reads as it did. -/
def stickyLastUptoRow : OpenClaim := { program := "ytdkphdibpdiiiaa", sum := "0f1790a8bedbab8aad2cefea0de73c2f85c47551a3da55fe357f0be31e2b6b99", func := "locum/locumlaw20.StickyLast", spec := "stickyLast", unfollowed := true, recurses := true, apart := false, narrowed := true }
def StickyLastUptoSaid : Prop := stickyLastUptoRow.holds Try.pinned (OpenSpec.upto stickyLastSpec)

/-- 'locumlaw20.StickyRoom', WHERE WHAT IT READS IS OF BULK AT MOST 1048576: true; the input reads as it did. -/
def stickyRoomUptoRow : OpenClaim := { program := "ytdkphdibpdiiiaa", sum := "0f1790a8bedbab8aad2cefea0de73c2f85c47551a3da55fe357f0be31e2b6b99", func := "locum/locumlaw20.StickyRoom", spec := "stickyRoom", unfollowed := true, recurses := true, apart := false, narrowed := true }
def StickyRoomUptoSaid : Prop := stickyRoomUptoRow.holds Try.pinned (OpenSpec.upto stickyRoomSpec)

end Rows
end Go.Proofs.Ytdkphdibpdiiiaa
