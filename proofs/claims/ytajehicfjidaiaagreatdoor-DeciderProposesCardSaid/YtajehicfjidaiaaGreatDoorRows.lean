/-
  NARROWER THAN 'FOR EVERY INPUT', by the rows' own cells (each row's printed sentence says how): DeciderBallots: laid · DeciderKnows: laid · DeciderSays: laid · DeciderProposes: laid.
  DERIVED. THE GIVEN ROWS OF THIS SEAT. 4 by the template 'for every input the law returns true; each argument reads behind the call as it read before'; 0 by the template 'total and deterministic' (their statements: YtajehicfjidaiaaGreatDoorTotals.lean).
  GIVEN WITH THE SEED: the statements are not yours to turn. If you find one false, say at which input.
  Laid BY PROGRAM, IN A SANDBOX (cutbox-rows.mjs): the forced cells as the released guide's own fill.sh prints them over the translation 64d938ca4e579911… (all of the seat's roots in one cut). By AI agents, Wed Nov 11 2026. No macro, syntax, notation, axiom, sorry.
-/
import Derived.Test.YtajehicfjidaiaaGreatDoorChecked
import GoSem.Claim
import GoSem.ClaimJoined
import GoSem.ClaimMapViews
import Derived.JoinedTies
import Derived.KernelRfl
namespace Go.Proofs.YtajehicfjidaiaaGreatDoor
/- THE CELL 'sum', in the pinned program and in every row, IS THE sha256 OF THE DUMP (.gsa) THAT YtajehicfjidaiaaGreatDoorProg.lean LOADS. Nothing in Lean hashes anything: it is a label: what it is worth is what the hold of that sum in a sandbox is worth. -/
noncomputable def Tryz.pinned : Pinned := { name := "ytajehicfjidaiaagreatdoor", sum := "64d938ca4e57991188f0432a3faf2b33f5f7f63fc80cdeaa33873ca6c691ad7b", checked := Tryz.checked }
namespace Rows
def none {H : Type} : Left H := { results := [], args := [] }

/- WHAT THE LISTED PACKAGE-LEVEL VARIABLES READ AS WHEN THE CALL BEGINS. Each datum BY PROGRAM (the guide's laid-datum.mjs) off the statement by which the dump's own 'gosem.cut.vars' lays the variable. In a bare row this is a premise. The card (YtajehicfjidaiaaGreatDoorCards.lean) ties it to the program's text. -/
def laid_locum_crc_four {H : Type} : DataW H := .agg [.lit (.int .u32 0), .lit (.int .u32 498536548), .lit (.int .u32 997073096), .lit (.int .u32 651767980), .lit (.int .u32 1994146192), .lit (.int .u32 1802195444), .lit (.int .u32 1303535960), .lit (.int .u32 1342533948), .lit (.int .u32 3988292384), .lit (.int .u32 4027552580), .lit (.int .u32 3604390888), .lit (.int .u32 3412177804), .lit (.int .u32 2607071920), .lit (.int .u32 2262029012), .lit (.int .u32 2685067896), .lit (.int .u32 3183342108)]
def laid_math_bits_deBruijn64tab {H : Type} : DataW H := .agg [.lit (.int .u8 0), .lit (.int .u8 1), .lit (.int .u8 56), .lit (.int .u8 2), .lit (.int .u8 57), .lit (.int .u8 49), .lit (.int .u8 28), .lit (.int .u8 3), .lit (.int .u8 61), .lit (.int .u8 58), .lit (.int .u8 42), .lit (.int .u8 50), .lit (.int .u8 38), .lit (.int .u8 29), .lit (.int .u8 17), .lit (.int .u8 4), .lit (.int .u8 62), .lit (.int .u8 47), .lit (.int .u8 59), .lit (.int .u8 36), .lit (.int .u8 45), .lit (.int .u8 43), .lit (.int .u8 51), .lit (.int .u8 22), .lit (.int .u8 53), .lit (.int .u8 39), .lit (.int .u8 33), .lit (.int .u8 30), .lit (.int .u8 24), .lit (.int .u8 18), .lit (.int .u8 12), .lit (.int .u8 5), .lit (.int .u8 63), .lit (.int .u8 55), .lit (.int .u8 48), .lit (.int .u8 27), .lit (.int .u8 60), .lit (.int .u8 41), .lit (.int .u8 37), .lit (.int .u8 16), .lit (.int .u8 46), .lit (.int .u8 35), .lit (.int .u8 44), .lit (.int .u8 21), .lit (.int .u8 52), .lit (.int .u8 32), .lit (.int .u8 23), .lit (.int .u8 11), .lit (.int .u8 54), .lit (.int .u8 26), .lit (.int .u8 40), .lit (.int .u8 15), .lit (.int .u8 34), .lit (.int .u8 20), .lit (.int .u8 31), .lit (.int .u8 10), .lit (.int .u8 25), .lit (.int .u8 14), .lit (.int .u8 19), .lit (.int .u8 9), .lit (.int .u8 13), .lit (.int .u8 8), .lit (.int .u8 7), .lit (.int .u8 6)]
def laid_locum_decay_parts {H : Type} : DataW H := .agg [.lit (.int .i64 65536), .lit (.int .i64 62757), .lit (.int .i64 60097), .lit (.int .i64 57549), .lit (.int .i64 55109), .lit (.int .i64 52773), .lit (.int .i64 50535), .lit (.int .i64 48393), .lit (.int .i64 46341), .lit (.int .i64 44376), .lit (.int .i64 42495), .lit (.int .i64 40693), .lit (.int .i64 38968), .lit (.int .i64 37316), .lit (.int .i64 35734), .lit (.int .i64 34219)]

/-- 'locumlaw24.DeciderBallots': WHATEVER THE INPUT: true; the input reads as it did. -/
def deciderBallotsSpec : ChangeSpec := { name := "deciderBallots", fn := fun _ => fun
  | [d1, d2] => { results := [.lit (.bool true)], args := [d1, d2] }
  | _ => none }
def deciderBallotsRow : OpenClaim := { program := "ytajehicfjidaiaagreatdoor", sum := "64d938ca4e57991188f0432a3faf2b33f5f7f63fc80cdeaa33873ca6c691ad7b", func := "locum/locumlaw24.DeciderBallots", spec := "deciderBallots", unfollowed := true, recurses := true, named := ["locum/decay.parts", "math/bits.deBruijn64tab", "locum/crc.four"], apart := false, laid := [("locum/crc.four", laid_locum_crc_four), ("math/bits.deBruijn64tab", laid_math_bits_deBruijn64tab), ("locum/decay.parts", laid_locum_decay_parts)] }
def DeciderBallotsSaid : Prop := deciderBallotsRow.holds Tryz.pinned (OpenSpec.ofChange deciderBallotsSpec)

/-- ITS FALSE NEIGHBOUR: 'it returns false'. Refute it at one input. -/
def deciderBallotsWrong : ChangeSpec := { name := "deciderBallots", fn := fun _ => fun
  | [d1, d2] => { results := [.lit (.bool false)], args := [d1, d2] }
  | _ => none }
def DeciderBallotsWrongFalsely : Prop := deciderBallotsRow.holds Tryz.pinned (OpenSpec.ofChange deciderBallotsWrong)

/-- 'locumlaw24.DeciderKnows': WHATEVER THE INPUT: true; the input reads as it did. -/
def deciderKnowsSpec : ChangeSpec := { name := "deciderKnows", fn := fun _ => fun
  | [d1, d2] => { results := [.lit (.bool true)], args := [d1, d2] }
  | _ => none }
def deciderKnowsRow : OpenClaim := { program := "ytajehicfjidaiaagreatdoor", sum := "64d938ca4e57991188f0432a3faf2b33f5f7f63fc80cdeaa33873ca6c691ad7b", func := "locum/locumlaw24.DeciderKnows", spec := "deciderKnows", unfollowed := true, recurses := true, named := ["locum/decay.parts", "math/bits.deBruijn64tab", "locum/crc.four"], apart := false, laid := [("locum/crc.four", laid_locum_crc_four), ("math/bits.deBruijn64tab", laid_math_bits_deBruijn64tab), ("locum/decay.parts", laid_locum_decay_parts)] }
def DeciderKnowsSaid : Prop := deciderKnowsRow.holds Tryz.pinned (OpenSpec.ofChange deciderKnowsSpec)

/-- ITS FALSE NEIGHBOUR: 'it returns false'. Refute it at one input. -/
def deciderKnowsWrong : ChangeSpec := { name := "deciderKnows", fn := fun _ => fun
  | [d1, d2] => { results := [.lit (.bool false)], args := [d1, d2] }
  | _ => none }
def DeciderKnowsWrongFalsely : Prop := deciderKnowsRow.holds Tryz.pinned (OpenSpec.ofChange deciderKnowsWrong)

/-- 'locumlaw24.DeciderSays': WHATEVER THE INPUT: true; the input reads as it did. -/
def deciderSaysSpec : ChangeSpec := { name := "deciderSays", fn := fun _ => fun
  | [d1, d2] => { results := [.lit (.bool true)], args := [d1, d2] }
  | _ => none }
def deciderSaysRow : OpenClaim := { program := "ytajehicfjidaiaagreatdoor", sum := "64d938ca4e57991188f0432a3faf2b33f5f7f63fc80cdeaa33873ca6c691ad7b", func := "locum/locumlaw24.DeciderSays", spec := "deciderSays", unfollowed := true, recurses := true, named := ["locum/decay.parts", "math/bits.deBruijn64tab", "locum/crc.four"], apart := false, laid := [("locum/crc.four", laid_locum_crc_four), ("math/bits.deBruijn64tab", laid_math_bits_deBruijn64tab), ("locum/decay.parts", laid_locum_decay_parts)] }
def DeciderSaysSaid : Prop := deciderSaysRow.holds Tryz.pinned (OpenSpec.ofChange deciderSaysSpec)

/-- ITS FALSE NEIGHBOUR: 'it returns false'. Refute it at one input. -/
def deciderSaysWrong : ChangeSpec := { name := "deciderSays", fn := fun _ => fun
  | [d1, d2] => { results := [.lit (.bool false)], args := [d1, d2] }
  | _ => none }
def DeciderSaysWrongFalsely : Prop := deciderSaysRow.holds Tryz.pinned (OpenSpec.ofChange deciderSaysWrong)

/-- 'locumlaw24.DeciderProposes': WHATEVER THE INPUT: true; the input reads as it did. -/
def deciderProposesSpec : ChangeSpec := { name := "deciderProposes", fn := fun _ => fun
  | [d1, d2] => { results := [.lit (.bool true)], args := [d1, d2] }
  | _ => none }
def deciderProposesRow : OpenClaim := { program := "ytajehicfjidaiaagreatdoor", sum := "64d938ca4e57991188f0432a3faf2b33f5f7f63fc80cdeaa33873ca6c691ad7b", func := "locum/locumlaw24.DeciderProposes", spec := "deciderProposes", unfollowed := true, recurses := true, named := ["locum/decay.parts", "math/bits.deBruijn64tab", "locum/crc.four"], apart := false, laid := [("locum/crc.four", laid_locum_crc_four), ("math/bits.deBruijn64tab", laid_math_bits_deBruijn64tab), ("locum/decay.parts", laid_locum_decay_parts)] }
def DeciderProposesSaid : Prop := deciderProposesRow.holds Tryz.pinned (OpenSpec.ofChange deciderProposesSpec)

/-- ITS FALSE NEIGHBOUR: 'it returns false'. Refute it at one input. -/
def deciderProposesWrong : ChangeSpec := { name := "deciderProposes", fn := fun _ => fun
  | [d1, d2] => { results := [.lit (.bool false)], args := [d1, d2] }
  | _ => none }
def DeciderProposesWrongFalsely : Prop := deciderProposesRow.holds Tryz.pinned (OpenSpec.ofChange deciderProposesWrong)

/- THE SECOND FORM. 'bulk': how many values and letters a reading holds, each counted each time it is reached (what is shared counts as often as it is met; a slice's spare places count too). A statement '..UptoSaid' is the law's where the arguments, and the package variables that the reading takes, are together of bulk at most 1048576: NARROWER than '..Said'. Prove '..Said' where nothing that the law and all that it calls make is longer than what came in: it says more and counts as full. Else prove '..UptoSaid'. A law counts once. -/
mutual
def uptoBulk {H : Type} : DataW H → Nat
  | .lit (.string bytes) => bytes.length + 1
  | .lit _ => 1
  | .nil => 1
  | .ptr d => uptoBulk d + 1
  | .slice elems spare => uptoBulkAll elems + uptoBulkAll spare + 1
  | .agg parts => uptoBulkAll parts + 1
  | .iface _ d => uptoBulk d + 1
  | .map entries => uptoBulkEntries entries + 1
  | .held _ => 1
def uptoBulkAll {H : Type} : List (DataW H) → Nat
  | [] => 0
  | d :: r => uptoBulk d + uptoBulkAll r
def uptoBulkEntries {H : Type} : List (Lit × DataW H) → Nat
  | [] => 0
  | x :: r => uptoBulkEntry x + uptoBulkEntries r
def uptoBulkEntry {H : Type} : Lit × DataW H → Nat
  | (.string bytes, d) => bytes.length + uptoBulk d + 1
  | (_, d) => uptoBulk d + 1
 end
def uptoSmall : (H : Type) → List (DataW H) → Bool := fun _ ds => decide (uptoBulkAll ds ≤ 1048576)
def OpenSpec.upto (s : _root_.Go.ChangeSpec) : _root_.Go.OpenSpec := { _root_.Go.OpenSpec.ofChange s with cond := some uptoSmall }

/-- 'locumlaw24.DeciderBallots', WHERE WHAT IT READS IS OF BULK AT MOST 1048576: true; the input reads as it did. -/
def deciderBallotsUptoRow : OpenClaim := { program := "ytajehicfjidaiaagreatdoor", sum := "64d938ca4e57991188f0432a3faf2b33f5f7f63fc80cdeaa33873ca6c691ad7b", func := "locum/locumlaw24.DeciderBallots", spec := "deciderBallots", unfollowed := true, recurses := true, named := ["locum/decay.parts", "math/bits.deBruijn64tab", "locum/crc.four"], apart := false, laid := [("locum/crc.four", laid_locum_crc_four), ("math/bits.deBruijn64tab", laid_math_bits_deBruijn64tab), ("locum/decay.parts", laid_locum_decay_parts)], narrowed := true }
def DeciderBallotsUptoSaid : Prop := deciderBallotsUptoRow.holds Tryz.pinned (OpenSpec.upto deciderBallotsSpec)

/-- 'locumlaw24.DeciderKnows', WHERE WHAT IT READS IS OF BULK AT MOST 1048576: true; the input reads as it did. -/
def deciderKnowsUptoRow : OpenClaim := { program := "ytajehicfjidaiaagreatdoor", sum := "64d938ca4e57991188f0432a3faf2b33f5f7f63fc80cdeaa33873ca6c691ad7b", func := "locum/locumlaw24.DeciderKnows", spec := "deciderKnows", unfollowed := true, recurses := true, named := ["locum/decay.parts", "math/bits.deBruijn64tab", "locum/crc.four"], apart := false, laid := [("locum/crc.four", laid_locum_crc_four), ("math/bits.deBruijn64tab", laid_math_bits_deBruijn64tab), ("locum/decay.parts", laid_locum_decay_parts)], narrowed := true }
def DeciderKnowsUptoSaid : Prop := deciderKnowsUptoRow.holds Tryz.pinned (OpenSpec.upto deciderKnowsSpec)

/-- 'locumlaw24.DeciderSays', WHERE WHAT IT READS IS OF BULK AT MOST 1048576: true; the input reads as it did. -/
def deciderSaysUptoRow : OpenClaim := { program := "ytajehicfjidaiaagreatdoor", sum := "64d938ca4e57991188f0432a3faf2b33f5f7f63fc80cdeaa33873ca6c691ad7b", func := "locum/locumlaw24.DeciderSays", spec := "deciderSays", unfollowed := true, recurses := true, named := ["locum/decay.parts", "math/bits.deBruijn64tab", "locum/crc.four"], apart := false, laid := [("locum/crc.four", laid_locum_crc_four), ("math/bits.deBruijn64tab", laid_math_bits_deBruijn64tab), ("locum/decay.parts", laid_locum_decay_parts)], narrowed := true }
def DeciderSaysUptoSaid : Prop := deciderSaysUptoRow.holds Tryz.pinned (OpenSpec.upto deciderSaysSpec)

/-- 'locumlaw24.DeciderProposes', WHERE WHAT IT READS IS OF BULK AT MOST 1048576: true; the input reads as it did. -/
def deciderProposesUptoRow : OpenClaim := { program := "ytajehicfjidaiaagreatdoor", sum := "64d938ca4e57991188f0432a3faf2b33f5f7f63fc80cdeaa33873ca6c691ad7b", func := "locum/locumlaw24.DeciderProposes", spec := "deciderProposes", unfollowed := true, recurses := true, named := ["locum/decay.parts", "math/bits.deBruijn64tab", "locum/crc.four"], apart := false, laid := [("locum/crc.four", laid_locum_crc_four), ("math/bits.deBruijn64tab", laid_math_bits_deBruijn64tab), ("locum/decay.parts", laid_locum_decay_parts)], narrowed := true }
def DeciderProposesUptoSaid : Prop := deciderProposesUptoRow.holds Tryz.pinned (OpenSpec.upto deciderProposesSpec)

end Rows
end Go.Proofs.YtajehicfjidaiaaGreatDoor
