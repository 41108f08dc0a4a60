/-
  Words and walks for TallyMore. No condition.
-/
import Derived.Test.YthooiaebbikjiaaRows
import Derived.Test.YthooiaebbikjiaaX2
set_option linter.unusedSimpArgs false
set_option linter.unusedVariables false
set_option maxRecDepth 100000
namespace Go.RX.L
open Go Go.RX Go.Proofs
noncomputable def E : Env := ⟨Try.prog, fun f => ⟨f == 16, false⟩⟩
theorem hm : E.P.follows .mixedOrders = true := Try.checked.mixed
structure Vote where
  Observer : Int
  Up : Int
  At : Int
def Vote.enc (x : Vote) : List D := [D.int .i64 x.Observer, D.int .u64 x.Up, D.int .i64 x.At]
def Vote.Ok (x : Vote) : Prop := inK .i64 x.Observer ∧ inK .u64 x.Up ∧ inK .i64 x.At
end Go.RX.L
