/-
  Tally: head.
-/
import Derived.Test.YthooiaebbikjiaaT2
namespace Go.RX.Tally
open Go Go.RX Go.Proofs
set_option maxRecDepth 100000

theorem call9 : Sound E 9 [] [] fun d s => d = .bool true ∧ s = [] := runF_ok hm 100000 10 9 [] [] (.bool true) [] (by kernel_rfl)
end Go.RX.Tally
