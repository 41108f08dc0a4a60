/-
  RX, small tools: pieces of a code by their place.
-/
import Derived.Test.YthooiaebbikjiaaRxLaw
namespace Go.RX
open Go

def codeAt : Code → List Nat → Code
  | c, [] => c
  | .seq a b, i :: r => bif Nat.beq i 0 then codeAt a r else codeAt b r
  | .cond _ a b, i :: r => bif Nat.beq i 0 then codeAt a r else codeAt b r
  | .block _ a, _ :: r => codeAt a r
  | .loop a, _ :: r => codeAt a r
  | .scope a, _ :: r => codeAt a r
  | .rangeFunc _ _ a b, i :: r => bif Nat.beq i 0 then codeAt a r else codeAt b r
  | c, _ => c

def bodyOf (f : Func) : Code := match f.body with | some c => c | none => .skip
end Go.RX
