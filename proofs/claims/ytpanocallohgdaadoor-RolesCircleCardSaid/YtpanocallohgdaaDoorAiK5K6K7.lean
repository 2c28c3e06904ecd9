/-
 Texts of concepts.
-/
import Derived.Test.YtpanocallohgdaaDoorAiK4
import Derived.KernelRfl
set_option maxRecDepth 100000
set_option linter.unusedSimpArgs false
set_option linter.unusedVariables false
namespace Go.Ai.Z
open Go.Lib (itoa decDigits)
def andB : List UInt8 := [32, 97, 110, 100, 32]
mutual
def textS : C → List UInt8
 | .mk k n lo hi _ ps =>
  if k = 1 then [101, 118, 101, 114, 121, 116, 104, 105, 110, 103]
  else if k = 2 then [110, 111, 116, 104, 105, 110, 103]
  else if k = 3 then n
  else if k = 4 then 123 :: (n ++ [125])
  else if k = 7 then n ++ [32, 105, 110, 32] ++ itoa lo ++ [32, 116, 111, 32] ++ itoa hi
  else if k = 6 then [115, 111, 109, 101, 32] ++ n ++ [32] ++ (opsS ps).headD []
  else joinL andB (opsS ps)
def opsS : List C → List (List UInt8)
 | [] => []
 | .mk k n lo hi z ps :: r => (if k = 5 then 40 :: (textS (.mk k n lo hi z ps) ++ [41]) else textS (.mk k n lo hi z ps)) :: opsS r
end
end Go.Ai.Z
namespace Go.Ai.Z
open Go.Lib (itoa)
theorem kd {x j : Int} (k : x = j) : decide (x = j) = true := by simp [k]
end Go.Ai.Z
namespace Go.Ai.Z
open Go.Lib (itoa)
attribute [local simp] find keyEq keyK
end Go.Ai.Z
