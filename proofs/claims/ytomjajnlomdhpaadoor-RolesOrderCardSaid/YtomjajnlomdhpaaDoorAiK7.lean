/-
  The program's printer of concepts.
-/
import Derived.Test.YtomjajnlomdhpaaDoorAiK6
import Derived.KernelRfl
set_option maxRecDepth 100000
set_option linter.unusedSimpArgs false
set_option linter.unusedVariables false
namespace Go.Ai.Z
open Go.Lib (itoa)

def fnv (f : Nat) : AV := .fn (.func f) [] []
attribute [local simp] find keyEq keyK
theorem strs (l : List (List UInt8)) : (l.map AV.s).mapM strOf = some l := by
  induction l with
  | nil => rfl
  | cons a r ih => simp [strOf, ih]
theorem strs' (l : List (List UInt8)) : l.mapM (strOf ∘ AV.s) = some l := by
  induction l with
  | nil => rfl
  | cons a r ih => simp [strOf, ih]
theorem c_strings_Join (l : List (List UInt8)) (sep : List UInt8) (h : (joinL sep l).length ≤ 1048576) (h' : l.length ≤ 1048576) (s : St) (cx : Ctx) : acallW P0 (.fn (.func F_strings_Join) [] []) [.sl (l.map .s), .s sep] s cx = .ret (.s (joinL sep l)) s :=
  acallW_intrS (h := pureI iJoin) rfl (by simp [iJoin, strs', h, h'])
end Go.Ai.Z
