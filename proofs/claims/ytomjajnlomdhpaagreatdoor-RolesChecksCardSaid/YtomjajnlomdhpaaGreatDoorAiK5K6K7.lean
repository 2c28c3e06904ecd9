/-
  Texts of concepts.
-/
import Derived.Test.YtomjajnlomdhpaaGreatDoorAiK4
import Derived.KernelRfl
set_option maxRecDepth 100000
set_option linter.unusedSimpArgs false
set_option linter.unusedVariables false
namespace Go.Ai.Z
open Go.Lib (itoa decDigits)
def andB : List UInt8 := [32, 97, 110, 100, 32]
mutual
def textS : C → List UInt8
  | .mk k n lo hi _ ps =>
    if k = 1 then [101, 118, 101, 114, 121, 116, 104, 105, 110, 103]
    else if k = 2 then [110, 111, 116, 104, 105, 110, 103]
    else if k = 3 then n
    else if k = 4 then 123 :: (n ++ [125])
    else if k = 7 then n ++ [32, 105, 110, 32] ++ itoa lo ++ [32, 116, 111, 32] ++ itoa hi
    else if k = 6 then [115, 111, 109, 101, 32] ++ n ++ [32] ++ (opsS ps).headD []
    else joinL andB (opsS ps)
def opsS : List C → List (List UInt8)
  | [] => []
  | .mk k n lo hi z ps :: r => (if k = 5 then 40 :: (textS (.mk k n lo hi z ps) ++ [41]) else textS (.mk k n lo hi z ps)) :: opsS r
end
theorem walk_ok {c : C} (h : walkS c = 0) : shapeS c = true ∧ namedS c = true ∧ ∀ p ∈ c.parts, walkS p = 0 := by
  rw [walkS_eq] at h
  by_cases h1 : shapeS c = true
  · by_cases h2 : namedS c = true
    · simp [h1, h2] at h
      refine ⟨h1, h2, ?_⟩
      generalize c.parts = l at h
      induction l with
      | nil => intro p hp; cases hp
      | cons a r ih =>
        simp only [walkSL] at h
        intro p hp
        by_cases h0 : walkS a = 0
        · rw [if_pos h0] at h
          rcases List.mem_cons.1 hp with rfl | hp
          · exact h0
          · exact ih h p hp
        · rw [if_neg h0] at h; exact absurd h h0
    · simp [h1, h2] at h
  · simp [h1] at h
end Go.Ai.Z
namespace Go.Ai.Z
open Go.Lib (itoa)
theorem kd {x j : Int} (k : x = j) : decide (x = j) = true := by simp [k]
end Go.Ai.Z
namespace Go.Ai.Z
open Go.Lib (itoa)
attribute [local simp] find keyEq keyK
end Go.Ai.Z
