/-
 Texts of concepts.
-/
import Derived.Test.YtpnlnnfcaeednaaGreatDoorAiK4
import Derived.KernelRfl
set_option maxRecDepth 100000
set_option linter.unusedSimpArgs false
set_option linter.unusedVariables false
set_option linter.unusedSectionVars false
namespace Go.Ai.Z
open Go.Lib (itoa decDigits)
def andB : List UInt8 := [32, 97, 110, 100, 32]
mutual
def textS : C → List UInt8
 | .mk k n lo hi _ ps =>
  if k = 1 then [101, 118, 101, 114, 121, 116, 104, 105, 110, 103]
  else if k = 2 then [110, 111, 116, 104, 105, 110, 103]
  else if k = 3 then n
  else if k = 4 then 123 :: (n ++ [125])
  else if k = 7 then n ++ [32, 105, 110, 32] ++ itoa lo ++ [32, 116, 111, 32] ++ itoa hi
  else if k = 6 then [115, 111, 109, 101, 32] ++ n ++ [32] ++ (opsS ps).headD []
  else joinL andB (opsS ps)
def opsS : List C → List (List UInt8)
 | [] => []
 | .mk k n lo hi z ps :: r => (if k = 5 then 40 :: (textS (.mk k n lo hi z ps) ++ [41]) else textS (.mk k n lo hi z ps)) :: opsS r
end
def opS (c : C) : List UInt8 := if c.kind = 5 then 40 :: (textS c ++ [41]) else textS c
theorem walk_ok {c : C} (h : walkS c = 0) : shapeS c = true ∧ namedS c = true ∧ ∀ p ∈ c.parts, walkS p = 0 := by
 rw [walkS_eq] at h
 by_cases h1 : shapeS c = true
 ·by_cases h2 : namedS c = true
  ·simp [h1, h2] at h
   refine ⟨h1, h2, ?_⟩
   generalize c.parts = l at h
   induction l with
   | nil => intro p hp; cases hp
   | cons a r ih =>
    simp only [walkSL] at h
    intro p hp
    by_cases h0 : walkS a = 0
    ·rw [if_pos h0] at h
     rcases List.mem_cons.1 hp with rfl | hp
     ·exact h0
     ·exact ih h p hp
    ·rw [if_neg h0] at h; exact absurd h h0
  ·simp [h1, h2] at h
 ·simp [h1] at h
theorem shape_kind {c : C} (h : shapeS c = true) : c.kind = 1 ∨ c.kind = 2 ∨ c.kind = 3 ∨ c.kind = 4 ∨ c.kind = 7 ∧ -1099511627776 ≤ c.lo ∧ c.lo ≤ c.hi ∧ c.hi ≤ 1099511627776 ∨ c.kind = 6 ∧ c.parts.length = 1 ∨ c.kind = 5 ∧ 2 ≤ c.parts.length := by
 unfold shapeS at h
 by_cases k1 : c.kind = 1
 ·exact .inl k1
 by_cases k2 : c.kind = 2
 ·exact .inr (.inl k2)
 by_cases k3 : c.kind = 3
 ·exact .inr (.inr (.inl k3))
 by_cases k4 : c.kind = 4
 ·exact .inr (.inr (.inr (.inl k4)))
 by_cases k5 : c.kind = 5
 ·simp [k5] at h; exact .inr (.inr (.inr (.inr (.inr (.inr ⟨k5, by omega⟩)))))
 by_cases k6 : c.kind = 6
 ·simp [k6] at h; exact .inr (.inr (.inr (.inr (.inr (.inl ⟨k6, by omega⟩)))))
 by_cases k7 : c.kind = 7
 ·simp [k7] at h; exact .inr (.inr (.inr (.inr (.inl ⟨k7, by omega, by omega, by omega⟩))))
 ·simp [k1, k2, k3, k4, k5, k6, k7] at h
end Go.Ai.Z
namespace Go.Ai.Z
open Go.Lib (itoa)
theorem kd {x j : Int} (k : x = j) : decide (x = j) = true := by simp [k]
end Go.Ai.Z
namespace Go.Ai.Z
open Go.Lib (itoa)
attribute [local simp] find keyEq keyK
end Go.Ai.Z
