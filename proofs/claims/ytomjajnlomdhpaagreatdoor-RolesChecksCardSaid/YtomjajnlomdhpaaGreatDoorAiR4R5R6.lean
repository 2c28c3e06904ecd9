/-
  Above, here and in the reference.
-/
import Derived.Test.YtomjajnlomdhpaaGreatDoorAiR2R3
set_option maxRecDepth 100000
set_option linter.unusedSimpArgs false
set_option linter.unusedVariables false
namespace Go.Ai.Z
theorem underL_strs (n : Nat) : ∀ l : List (List UInt8), underL n (l.map .s) = true
  | [] => by simp [underL]
  | x :: l => by simp [underL, underL_strs n l]
theorem frz_strs (S : St) (n : Nat) (l : List (List UInt8)) (k : IntKind) (i : Int) : frz S n (.tu [.sl (l.map .s), .i k i]) = some (.tu [.sl (l.map .s), .i k i]) := by
  unfold frz
  rw [if_pos (by simp [underL, underL_strs])]
end Go.Ai.Z
namespace Go.Ai.Z
end Go.Ai.Z
namespace Go.Ai.Z
theorem sane_n : acall P0 400 (.fn (.func F_law06_sane) [] []) [] [] ⟨0, 0⟩ = .ret (.b true) [] := by
  kernel_rfl
end Go.Ai.Z
