/-
  The roles' examples, run.
-/
import Derived.Test.YtomjajnlomdhpaaDoorAiK1
set_option maxRecDepth 100000
set_option linter.unusedSimpArgs false
set_option linter.unusedVariables false
namespace Go.Ai.Z
theorem sane6_n : acall P0 400 (.fn (.func F_law06_sane) [] []) [] [] ⟨0, 0⟩ = .ret (.b true) [] := by
  kernel_rfl
end Go.Ai.Z
