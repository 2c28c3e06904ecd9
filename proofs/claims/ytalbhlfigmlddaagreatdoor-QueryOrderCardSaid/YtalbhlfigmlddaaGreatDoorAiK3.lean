/-
 Concepts: what the program's check answers.
-/
import Derived.Test.YtalbhlfigmlddaaGreatDoorAiK1K2
set_option maxRecDepth 100000
set_option linter.unusedSimpArgs false
set_option linter.unusedVariables false
set_option linter.unusedSectionVars false
namespace Go.Ai.Z
end Go.Ai.Z
