/-
 Axioms: the reference's check.
-/
import Derived.Test.YtpanocallohgdaaDoorAiK10
set_option maxRecDepth 100000
set_option linter.unusedSimpArgs false
set_option linter.unusedVariables false
namespace Go.Ai.Z
attribute [local simp] List.length_pos_iff
end Go.Ai.Z
