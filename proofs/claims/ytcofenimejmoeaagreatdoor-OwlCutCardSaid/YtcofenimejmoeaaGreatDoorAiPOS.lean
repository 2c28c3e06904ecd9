/-
 The chapter's examples of ontology documents.
-/
import Derived.Test.YtcofenimejmoeaaGreatDoorAiC1
set_option maxRecDepth 100000
set_option linter.unusedSimpArgs false
set_option linter.unusedVariables false
set_option linter.unusedSectionVars false
namespace Go.Ai.Z
set_option maxRecDepth 1000000
theorem aiP:jB P0 300 (.fn (.func yJ) [] []) [] [] ⟨0,0⟩=.ret (.b true) []:=by kernel_rfl
end Go.Ai.Z
