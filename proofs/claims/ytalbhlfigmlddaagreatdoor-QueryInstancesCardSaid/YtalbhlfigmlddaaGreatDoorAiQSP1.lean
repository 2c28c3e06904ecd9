/-
 An example of the chapter on queries.
-/
import Derived.Test.YtalbhlfigmlddaaGreatDoorAiC2
set_option maxRecDepth 100000
set_option linter.unusedSimpArgs false
set_option linter.unusedVariables false
set_option linter.unusedSectionVars false
namespace Go.Ai.Z
theorem abR:fE P0 200 (.fn (.func kH) [] []) [.sl (dU [115,101,108,101,99,116,32,63,120,32,119,104,101,114,101,32,65,40,63,120,41,32,97,110,100,32,102,40,63,120,41,32,105,110,32,49,32,116,111,32,53,32,111,114,32,114,40,97,44,32,63,120,41])] [] ⟨0,0⟩=.ret (.tu [.ag [.sl [.s [63,120]],.sl [.ag [.sl [.ag [.i .i64 1,.s [65],.s [63,120],.s [],.i .i64 0,.i .i64 0],.ag [.i .i64 3,.s [102],.s [63,120],.s [],.i .i64 1,.i .i64 5]]],.ag [.sl [.ag [.i .i64 2,.s [114],.s [97],.s [63,120],.i .i64 0,.i .i64 0]]]]],.i .i64 0,.i .i64 0]) []:=by kernel_rfl
end Go.Ai.Z
