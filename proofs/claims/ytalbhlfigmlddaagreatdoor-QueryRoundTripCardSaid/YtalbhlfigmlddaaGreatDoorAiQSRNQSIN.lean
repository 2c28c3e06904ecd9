/-
 An example of the chapter on queries.
-/
import Derived.Test.YtalbhlfigmlddaaGreatDoorAiC2
set_option maxRecDepth 100000
set_option linter.unusedSimpArgs false
set_option linter.unusedVariables false
set_option linter.unusedSectionVars false
namespace Go.Ai.Z
theorem afu:fO P0 200 (.fn (.func vT) [] []) [.ag [.sl [.s [63,97]],.sl [.ag [.sl [.ag [.i .i64 2,.s [114],.s [63,98],.s [63,99],.i .i64 0,.i .i64 0],.ag [.i .i64 1,.s [65],.s [63,99],.s [],.i .i64 0,.i .i64 0],.ag [.i .i64 2,.s [114],.s [63,97],.s [63,98],.i .i64 0,.i .i64 0]]]]]] [] ⟨0,0⟩=.ret (.tu [.ag [.sl [.s [63,116,49]],.sl [.ag [.sl [.ag [.i .i64 1,.s [65],.s [63,118,49],.s [],.i .i64 0,.i .i64 0],.ag [.i .i64 2,.s [114],.s [63,116,49],.s [63,118,50],.i .i64 0,.i .i64 0],.ag [.i .i64 2,.s [114],.s [63,118,50],.s [63,118,49],.i .i64 0,.i .i64 0]]]]],.i .i64 0]) []:=by kernel_rfl
end Go.Ai.Z
namespace Go.Ai.Z
theorem afy:fO P0 200 (.fn (.func sV) [] []) [.ag [.sl [.s [63,120]],.sl [.ag [.sl [.ag [.i .i64 1,.s [65],.s [63,120],.s [],.i .i64 0,.i .i64 0],.ag [.i .i64 3,.s [102],.s [63,120],.s [],.i .i64 1,.i .i64 5]]],.ag [.sl [.ag [.i .i64 2,.s [114],.s [97],.s [63,120],.i .i64 0,.i .i64 0]]]]],.ag [.i .i64 1,.sl [.s [98]]]] [] ⟨0,0⟩=.ret (.tu [.ag [.sl [.ag [.i .i64 2,.s [114],.s [97],.s [98],.i .i64 0,.i .i64 0]]],.i .i64 0]) []:=by kernel_rfl
end Go.Ai.Z
