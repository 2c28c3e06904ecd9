/-
 An example of the chapter on queries.
-/
import Derived.Test.YtalbhlfigmlddaaGreatDoorAiC2
set_option maxRecDepth 100000
set_option linter.unusedSimpArgs false
set_option linter.unusedVariables false
set_option linter.unusedSectionVars false
namespace Go.Ai.Z
theorem afx:fO P0 200 (.fn (.func gU) [] []) [.sl (aB [115,101,108,101,99,116,32,63,120,32,119,104,101,114,101,32,65,40,63,120,41,32,97,110,100,32,102,40,63,120,41,32,105,110,32,49,32,116,111,32,53,32,111,114,32,114,40,97,44,32,63,120,41])] [] ⟨0,0⟩=.ret (.tu [.ag [.sl [.s [63,120]],.sl [.ag [.sl [.ag [.i .i64 1,.s [65],.s [63,120],.s [],.i .i64 0,.i .i64 0],.ag [.i .i64 3,.s [102],.s [63,120],.s [],.i .i64 1,.i .i64 5]]],.ag [.sl [.ag [.i .i64 2,.s [114],.s [97],.s [63,120],.i .i64 0,.i .i64 0]]]]],.i .i64 0,.i .i64 0]) []:=by kernel_rfl
end Go.Ai.Z
namespace Go.Ai.Z
theorem afw:fO P0 200 (.fn (.func gU) [] []) [.sl (.i .u8 115::.i .u8 101::.i .u8 108::.i .u8 101::.i .u8 99::.i .u8 116::.i .u8 32::.i .u8 63::.i .u8 97::.i .u8 32::.i .u8 119::.i .u8 104::.i .u8 101::.i .u8 114::.i .u8 101::.i .u8 32::.i .u8 114::.i .u8 40::.i .u8 63::.i .u8 98::.i .u8 44::.i .u8 32::.i .u8 63::.i .u8 99::.i .u8 41::.i .u8 32::.i .u8 97::.i .u8 110::.i .u8 100::.i .u8 32::.i .u8 65::.i .u8 40::.i .u8 63::.i .u8 99::.i .u8 41::.i .u8 32::.i .u8 97::.i .u8 110::.i .u8 100::.i .u8 32::.i .u8 114::.i .u8 40::.i .u8 63::.i .u8 97::.i .u8 44::.i .u8 32::.i .u8 63::.i .u8 98::.i .u8 41::[])] [] ⟨0,0⟩=.ret (.tu [.ag [.sl [.s [63,97]],.sl [.ag [.sl [.ag [.i .i64 2,.s [114],.s [63,98],.s [63,99],.i .i64 0,.i .i64 0],.ag [.i .i64 1,.s [65],.s [63,99],.s [],.i .i64 0,.i .i64 0],.ag [.i .i64 2,.s [114],.s [63,97],.s [63,98],.i .i64 0,.i .i64 0]]]]],.i .i64 0,.i .i64 0]) []:=by kernel_rfl
end Go.Ai.Z
