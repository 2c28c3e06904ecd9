/-
 An example of the chapter on queries.
-/
import Derived.Test.YtalbhlfigmlddaaGreatDoorAiC2
set_option maxRecDepth 100000
set_option linter.unusedSimpArgs false
set_option linter.unusedVariables false
set_option linter.unusedSectionVars false
namespace Go.Ai.Z
theorem abQ:fE P0 200 (.fn (.func kH) [] []) [.sl (.i .u8 115::.i .u8 101::.i .u8 108::.i .u8 101::.i .u8 99::.i .u8 116::.i .u8 32::.i .u8 63::.i .u8 97::.i .u8 32::.i .u8 119::.i .u8 104::.i .u8 101::.i .u8 114::.i .u8 101::.i .u8 32::.i .u8 114::.i .u8 40::.i .u8 63::.i .u8 98::.i .u8 44::.i .u8 32::.i .u8 63::.i .u8 99::.i .u8 41::.i .u8 32::.i .u8 97::.i .u8 110::.i .u8 100::.i .u8 32::.i .u8 65::.i .u8 40::.i .u8 63::.i .u8 99::.i .u8 41::.i .u8 32::.i .u8 97::.i .u8 110::.i .u8 100::.i .u8 32::.i .u8 114::.i .u8 40::.i .u8 63::.i .u8 97::.i .u8 44::.i .u8 32::.i .u8 63::.i .u8 98::.i .u8 41::[])] [] ⟨0,0⟩=.ret (.tu [.ag [.sl [.s [63,97]],.sl [.ag [.sl [.ag [.i .i64 2,.s [114],.s [63,98],.s [63,99],.i .i64 0,.i .i64 0],.ag [.i .i64 1,.s [65],.s [63,99],.s [],.i .i64 0,.i .i64 0],.ag [.i .i64 2,.s [114],.s [63,97],.s [63,98],.i .i64 0,.i .i64 0]]]]],.i .i64 0,.i .i64 0]) []:=by kernel_rfl
end Go.Ai.Z
