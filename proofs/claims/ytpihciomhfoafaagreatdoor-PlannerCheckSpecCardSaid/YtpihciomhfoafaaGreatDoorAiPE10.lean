/-
 A call of the chapter's examples.
-/
import Derived.Test.YtpihciomhfoafaaGreatDoorAiC2
set_option maxRecDepth 100000
set_option linter.unusedSimpArgs false
set_option linter.unusedVariables false
set_option linter.unusedSectionVars false
namespace Go.Ai.Z
set_option maxRecDepth 1000000
theorem Zc:bM P0 300 (.fn (.func tH) [] []) [.ag [.sl [.s [123,97,125],.s [123,98,125]],.sl [.ag [.i .i64 1,.s [123,97,125],.s [42],.s [],.i .i64 0,.i .i64 0],.ag [.i .i64 1,.s [123,97,125],.s [65],.s [],.i .i64 0,.i .i64 0],.ag [.i .i64 1,.s [123,97,125],.s [66],.s [],.i .i64 0,.i .i64 0],.ag [.i .i64 1,.s [123,97,125],.s [123,97,125],.s [],.i .i64 0,.i .i64 0],.ag [.i .i64 1,.s [123,98,125],.s [42],.s [],.i .i64 0,.i .i64 0],.ag [.i .i64 1,.s [123,98,125],.s [66],.s [],.i .i64 0,.i .i64 0],.ag [.i .i64 1,.s [123,98,125],.s [123,98,125],.s [],.i .i64 0,.i .i64 0]],.ns,.ns,.ns,.ns],.ag [.sl [.ag [.i .i64 1,.s [66],.s [63,120],.s [],.i .i64 0,.i .i64 0],.ag [.i .i64 1,.s [65],.s [63,120],.s [],.i .i64 0,.i .i64 0]]]] [] ⟨0,0⟩=.ret (.tu [.ag [.sl [.i .i64 1,.i .i64 0]],.i .i64 0]) []:=by kernel_rfl
end Go.Ai.Z
