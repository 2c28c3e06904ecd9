/-
 A call of the chapter's examples.
-/
import Derived.Test.YtpihciomhfoafaaGreatDoorAiC2
set_option maxRecDepth 100000
set_option linter.unusedSimpArgs false
set_option linter.unusedVariables false
set_option linter.unusedSectionVars false
namespace Go.Ai.Z
set_option maxRecDepth 1000000
theorem abE:bM P0 300 (.fn (.func oJ) [] []) [.sl [.ag [.i .i64 1,.s [123,97,125],.s [],.s [65],.s [],.s [],.s [],.i .i64 0,.i .i64 0,.i .i64 0],.ag [.i .i64 1,.s [123,98,125],.s [],.s [66],.s [],.s [],.s [],.i .i64 0,.i .i64 0,.i .i64 1],.ag [.i .i64 1,.s [123,97,125],.s [],.s [66],.s [],.s [],.s [],.i .i64 0,.i .i64 0,.i .i64 2]],.ag [.sl [.s [33],.s [42],.s [65],.s [66],.s [123,97,125],.s [123,98,125]],.sl [.ag [.i .i64 1,.s [33],.s [33],.s [],.i .i64 0,.i .i64 0],.ag [.i .i64 1,.s [33],.s [42],.s [],.i .i64 0,.i .i64 0],.ag [.i .i64 1,.s [42],.s [42],.s [],.i .i64 0,.i .i64 0],.ag [.i .i64 1,.s [65],.s [42],.s [],.i .i64 0,.i .i64 0],.ag [.i .i64 1,.s [65],.s [65],.s [],.i .i64 0,.i .i64 0],.ag [.i .i64 1,.s [66],.s [42],.s [],.i .i64 0,.i .i64 0],.ag [.i .i64 1,.s [66],.s [66],.s [],.i .i64 0,.i .i64 0],.ag [.i .i64 1,.s [123,97,125],.s [42],.s [],.i .i64 0,.i .i64 0],.ag [.i .i64 1,.s [123,97,125],.s [65],.s [],.i .i64 0,.i .i64 0],.ag [.i .i64 1,.s [123,97,125],.s [66],.s [],.i .i64 0,.i .i64 0],.ag [.i .i64 1,.s [123,97,125],.s [123,97,125],.s [],.i .i64 0,.i .i64 0],.ag [.i .i64 1,.s [123,98,125],.s [42],.s [],.i .i64 0,.i .i64 0],.ag [.i .i64 1,.s [123,98,125],.s [66],.s [],.i .i64 0,.i .i64 0],.ag [.i .i64 1,.s [123,98,125],.s [123,98,125],.s [],.i .i64 0,.i .i64 0]]]] [] ⟨0,0⟩=.ret (.ag [.sl [.s [123,97,125],.s [123,98,125]],.sl [.ag [.i .i64 1,.s [123,97,125],.s [42],.s [],.i .i64 0,.i .i64 0],.ag [.i .i64 1,.s [123,97,125],.s [65],.s [],.i .i64 0,.i .i64 0],.ag [.i .i64 1,.s [123,97,125],.s [66],.s [],.i .i64 0,.i .i64 0],.ag [.i .i64 1,.s [123,97,125],.s [123,97,125],.s [],.i .i64 0,.i .i64 0],.ag [.i .i64 1,.s [123,98,125],.s [42],.s [],.i .i64 0,.i .i64 0],.ag [.i .i64 1,.s [123,98,125],.s [66],.s [],.i .i64 0,.i .i64 0],.ag [.i .i64 1,.s [123,98,125],.s [123,98,125],.s [],.i .i64 0,.i .i64 0]],.ns,.ns,.ns,.ns]) []:=by kernel_rfl
end Go.Ai.Z
