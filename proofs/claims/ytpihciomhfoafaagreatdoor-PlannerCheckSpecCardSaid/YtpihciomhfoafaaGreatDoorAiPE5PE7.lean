/-
 A call of the chapter's examples.
-/
import Derived.Test.YtpihciomhfoafaaGreatDoorAiC2
set_option maxRecDepth 100000
set_option linter.unusedSimpArgs false
set_option linter.unusedVariables false
set_option linter.unusedSectionVars false
namespace Go.Ai.Z
set_option maxRecDepth 1000000
theorem abI:bM P0 300 (.fn (.func qf) [] []) [.sl [.ag [.i .i64 8,.b false,.i .i64 0,.s [],.i .i64 0,.i .i64 0,.ns,.i .i64 3,.s [65],.i .i64 0,.i .i64 0,.ns,.ns,.s [],.s [97],.s []],.ag [.i .i64 8,.b false,.i .i64 0,.s [],.i .i64 0,.i .i64 0,.ns,.i .i64 3,.s [66],.i .i64 0,.i .i64 0,.ns,.ns,.s [],.s [98],.s []],.ag [.i .i64 8,.b false,.i .i64 0,.s [],.i .i64 0,.i .i64 0,.ns,.i .i64 3,.s [66],.i .i64 0,.i .i64 0,.ns,.ns,.s [],.s [97],.s []]]] [] ⟨0,0⟩=.ret (.tu [.sl [.ag [.i .i64 1,.s [123,97,125],.s [],.s [65],.s [],.s [],.s [],.i .i64 0,.i .i64 0,.i .i64 0],.ag [.i .i64 1,.s [123,98,125],.s [],.s [66],.s [],.s [],.s [],.i .i64 0,.i .i64 0,.i .i64 1],.ag [.i .i64 1,.s [123,97,125],.s [],.s [66],.s [],.s [],.s [],.i .i64 0,.i .i64 0,.i .i64 2]],.i .i64 0]) []:=by kernel_rfl
end Go.Ai.Z
namespace Go.Ai.Z
set_option maxRecDepth 1000000
theorem abG:bM P0 300 (.fn (.func lm) [] []) [.sl [.ag [.i .i64 8,.b false,.i .i64 0,.s [],.i .i64 0,.i .i64 0,.ns,.i .i64 3,.s [65],.i .i64 0,.i .i64 0,.ns,.ns,.s [],.s [97],.s []],.ag [.i .i64 8,.b false,.i .i64 0,.s [],.i .i64 0,.i .i64 0,.ns,.i .i64 3,.s [66],.i .i64 0,.i .i64 0,.ns,.ns,.s [],.s [98],.s []],.ag [.i .i64 8,.b false,.i .i64 0,.s [],.i .i64 0,.i .i64 0,.ns,.i .i64 3,.s [66],.i .i64 0,.i .i64 0,.ns,.ns,.s [],.s [97],.s []]]] [] ⟨0,0⟩=.ret (.tu [.ns,.i .i64 0]) []:=by kernel_rfl
end Go.Ai.Z
