/-
 A call of the chapter's examples.
-/
import Derived.Test.YtpihciomhfoafaaGreatDoorAiC2
set_option maxRecDepth 100000
set_option linter.unusedSimpArgs false
set_option linter.unusedVariables false
set_option linter.unusedSectionVars false
namespace Go.Ai.Z
set_option maxRecDepth 1000000
theorem abM:bM P0 300 (.fn (.func bW) [] []) [.ag [.i .i64 8,.b false,.i .i64 0,.s [],.i .i64 0,.i .i64 0,.ns,.i .i64 3,.s [65],.i .i64 0,.i .i64 0,.ns,.ns,.s [],.s [97],.s []]] [] ⟨0,0⟩=.ret (.i .i64 0) []:=by kernel_rfl
end Go.Ai.Z
namespace Go.Ai.Z
set_option maxRecDepth 1000000
theorem abL:bM P0 300 (.fn (.func bW) [] []) [.ag [.i .i64 8,.b false,.i .i64 0,.s [],.i .i64 0,.i .i64 0,.ns,.i .i64 3,.s [66],.i .i64 0,.i .i64 0,.ns,.ns,.s [],.s [98],.s []]] [] ⟨0,0⟩=.ret (.i .i64 0) []:=by kernel_rfl
end Go.Ai.Z
namespace Go.Ai.Z
set_option maxRecDepth 1000000
theorem abK:bM P0 300 (.fn (.func bW) [] []) [.ag [.i .i64 8,.b false,.i .i64 0,.s [],.i .i64 0,.i .i64 0,.ns,.i .i64 3,.s [66],.i .i64 0,.i .i64 0,.ns,.ns,.s [],.s [97],.s []]] [] ⟨0,0⟩=.ret (.i .i64 0) []:=by kernel_rfl
end Go.Ai.Z
namespace Go.Ai.Z
set_option maxRecDepth 1000000
theorem abJ:bM P0 300 (.fn (.func vH) [] []) [.sl [.ag [.i .i64 8,.b false,.i .i64 0,.s [],.i .i64 0,.i .i64 0,.ns,.i .i64 3,.s [65],.i .i64 0,.i .i64 0,.ns,.ns,.s [],.s [97],.s []],.ag [.i .i64 8,.b false,.i .i64 0,.s [],.i .i64 0,.i .i64 0,.ns,.i .i64 3,.s [66],.i .i64 0,.i .i64 0,.ns,.ns,.s [],.s [98],.s []],.ag [.i .i64 8,.b false,.i .i64 0,.s [],.i .i64 0,.i .i64 0,.ns,.i .i64 3,.s [66],.i .i64 0,.i .i64 0,.ns,.ns,.s [],.s [97],.s []]]] [] ⟨0,0⟩=.ret (.tu [.sl [],.i .i64 0]) []:=by kernel_rfl
end Go.Ai.Z
