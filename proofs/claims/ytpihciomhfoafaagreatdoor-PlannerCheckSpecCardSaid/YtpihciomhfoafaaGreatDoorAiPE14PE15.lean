/-
 A call of the chapter's examples.
-/
import Derived.Test.YtpihciomhfoafaaGreatDoorAiC2
set_option maxRecDepth 100000
set_option linter.unusedSimpArgs false
set_option linter.unusedVariables false
set_option linter.unusedSectionVars false
namespace Go.Ai.Z
set_option maxRecDepth 1000000
theorem Y9:bM P0 300 (.fn (.func dn) [] []) [.ag [.sl [.ag [.i .i64 1,.s [66],.s [63,120],.s [],.i .i64 0,.i .i64 0],.ag [.i .i64 1,.s [65],.s [63,120],.s [],.i .i64 0,.i .i64 0]]],.ag [.sl [.i .i64 0,.i .i64 0]]] [] ⟨0,0⟩=.ret (.i .i64 240) []:=by kernel_rfl
end Go.Ai.Z
namespace Go.Ai.Z
set_option maxRecDepth 1000000
theorem Y8:bM P0 300 (.fn (.func dn) [] []) [.ag [.ns],.ag [.ns]] [] ⟨0,0⟩=.ret (.i .i64 0) []:=by kernel_rfl
end Go.Ai.Z
