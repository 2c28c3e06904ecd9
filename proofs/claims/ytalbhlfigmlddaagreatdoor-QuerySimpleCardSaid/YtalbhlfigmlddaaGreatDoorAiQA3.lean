/-
 slices.Compact of atoms: written by program out of T3.
-/
import Derived.Test.YtalbhlfigmlddaaGreatDoorAiQA1QA0QA2
set_option maxRecDepth 100000
set_option linter.unusedSimpArgs false
set_option linter.unusedVariables false
set_option linter.unusedSectionVars false
namespace Go.Ai.Z
@[simp] theorem aas {env:Env} {l ver sz o n:Nat}:qg env (some (.v (.sk l ver sz o n)))=none:=rfl
section
variable (L:List At) (hL:L.length≤100000) (s:St) (cx:Ctx) (l t ver:Nat) (z:List AV) (hl:l<s.length) (hlim:cx.lim≤l) (hbase:cx.base≤l)
include hL hl hlim hbase
end
end Go.Ai.Z
