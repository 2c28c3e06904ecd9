/-
 The order of trees, in the program that comparisons run in: written by program out of KH.
-/
import Derived.Test.YtalbhlfigmlddaaGreatDoorAiKGKH
set_option maxRecDepth 100000
set_option linter.unusedSimpArgs false
set_option linter.unusedVariables false
set_option linter.unusedSectionVars false
namespace Go.Ai.Z
open Go.Lib (compareBytes)
@[simp] theorem VY (a:Int) (s:St) (cx:Ctx):aj Pq (.fn (.func iR) [] []) [.i .i64 a] s cx=.ret (.b false) s:=by
 refine FM (by simp) ?_
 simp [ah,jT]
@[simp] theorem TU (a b:Int) (s:St) (cx:Ctx):aj Pq (.fn (.func fB) [] []) [.i .i64 a,.i .i64 b] s cx=.ret (.i .i64 (vU a b)) s:=by
 refine C9 (by simp) ?_
 unfold vU
 by_cases h1:a<b
 ·simp [ah,dG,h1]
 ·by_cases h2:b<a
  ·simp [ah,dG,h1,h2]
  ·simp [ah,dG,h1,h2]
end Go.Ai.Z
