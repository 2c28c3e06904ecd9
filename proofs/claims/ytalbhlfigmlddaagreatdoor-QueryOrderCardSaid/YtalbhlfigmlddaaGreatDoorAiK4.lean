/-
 Concepts: the program's check, whole.
-/
import Derived.Test.YtalbhlfigmlddaaGreatDoorAiK3
set_option maxRecDepth 100000
set_option linter.unusedSimpArgs false
set_option linter.unusedVariables false
set_option linter.unusedSectionVars false
namespace Go.Ai.Z
mutual
def VS:C→Nat→Nat→Bool×Nat
 | .mk _ _ _ _ _ ps,d,n=>if 8<d∨64<n+1 then (false,n+1) else Yr ps d (n+1)
def Yr:List C→Nat→Nat→Bool×Nat
 | [],_,n=>(true,n)
 | p::r,d,n=>if (VS p (d+1) n).1=true then Yr r d (VS p (d+1) n).2 else (false,(VS p (d+1) n).2)
end
inductive C.Lng:C→Prop where
 | mk (c:C) (hn:c.name.length≤1152921504606846976) (hps:c.parts.length≤1152921504606846976) (hp:∀p∈c.parts,C.Lng p):C.Lng c
theorem C.Lng.n {c:C} (h:C.Lng c):c.name.length≤1152921504606846976:=by cases h;assumption
theorem C.Lng.ps {c:C} (h:C.Lng c):c.parts.length≤1152921504606846976:=by cases h;assumption
theorem C.Lng.sub {c:C} (h:C.Lng c):∀p∈c.parts,C.Lng p:=by cases h;assumption
@[simp] theorem UM (c:C) (s:St) (cx:Ctx):aH P0 (.fn (.func nK) [] []) [vC c] s cx=.ret (.fn (.func nJ) [] [.ip (vC c).cells]) s:=by
 refine Jy (by simp) ?_
 simp [au,oQ,frz,qU]
end Go.Ai.Z
