/-
 The laws on the split of answers.
-/
import Derived.Test.YtdjjghikaijfpaaGreatDoorAiRP2
import Derived.Test.YtdjjghikaijfpaaGreatDoorAiRS
import Derived.Test.YtdjjghikaijfpaaGreatDoorAiB1
set_option maxRecDepth 100000
set_option linter.unusedSimpArgs false
set_option linter.unusedVariables false
set_option linter.unusedSectionVars false
namespace Go.Ai.Z
theorem QJ:dN P0 (.fn (.func xg) [] []) [] [] ⟨0,0⟩=.ret (.b true) []:=Z5 P0 300 _ _ _ _ _ abe (by simp)
theorem V6 (A B:List Td) (hS:∀a∈A,SmT a) (hT:∀a∈B,SmT a) (cx:Ctx):dN P0 (.fn (.func jG) [] []) [.sl (A.map eTd),.sl (B.map eTd)] [] cx=.ret (.b true) []:=by
 refine EP (by simp) ?_
 by_cases hA:A.length≤40
 ·have hA':¬(40:Int)<A.length:=by omega
  have hA2:¬40<A.length:=by omega
  by_cases hB:B.length≤40
  ·have hB':¬(40:Int)<B.length:=by omega
   have hB2:¬40<B.length:=by omega
   have e1:=c_split A B (by omega) (by omega) hS hT
   have e2:=ZU A B (by omega) (by omega) hS hT
   have w1:∀L M:List Td,(wo L M).length≤L.length:=fun L M=>List.length_filter_le _ _
   have e3:=SE (wo A B) (wo A B) (by have:=w1 A B;omega) (fun a ha=>hS a ((List.mem_filter.1 ha).1))
   have e4:=SE (wo B A) (wo B A) (by have:=w1 B A;omega) (fun a ha=>hT a ((List.mem_filter.1 ha).1))
   simp at e3 e4
   simp [dM,eY,QJ,hA',hB',hA2,hB2,e1,e2,e3,e4]
  ·have hB':(40:Int)<B.length:=by omega
   have hB2:40<B.length:=by omega
   simp [dM,eY,QJ,hA',hB',hA2,hB2]
 ·have hA':(40:Int)<A.length:=by omega
  have hA2:40<A.length:=by omega
  simp [dM,eY,QJ,hA',hA2]
end Go.Ai.Z
