/-
 The examples of the chapter on queries.
-/
import Derived.Test.YtalbhlfigmlddaaGreatDoorAiK1K2
import Derived.Test.YtalbhlfigmlddaaGreatDoorAiB1
import Derived.Test.YtalbhlfigmlddaaGreatDoorAiQSP1
import Derived.Test.YtalbhlfigmlddaaGreatDoorAiQSP2
import Derived.Test.YtalbhlfigmlddaaGreatDoorAiQSP3QSPR1QSPR2
import Derived.Test.YtalbhlfigmlddaaGreatDoorAiQSRNQSIN
set_option maxRecDepth 100000
set_option linter.unusedSimpArgs false
set_option linter.unusedVariables false
set_option linter.unusedSectionVars false
namespace Go.Ai.Z
theorem ZI:∀l:List UInt8,(dU l).mapM byteOf=some l
 | []=>by simp [dU]
 | b::r=>by
  have ih:=ZI r
  show ((AV.i .u8 b.toNat)::dU r).mapM byteOf=_
  simp [byteOf,ih]
theorem Yn:aj P0 (.fn (.func tZ) [] []) [] [] ⟨0,0⟩=.ret (.b true) []:=by
 have e1:=yu P0 200 _ _ _ _ _ abR (by simp)
 have e2:=yu P0 200 _ _ _ _ _ abQ (by simp)
 have e3:=yu P0 200 _ _ _ _ _ abP (by simp)
 have e4:=yu P0 200 _ _ _ _ _ aae (by simp)
 have e5:=yu P0 200 _ _ _ _ _ aad (by simp)
 have e6:=yu P0 200 _ _ _ _ _ abO (by simp)
 have e7:=yu P0 200 _ _ _ _ _ abS (by simp)
 have h49:List.range 49=[0,1,2,3,4,5,6,7,8,9,10,11,12,13,14,15,16,17,18,19,20,21,22,23,24,25,26,27,28,29,30,31,32,33,34,35,36,37,38,39,40,41,42,43,44,45,46,47,48]:=rfl
 have h20:List.range 20=[0,1,2,3,4,5,6,7,8,9,10,11,12,13,14,15,16,17,18,19]:=rfl
 refine O6 (by simp) ?_
 simp [ah,ve,e1,e2,e3,e4,e5,e6,e7,h49,h20,oU,splice,ZI]
end Go.Ai.Z
