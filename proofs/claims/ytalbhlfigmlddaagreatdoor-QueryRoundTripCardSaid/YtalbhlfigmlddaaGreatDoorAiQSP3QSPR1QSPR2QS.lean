/-
 An example of the chapter on queries.
-/
import Derived.Test.YtalbhlfigmlddaaGreatDoorAiC2
import Derived.Test.YtalbhlfigmlddaaGreatDoorAiK1K2
import Derived.Test.YtalbhlfigmlddaaGreatDoorAiB1
import Derived.Test.YtalbhlfigmlddaaGreatDoorAiQSP1QSP2
import Derived.Test.YtalbhlfigmlddaaGreatDoorAiQSRNQSIN
set_option maxRecDepth 100000
set_option linter.unusedSimpArgs false
set_option linter.unusedVariables false
set_option linter.unusedSectionVars false
namespace Go.Ai.Z
theorem afv:fO P0 200 (.fn (.func gU) [] []) [.sl [.i .u8 115,.i .u8 101,.i .u8 108,.i .u8 101,.i .u8 99,.i .u8 116,.i .u8 32,.i .u8 63,.i .u8 120,.i .u8 32,.i .u8 119,.i .u8 104,.i .u8 101,.i .u8 114,.i .u8 101,.i .u8 32,.i .u8 65,.i .u8 40,.i .u8 63,.i .u8 120]] [] ⟨0,0⟩=.ret (.tu [.ag [.ns,.ns],.i .i64 20,.i .i64 30]) []:=by kernel_rfl
end Go.Ai.Z
namespace Go.Ai.Z
theorem adG:fO P0 200 (.fn (.func kM) [] []) [.ag [.sl [.s [63,120]],.sl [.ag [.sl [.ag [.i .i64 1,.s [65],.s [63,120],.s [],.i .i64 0,.i .i64 0],.ag [.i .i64 3,.s [102],.s [63,120],.s [],.i .i64 1,.i .i64 5]]],.ag [.sl [.ag [.i .i64 2,.s [114],.s [97],.s [63,120],.i .i64 0,.i .i64 0]]]]]] [] ⟨0,0⟩=.ret (.tu [.sl (aB [115,101,108,101,99,116,32,63,120,32,119,104,101,114,101,32,65,40,63,120,41,32,97,110,100,32,102,40,63,120,41,32,105,110,32,49,32,116,111,32,53,32,111,114,32,114,40,97,44,32,63,120,41]),.i .i64 0]) []:=by kernel_rfl
end Go.Ai.Z
namespace Go.Ai.Z
theorem adF:fO P0 200 (.fn (.func kM) [] []) [.ag [.sl [.s [63,116,49]],.sl [.ag [.sl [.ag [.i .i64 1,.s [65],.s [63,118,49],.s [],.i .i64 0,.i .i64 0],.ag [.i .i64 2,.s [114],.s [63,116,49],.s [63,118,50],.i .i64 0,.i .i64 0],.ag [.i .i64 2,.s [114],.s [63,118,50],.s [63,118,49],.i .i64 0,.i .i64 0]]]]]] [] ⟨0,0⟩=.ret (.tu [.sl (aB [115,101,108,101,99,116,32,63,116,49,32,119,104,101,114,101,32,65,40,63,118,49,41,32,97,110,100,32,114,40,63,116,49,44,32,63,118,50,41,32,97,110,100,32,114,40,63,118,50,44,32,63,118,49,41]),.i .i64 0]) []:=by kernel_rfl
end Go.Ai.Z
namespace Go.Ai.Z
theorem ade:∀l:List UInt8,(aB l).mapM byteOf=some l
 | []=>by simp [aB]
 | b::r=>by
  have ih:=ade r
  show ((AV.i .u8 b.toNat)::aB r).mapM byteOf=_
  simp [byteOf,ih]
theorem abE:aj P0 (.fn (.func vU) [] []) [] [] ⟨0,0⟩=.ret (.b true) []:=by
 have e1:=xP P0 200 _ _ _ _ _ afx (by simp)
 have e2:=xP P0 200 _ _ _ _ _ afw (by simp)
 have e3:=xP P0 200 _ _ _ _ _ afv (by simp)
 have e4:=xP P0 200 _ _ _ _ _ adG (by simp)
 have e5:=xP P0 200 _ _ _ _ _ adF (by simp)
 have e6:=xP P0 200 _ _ _ _ _ afu (by simp)
 have e7:=xP P0 200 _ _ _ _ _ afy (by simp)
 have h49:List.range 49=[0,1,2,3,4,5,6,7,8,9,10,11,12,13,14,15,16,17,18,19,20,21,22,23,24,25,26,27,28,29,30,31,32,33,34,35,36,37,38,39,40,41,42,43,44,45,46,47,48]:=rfl
 have h20:List.range 20=[0,1,2,3,4,5,6,7,8,9,10,11,12,13,14,15,16,17,18,19]:=rfl
 refine RY (by simp) ?_
 simp [af,xq,e1,e2,e3,e4,e5,e6,e7,h49,h20,jS,splice,ade]
end Go.Ai.Z
