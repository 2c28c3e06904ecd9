/-
 The structure of the example's axioms.
-/
import Derived.Test.YtpihciomhfoafaaGreatDoorAiPE1PE2PE3PE4
import Derived.Test.YtpihciomhfoafaaGreatDoorAiPE5PE7
import Derived.Test.YtpihciomhfoafaaGreatDoorAiPE6
import Derived.Test.YtpihciomhfoafaaGreatDoorAiPE8
import Derived.Test.YtpihciomhfoafaaGreatDoorAiSxD
import Derived.Test.YtpihciomhfoafaaGreatDoorAiB1
import Derived.Test.YtpihciomhfoafaaGreatDoorAiPE10
import Derived.Test.YtpihciomhfoafaaGreatDoorAiPE11
import Derived.Test.YtpihciomhfoafaaGreatDoorAiPE13
import Derived.Test.YtpihciomhfoafaaGreatDoorAiPE14PE15
set_option maxRecDepth 100000
set_option linter.unusedSimpArgs false
set_option linter.unusedVariables false
set_option linter.unusedSectionVars false
namespace Go.Ai.Z
theorem XU:eX P0 (.fn (.func pW) [] []) [.sl [.ag [.i .i64 8,.b false,.i .i64 0,.s [],.i .i64 0,.i .i64 0,.ns,.i .i64 3,.s [65],.i .i64 0,.i .i64 0,.ns,.ns,.s [],.s [97],.s []],.ag [.i .i64 8,.b false,.i .i64 0,.s [],.i .i64 0,.i .i64 0,.ns,.i .i64 3,.s [66],.i .i64 0,.i .i64 0,.ns,.ns,.s [],.s [98],.s []],.ag [.i .i64 8,.b false,.i .i64 0,.s [],.i .i64 0,.i .i64 0,.ns,.i .i64 3,.s [66],.i .i64 0,.i .i64 0,.ns,.ns,.s [],.s [97],.s []]]] [] ⟨0,0⟩=.ret (.tu [.ag [.sl [.s [123,97,125],.s [123,98,125]],.sl [.ag [.i .i64 1,.s [123,97,125],.s [42],.s [],.i .i64 0,.i .i64 0],.ag [.i .i64 1,.s [123,97,125],.s [65],.s [],.i .i64 0,.i .i64 0],.ag [.i .i64 1,.s [123,97,125],.s [66],.s [],.i .i64 0,.i .i64 0],.ag [.i .i64 1,.s [123,97,125],.s [123,97,125],.s [],.i .i64 0,.i .i64 0],.ag [.i .i64 1,.s [123,98,125],.s [42],.s [],.i .i64 0,.i .i64 0],.ag [.i .i64 1,.s [123,98,125],.s [66],.s [],.i .i64 0,.i .i64 0],.ag [.i .i64 1,.s [123,98,125],.s [123,98,125],.s [],.i .i64 0,.i .i64 0]],.ns,.ns,.ns,.ns],.i .i64 0]) []:=by
 have e1:=kC P0 300 _ _ _ _ _ abM (by simp)
 have e2:=kC P0 300 _ _ _ _ _ abL (by simp)
 have e3:=kC P0 300 _ _ _ _ _ abK (by simp)
 have e4:=kC P0 300 _ _ _ _ _ abJ (by simp)
 have e5:=kC P0 300 _ _ _ _ _ abI (by simp)
 have e6:=kC P0 300 _ _ _ _ _ abH (by simp)
 have e7:=kC P0 300 _ _ _ _ _ abG (by simp)
 have e8:=kC P0 300 _ _ _ _ _ abE (by simp)
 refine O7 (by simp) ?_
 simp -implicitDefEqProofs [gK,sF,zQ,OU,jT,jU,kz,qP,qQ,e1,e2,e3,e4,e5,e6,e7,e8,xB,w64]
end Go.Ai.Z
namespace Go.Ai.Z
theorem Wv:eX P0 (.fn (.func oI) [] []) [] [] ⟨0,0⟩=.ret (.b true) []:=by
 have e0:=XU
 have e1:=kC P0 300 _ _ _ _ _ Zc (by simp)
 have e2:=kC P0 300 _ _ _ _ _ Zb (by simp)
 have e3:=kC P0 300 _ _ _ _ _ Za (by simp)
 have e4:=kC P0 300 _ _ _ _ _ Y9 (by simp)
 have e5:=kC P0 300 _ _ _ _ _ Y8 (by simp)
 have h2:List.range 2=[0,1]:=rfl
 have h3:List.range 3=[0,1,2]:=rfl
 refine Qc (by simp) ?_
 simp -implicitDefEqProofs [gK,vF,jT,jU,kz,qP,qQ,e0,e1,e2,e3,e4,e5,h2,h3,xB]
end Go.Ai.Z
