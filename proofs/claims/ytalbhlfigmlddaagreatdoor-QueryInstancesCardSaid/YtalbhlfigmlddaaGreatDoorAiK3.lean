/-
 Concepts: what the program's check answers.
-/
import Derived.Test.YtalbhlfigmlddaaGreatDoorAiK1K2
set_option maxRecDepth 100000
set_option linter.unusedSimpArgs false
set_option linter.unusedVariables false
set_option linter.unusedSectionVars false
namespace Go.Ai.Z
def oC (c:C):Int:=if zK c=false then 21 else if MW c=false then 20 else 0
theorem UW:P0.glob yR=some [.i .i64 0,.i .i64 0,.i .i64 0,.b false,.i .i64 0,.i .i64 0,.i .i64 0,.b false,.i .i64 0,.i .i64 0,.i .i64 0,.b false,.i .i64 1,.i .i64 0,.i .i64 0,.b false,.i .i64 2,.i .i64 0,.i .i64 0,.b false,.i .i64 0,.i .i64 2,.i .i64 8,.b false,.i .i64 1,.i .i64 1,.i .i64 1,.b false,.i .i64 1,.i .i64 0,.i .i64 0,.b true]:=rfl
theorem D5 (c:C) (hn:c.name.length≤1152921504606846976) (s:St) (cx:Ctx):aj P0 (.fn (.func jX) [] []) [iM c] s cx=.ret (.i .i64 (oC c)) s:=by
 refine Cb (by simp) ?_
 have e1:=yc c.name hn
 by_cases h0:c.kind<1
 ·have:zK c=false:=by simp [zK,show ¬c.kind=1 by omega,show ¬c.kind=2 by omega,show ¬c.kind=3 by omega,show ¬c.kind=4 by omega,show ¬c.kind=5 by omega,show ¬c.kind=6 by omega,show ¬c.kind=7 by omega]
  simp [ah,iG,h0,oC,this]
 by_cases h8:7<c.kind
 ·have:zK c=false:=by simp [zK,show ¬c.kind=1 by omega,show ¬c.kind=2 by omega,show ¬c.kind=3 by omega,show ¬c.kind=4 by omega,show ¬c.kind=5 by omega,show ¬c.kind=6 by omega,show ¬c.kind=7 by omega]
  simp [ah,iG,h0,h8,oC,this]
 have hk:c.kind=1∨c.kind=2∨c.kind=3∨c.kind=4∨c.kind=5∨c.kind=6∨c.kind=7:=by omega
 rcases hps:c.parts with _|⟨a,_|⟨b,r⟩⟩<;>rcases hk with hk|hk|hk|hk|hk|hk|hk
 all_goals
  clear h0 h8
  simp [ah,iG,hk,UW,oC,zK,MW,hps]
  repeat' (first | (split<;>(try simp only [dW,dX,dY,iK,iL])<;>(try simp [*])) | (simp only [dW,dX,dY,iK,iL]<;>(try simp [*]))|omega)
end Go.Ai.Z
