/-
 The program in the small language: written by program.
-/
import Derived.Test.YtpnlnnfcaeednaaGreatDoorAiDat
import Derived.Test.YtpnlnnfcaeednaaGreatDoorAiC1
set_option maxRecDepth 100000
set_option linter.unusedSimpArgs false
set_option linter.unusedVariables false
set_option linter.unusedSectionVars false
namespace Go.Ai.Z
def Jc:List (Nat×dA):=
 [(kS,dQ),
  (xR,Ik),
  (lG,iL),
  (mZ,iU),
  (sQ,kM),
  (oJ,lD),
  (vF,eY),
  (rF,zG),
  (sO,bH),
  (bP,dY),
  (kF,qE),
  (iR,jl),
  (aO,jb),
  (iT,kL),
  (aX,nX),
  (pX,uX),
  (eX,pq),
  (gV,lV),
  (lJ,oz),
  (vT,um),
  (jv,jg),
  (qW,sK),
  (oI,tJ),
  (qX,vX),
  (l9,nP),
  (bI,gY),
  (dO,aJ),
  (aF,lS),
  (o8,qC),
  (fP,lN),
  (jD,iG),
  (jq,ja),
  (je,fM),
  (gJ,jm),
  (iQ,ji),
  (jr,jc),
  (mY,jP),
  (lF,jk),
  (fA,dM),
  (gK,bJ),
  (jL,dU),
  (mg,lH),
  (qY,nC),
  (pW,uP),
  (sN,qL),
  (jo,jO),
  (su,sU),
  (vw,yJ),
  (jW,sJ),
  (mO,oU),
  (nT,kK),
  (gU,pR),
  (dG,eu),
  (dP,fD),
  (iP,oh),
  (xO,kX),
  (mP,vO),
  (aH,iD),
  (fV,ig),
  (lK,oC),
  (nZ,oq),
  (aG,ay),
  (aZ,aQ),
  (o7,vW),
  (nN,uV),
  (bg,bW),
  (dW,fO),
  (bC,bU),
  (aI,bQ),
  (dH,iJ),
  (bV,gQ),
  (ai,qc),
  (vC,Bc),
  (wP,zl),
  (wO,zk),
  (Eb,Ij),
  (mX,nJ),
  (kQ,nD),
  (nU,mQ),
  (o9,nK),
  (aT,qf),
  (jE,tK),
  (yV,xG),
  (mW,iZ),
  (qV,vV),
  (xP,yK),
  (iH,fF),
  (ng,jQ),
  (mr,qF)]
def QK:List (Nat×List AV):=
 [(BL,[.i .i64 0,.i .i64 0,.i .i64 0,.b false,.i .i64 0,.i .i64 0,.i .i64 0,.b false,.i .i64 0,.i .i64 0,.i .i64 0,.b false,.i .i64 1,.i .i64 0,.i .i64 0,.b false,.i .i64 2,.i .i64 0,.i .i64 0,.b false,.i .i64 0,.i .i64 2,.i .i64 8,.b false,.i .i64 1,.i .i64 1,.i .i64 1,.b false,.i .i64 1,.i .i64 0,.i .i64 0,.b true]),
  (vk,[.b false,.b false,.b false,.b false,.b false,.i .i64 0,.i .i64 0,
   .b true,.b true,.b false,.b false,.b false,.i .i64 0,.i .i64 0,
   .b true,.b true,.b false,.b false,.b false,.i .i64 0,.i .i64 0,
   .b true,.b true,.b false,.b false,.b false,.i .i64 0,.i .i64 0,
   .b false,.b true,.b true,.b false,.b false,.i .i64 0,.i .i64 0,
   .b false,.b false,.b true,.b false,.b false,.i .i64 1,.i .i64 1,
   .b false,.b false,.b true,.b false,.b false,.i .i64 2,.i .i64 4,
   .b false,.b false,.b true,.b false,.b false,.i .i64 0,.i .i64 0,
   .b false,.b true,.b false,.b true,.b false,.i .i64 0,.i .i64 0,
   .b false,.b false,.b true,.b true,.b true,.i .i64 0,.i .i64 0])]
def FO:List (Nat×(List AV→St→Option AV)):=
 [(nO,Ia U3),(jM,Ia yQ),(AQ,Ia W9)]
def QB:List (Nat×HiK):=
 [(dB,.sortK 7),(xQ,.tryK (.tu [.ag [.i .i64 0,.i .i64 0],.b false]) 112)]
def Cm:List (Nat×(List AV→St→Option AV)):=
 [(jM,Ia yQ)]
def P0:uG:=⟨fun f=>Jc.lookup f,fun k=>QK.lookup k,fun f=>FO.lookup f,fun f=>QB.lookup f,fun f=>Cm.lookup f⟩
def Pq:uG:=P0.quiet
theorem go {f:Nat} {fn:dA} (hi:FO.lookup f=none) (hh:QB.lookup f=none) (hf:Jc.lookup f=some fn) {as cs args:List AV} {s:St} {cx:Ctx} {o:CO} (ho:o≠.fail)
  (h:af P0.glob (ah P0) fn (as++args++cs) s cx=o):ah P0 (.fn (.func f) as cs) args s cx=o:=MI hi hh hf ho h
theorem goq {f:Nat} {fn:dA} (hi:Cm.lookup f=none) (hf:Jc.lookup f=some fn) {as cs args:List AV} {s:St} {cx:Ctx} {o:CO} (ho:o≠.fail)
  (h:af Pq.glob (ah Pq) fn (as++args++cs) s cx=o):ah Pq (.fn (.func f) as cs) args s cx=o:=MI (A:=Pq) hi rfl hf ho h
def Go1 (A:uG) (f:Nat) (fn:dA):Prop:=∀{as cs args:List AV} {s:St} {cx:Ctx} {o:CO},o≠.fail→af A.glob (ah A) fn (as++args++cs) s cx=o→ah A (.fn (.func f) as cs) args s cx=o
theorem go1 {f:Nat} {fn:dA} (hi:FO.lookup f=none) (hh:QB.lookup f=none) (hf:Jc.lookup f=some fn):Go1 P0 f fn:=fun ho h=>go hi hh hf ho h
theorem y9:Go1 P0 kS dQ:=go1 rfl rfl rfl
theorem Aq:Go1 P0 lG iL:=go1 rfl rfl rfl
theorem OA:Go1 P0 mZ iU:=go1 rfl rfl rfl
theorem LU:Go1 P0 sQ kM:=go1 rfl rfl rfl
theorem J3:Go1 P0 oJ lD:=go1 rfl rfl rfl
theorem RX:Go1 P0 vF eY:=go1 rfl rfl rfl
theorem U5:Go1 P0 rF zG:=go1 rfl rfl rfl
theorem LQ:Go1 P0 sO bH:=go1 rfl rfl rfl
theorem mD:Go1 P0 bP dY:=go1 rfl rfl rfl
theorem Hz:Go1 P0 kF qE:=go1 rfl rfl rfl
theorem CS:Go1 P0 iR jl:=go1 rfl rfl rfl
theorem tH:Go1 P0 aO jb:=go1 rfl rfl rfl
theorem CU:Go1 P0 iT kL:=go1 rfl rfl rfl
theorem DU:Go1 P0 aX nX:=go1 rfl rfl rfl
theorem LV:Go1 P0 pX uX:=go1 rfl rfl rfl
theorem EN:Go1 P0 eX pq:=go1 rfl rfl rfl
theorem wG:Go1 P0 gV lV:=go1 rfl rfl rfl
theorem LJ:Go1 P0 lJ oz:=go1 rfl rfl rfl
theorem QJ:Go1 P0 vT um:=go1 rfl rfl rfl
theorem zH:Go1 P0 jv jg:=go1 rfl rfl rfl
theorem Ox:Go1 P0 qW sK:=go1 rfl rfl rfl
theorem JY:Go1 P0 oI tJ:=go1 rfl rfl rfl
theorem Oy:Go1 P0 qX vX:=go1 rfl rfl rfl
theorem Hu:Go1 P0 l9 nP:=go1 rfl rfl rfl
theorem BH:Go1 P0 bI gY:=go1 rfl rfl rfl
theorem CQ:Go1 P0 dO aJ:=go1 rfl rfl rfl
theorem yg:Go1 P0 aF lS:=go1 rfl rfl rfl
theorem Hy:Go1 P0 o8 qC:=go1 rfl rfl rfl
theorem EK:Go1 P0 fP lN:=go1 rfl rfl rfl
theorem wX:Go1 P0 jD iG:=go1 rfl rfl rfl
theorem EL:Go1 P0 jq ja:=go1 rfl rfl rfl
theorem DV:Go1 P0 je fM:=go1 rfl rfl rfl
theorem Am:Go1 P0 gJ jm:=go1 rfl rfl rfl
theorem CP:Go1 P0 iQ ji:=go1 rfl rfl rfl
theorem EM:Go1 P0 jr jc:=go1 rfl rfl rfl
theorem yh:Go1 P0 mY jP:=go1 rfl rfl rfl
theorem qQ:Go1 P0 lF jk:=go1 rfl rfl rfl
theorem rO:Go1 P0 fA dM:=go1 rfl rfl rfl
theorem Ap:Go1 P0 gK bJ:=go1 rfl rfl rfl
theorem oZ:Go1 P0 jL dU:=go1 rfl rfl rfl
theorem Hw:Go1 P0 mg lH:=go1 rfl rfl rfl
theorem JX:Go1 P0 qY nC:=go1 rfl rfl rfl
theorem LM:Go1 P0 pW uP:=go1 rfl rfl rfl
theorem LK:Go1 P0 sN qL:=go1 rfl rfl rfl
theorem EJ:Go1 P0 jo jO:=go1 rfl rfl rfl
theorem RS:Go1 P0 su sU:=go1 rfl rfl rfl
theorem RP:Go1 P0 vw yJ:=go1 rfl rfl rfl
theorem Eh:Go1 P0 jW sJ:=go1 rfl rfl rfl
theorem FT:Go1 P0 mO oU:=go1 rfl rfl rfl
theorem FU:Go1 P0 nT kK:=go1 rfl rfl rfl
theorem Oz:Go1 P0 gU pR:=go1 rfl rfl rfl
theorem qA:Go1 P0 dG eu:=go1 rfl rfl rfl
theorem rD:Go1 P0 dP fD:=go1 rfl rfl rfl
theorem vP:Go1 P0 iP oh:=go1 rfl rfl rfl
theorem sV:Go1 P0 xO kX:=go1 rfl rfl rfl
theorem RQ:Go1 P0 mP vO:=go1 rfl rfl rfl
theorem EH:Go1 P0 aH iD:=go1 rfl rfl rfl
theorem Ja:Go1 P0 fV ig:=go1 rfl rfl rfl
theorem LW:Go1 P0 lK oC:=go1 rfl rfl rfl
theorem RY:Go1 P0 nZ oq:=go1 rfl rfl rfl
theorem kN:Go1 P0 aG ay:=go1 rfl rfl rfl
theorem kU:Go1 P0 aZ aQ:=go1 rfl rfl rfl
theorem Ov:Go1 P0 o7 vW:=go1 rfl rfl rfl
theorem LP:Go1 P0 nN uV:=go1 rfl rfl rfl
theorem jF:Go1 P0 bg bW:=go1 rfl rfl rfl
theorem ou:Go1 P0 dW fO:=go1 rfl rfl rfl
theorem iO:Go1 P0 bC bU:=go1 rfl rfl rfl
theorem jC:Go1 P0 aI bQ:=go1 rfl rfl rfl
theorem vS:Go1 P0 dH iJ:=go1 rfl rfl rfl
theorem uw:Go1 P0 bV gQ:=go1 rfl rfl rfl
theorem FV:Go1 P0 ai qc:=go1 rfl rfl rfl
theorem y8:Go1 P0 mX nJ:=go1 rfl rfl rfl
theorem Bf:Go1 P0 kQ nD:=go1 rfl rfl rfl
theorem yR:Go1 P0 nU mQ:=go1 rfl rfl rfl
theorem vZ:Go1 P0 o9 nK:=go1 rfl rfl rfl
theorem Bg:Go1 P0 aT qf:=go1 rfl rfl rfl
theorem JZ:Go1 P0 jE tK:=go1 rfl rfl rfl
theorem U6:Go1 P0 yV xG:=go1 rfl rfl rfl
theorem EI:Go1 P0 mW iZ:=go1 rfl rfl rfl
theorem Ou:Go1 P0 qV vV:=go1 rfl rfl rfl
theorem RU:Go1 P0 xP yK:=go1 rfl rfl rfl
theorem xZ:Go1 P0 iH fF:=go1 rfl rfl rfl
theorem EO:Go1 P0 ng jQ:=go1 rfl rfl rfl
theorem HY:Go1 P0 mr qF:=go1 rfl rfl rfl
theorem ach {f:Nat} {fn:dA} (hi:Cm.lookup f=none) (hf:Jc.lookup f=some fn):Go1 Pq f fn:=fun ho h=>goq hi hf ho h
theorem DT:Go1 Pq aH iD:=ach rfl rfl
theorem QE:Go1 Pq nZ oq:=ach rfl rfl
theorem Ht:Go1 Pq fV ig:=ach rfl rfl
theorem JW:Go1 Pq lK oC:=ach rfl rfl
theorem kD:Go1 Pq aG ay:=ach rfl rfl
end Go.Ai.Z
