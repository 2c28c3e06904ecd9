/-
 The program in the small language: written by program.
-/
import Derived.Test.YtcofenimejmoeaaGreatDoorAiDat
import Derived.Test.YtcofenimejmoeaaGreatDoorAiC1
set_option maxRecDepth 100000
set_option linter.unusedSimpArgs false
set_option linter.unusedVariables false
set_option linter.unusedSectionVars false
namespace Go.Ai.Z
def P7:List (Nat×aW):=
 [(mr,gm),
  (wH,G5),
  (yE,BU),
  (mV,rW),
  (bQ,BR),
  (aY,zG),
  (vZ,zD),
  (zZ,MB),
  (sG,xY),
  (Bq,EL),
  (wG,DX),
  (uP,kH),
  (Aa,DW),
  (DK,GZ),
  (wF,DV),
  (cu,zL),
  (aO,zH),
  (aF,zB),
  (aZ,zI),
  (mO,qP),
  (gQ,gu),
  (jy,jW),
  (lN,rC),
  (lZ,wO),
  (iT,kY),
  (jd,lF),
  (xE,AO),
  (fB,yF),
  (dN,wQ),
  (nU,sU),
  (jc,uM),
  (qi,vM),
  (sJ,x9),
  (wo,zF),
  (wE,zN),
  (oU,uK),
  (sF,xX),
  (wu,zJ),
  (xC,AL),
  (gK,yG),
  (sK,yc),
  (xG,AP),
  (vY,zC),
  (qX,wP),
  (wB,zM),
  (oV,yH),
  (Bv,EM),
  (qg,vK),
  (sH,xZ),
  (wz,zK),
  (gJ,je),
  (nO,jM),
  (lM,rq),
  (pJ,nD),
  (jl,kP),
  (nM,pz),
  (kR,qm),
  (nN,tH),
  (pO,rM),
  (iD,oG),
  (jv,jU),
  (iP,iF),
  (oN,pU),
  (rV,xI),
  (gI,pq),
  (jE,kW),
  (jZ,iM),
  (eU,lJ),
  (bJ,dn),
  (bM,dG),
  (uU,jD),
  (jw,jV),
  (tq,qR),
  (fH,fD),
  (fC,fM),
  (dO,bG),
  (dH,eP),
  (fP,dW),
  (iE,dw),
  (dZ,iH),
  (gq,AQ),
  (lC,AU),
  (uQ,yU),
  (mg,kX),
  (nT,qA),
  (uO,yS),
  (mP,qQ),
  (sV,iZ),
  (l7,oH),
  (lm,jX),
  (lu,jh),
  (qW,tK),
  (pX,vH),
  (kN,nH),
  (oP,sQ),
  (nR,tJ),
  (pK,rF),
  (pW,vG),
  (jL,tN),
  (nS,iw),
  (iQ,lD),
  (mQ,vJ),
  (oQ,xK),
  (oO,xJ),
  (sW,vz),
  (sZ,vC),
  (jF,mJ),
  (kM,jI),
  (gy,sS),
  (nP,pF),
  (fF,bF),
  (dh,fV),
  (dU,sO),
  (l9,rD)]
def JD:List (Nat×List AV):=
 [(Bo,[.i .i64 0,.i .i64 0,.i .i64 0,.b false,.i .i64 0,.i .i64 0,.i .i64 0,.b false,.i .i64 0,.i .i64 0,.i .i64 0,.b false,.i .i64 1,.i .i64 0,.i .i64 0,.b false,.i .i64 2,.i .i64 0,.i .i64 0,.b false,.i .i64 0,.i .i64 2,.i .i64 8,.b false,.i .i64 1,.i .i64 1,.i .i64 1,.b false,.i .i64 1,.i .i64 0,.i .i64 0,.b true]),
(vW,[.b false,.b false,.b false,.b false,.b false,.i .i64 0,.i .i64 0,
   .b true,.b true,.b false,.b false,.b false,.i .i64 0,.i .i64 0,
   .b true,.b true,.b false,.b false,.b false,.i .i64 0,.i .i64 0,
   .b true,.b true,.b false,.b false,.b false,.i .i64 0,.i .i64 0,
   .b false,.b true,.b true,.b false,.b false,.i .i64 0,.i .i64 0,
   .b false,.b false,.b true,.b false,.b false,.i .i64 1,.i .i64 1,
   .b false,.b false,.b true,.b false,.b false,.i .i64 2,.i .i64 4,
   .b false,.b false,.b true,.b false,.b false,.i .i64 0,.i .i64 0,
   .b false,.b true,.b false,.b true,.b false,.i .i64 0,.i .i64 0,
   .b false,.b false,.b true,.b true,.b true,.i .i64 0,.i .i64 0]),
(xB,[.i .u64 1,.i .u64 10,.i .u64 100,.i .u64 1000,.i .u64 10000,.i .u64 100000,.i .u64 1000000,.i .u64 10000000,.i .u64 100000000,.i .u64 1000000000,.i .u64 10000000000,.i .u64 100000000000,.i .u64 1000000000000,.i .u64 10000000000000,.i .u64 100000000000000,.i .u64 1000000000000000,.i .u64 10000000000000000,.i .u64 100000000000000000,.i .u64 1000000000000000000,.i .u64 10000000000000000000])]
def EN:List (Nat×(List AV→St→Option AV)):=
 [(vX,LQ VK),(zY,LQ VL),(iJ,LQ Uw),(FB,LQ aaG),(bH,VJ 91),(gW,FT [91])]
def PD:List (Nat×HiK):=
 [(iR,.sortS)]
def YT:List (Nat×(List AV→St→Option AV)):=
 []
def Dp:AV→Option (List (List AV)):=fun | .ifc t (.ag [.i .i64 a,.i .i64 c])=>if t=yu then some [[.ns],[.s []],[.i .i64 a],[.i .i64 c]] else none | _=>none
def Ju:FD:=VI Dp
def JK:List (Nat×FD):=
 [(uG,Ju)]
def P0:qY:=⟨fun f=>P7.lookup f,fun k=>JD.lookup k,fun f=>EN.lookup f,fun f=>PD.lookup f,fun f=>YT.lookup f,fun f=>JK.lookup f⟩
theorem go {f:Nat} {fn:aW} (hi:EN.lookup f=none) (hh:PD.lookup f=none) (hd:JK.lookup f=none) (hf:P7.lookup f=some fn) {as cs args:List AV} {s:St} {cx:Ctx} {o:CO} (ho:o≠.fail)
  (h:af P0.glob (ai P0) fn (as++args++cs) s cx=o):ai P0 (.fn (.func f) as cs) args s cx=o:=TN hi hh hd hf ho h
def Go1 (A:qY) (f:Nat) (fn:aW):Prop:=∀{as cs args:List AV} {s:St} {cx:Ctx} {o:CO},o≠.fail→af A.glob (ai A) fn (as++args++cs) s cx=o→ai A (.fn (.func f) as cs) args s cx=o
theorem go1 {f:Nat} {fn:aW} (hi:EN.lookup f=none) (hh:PD.lookup f=none) (hd:JK.lookup f=none) (hf:P7.lookup f=some fn):Go1 P0 f fn:=fun ho h=>go hi hh hd hf ho h
theorem Eh:Go1 P0 mr gm:=go1 rfl rfl rfl rfl
theorem Uy:Go1 P0 uP kH:=go1 rfl rfl rfl rfl
theorem PK:Go1 P0 mO qP:=go1 rfl rfl rfl rfl
theorem yV:Go1 P0 gQ gu:=go1 rfl rfl rfl rfl
theorem Gm:Go1 P0 jy jW:=go1 rfl rfl rfl rfl
theorem KO:Go1 P0 lN rC:=go1 rfl rfl rfl rfl
theorem Gl:Go1 P0 gJ je:=go1 rfl rfl rfl rfl
theorem Jy:Go1 P0 nO jM:=go1 rfl rfl rfl rfl
theorem KN:Go1 P0 lM rq:=go1 rfl rfl rfl rfl
theorem KL:Go1 P0 pJ nD:=go1 rfl rfl rfl rfl
theorem KJ:Go1 P0 jl kP:=go1 rfl rfl rfl rfl
theorem NC:Go1 P0 nM pz:=go1 rfl rfl rfl rfl
theorem Jz:Go1 P0 kR qm:=go1 rfl rfl rfl rfl
theorem ND:Go1 P0 nN tH:=go1 rfl rfl rfl rfl
theorem KR:Go1 P0 pO rM:=go1 rfl rfl rfl rfl
theorem Iu:Go1 P0 iD oG:=go1 rfl rfl rfl rfl
theorem Gj:Go1 P0 jv jU:=go1 rfl rfl rfl rfl
theorem Ef:Go1 P0 iP iF:=go1 rfl rfl rfl rfl
theorem Q5:Go1 P0 oN pU:=go1 rfl rfl rfl rfl
theorem QZ:Go1 P0 rV xI:=go1 rfl rfl rfl rfl
theorem DY:Go1 P0 gI pq:=go1 rfl rfl rfl rfl
theorem ES:Go1 P0 jE kW:=go1 rfl rfl rfl rfl
theorem ET:Go1 P0 jZ iM:=go1 rfl rfl rfl rfl
theorem NE:Go1 P0 eU lJ:=go1 rfl rfl rfl rfl
theorem mM:Go1 P0 bJ dn:=go1 rfl rfl rfl rfl
theorem nX:Go1 P0 bM dG:=go1 rfl rfl rfl rfl
theorem UA:Go1 P0 uU jD:=go1 rfl rfl rfl rfl
theorem yI:Go1 P0 jw jV:=go1 rfl rfl rfl rfl
theorem EW:Go1 P0 tq qR:=go1 rfl rfl rfl rfl
theorem xq:Go1 P0 fH fD:=go1 rfl rfl rfl rfl
theorem pI:Go1 P0 fC fM:=go1 rfl rfl rfl rfl
theorem mW:Go1 P0 dO bG:=go1 rfl rfl rfl rfl
theorem vN:Go1 P0 dH eP:=go1 rfl rfl rfl rfl
theorem nZ:Go1 P0 fP dW:=go1 rfl rfl rfl rfl
theorem dS:Go1 P0 iE dw:=go1 rfl rfl rfl rfl
theorem PY:Go1 P0 dZ iH:=go1 rfl rfl rfl rfl
theorem VR:Go1 P0 gq AQ:=go1 rfl rfl rfl rfl
theorem VS:Go1 P0 lC AU:=go1 rfl rfl rfl rfl
theorem Uz:Go1 P0 uQ yU:=go1 rfl rfl rfl rfl
theorem zQ:Go1 P0 mg kX:=go1 rfl rfl rfl rfl
theorem JC:Go1 P0 nT qA:=go1 rfl rfl rfl rfl
theorem Ux:Go1 P0 uO yS:=go1 rfl rfl rfl rfl
theorem EU:Go1 P0 mP qQ:=go1 rfl rfl rfl rfl
theorem PL:Go1 P0 sV iZ:=go1 rfl rfl rfl rfl
theorem Iw:Go1 P0 l7 oH:=go1 rfl rfl rfl rfl
theorem Gn:Go1 P0 lm jX:=go1 rfl rfl rfl rfl
theorem Gp:Go1 P0 lu jh:=go1 rfl rfl rfl rfl
theorem NI:Go1 P0 qW tK:=go1 rfl rfl rfl rfl
theorem PW:Go1 P0 pX vH:=go1 rfl rfl rfl rfl
theorem PV:Go1 P0 kN nH:=go1 rfl rfl rfl rfl
theorem Rf:Go1 P0 oP sQ:=go1 rfl rfl rfl rfl
theorem NH:Go1 P0 nR tJ:=go1 rfl rfl rfl rfl
theorem KQ:Go1 P0 pK rF:=go1 rfl rfl rfl rfl
theorem PU:Go1 P0 pW vG:=go1 rfl rfl rfl rfl
theorem NJ:Go1 P0 jL tN:=go1 rfl rfl rfl rfl
theorem JB:Go1 P0 nS iw:=go1 rfl rfl rfl rfl
theorem Eg:Go1 P0 iQ lD:=go1 rfl rfl rfl rfl
theorem PX:Go1 P0 mQ vJ:=go1 rfl rfl rfl rfl
theorem Ri:Go1 P0 oQ xK:=go1 rfl rfl rfl rfl
theorem Q8:Go1 P0 oO xJ:=go1 rfl rfl rfl rfl
theorem PN:Go1 P0 sW vz:=go1 rfl rfl rfl rfl
theorem PS:Go1 P0 sZ vC:=go1 rfl rfl rfl rfl
theorem Q9:Go1 P0 jF mJ:=go1 rfl rfl rfl rfl
theorem PO:Go1 P0 kM jI:=go1 rfl rfl rfl rfl
theorem Rh:Go1 P0 gy sS:=go1 rfl rfl rfl rfl
theorem NG:Go1 P0 nP pF:=go1 rfl rfl rfl rfl
theorem bW:Go1 P0 fF bF:=go1 rfl rfl rfl rfl
theorem KP:Go1 P0 dh fV:=go1 rfl rfl rfl rfl
theorem Q7:Go1 P0 dU sO:=go1 rfl rfl rfl rfl
theorem JA:Go1 P0 l9 rD:=go1 rfl rfl rfl rfl
end Go.Ai.Z
