/-
 The program in the small language: written by program.
-/
import Derived.Test.YtcofenimejmoeaaGreatDoorAiDat
import Derived.Test.YtcofenimejmoeaaGreatDoorAiC1
set_option maxRecDepth 100000
set_option linter.unusedSimpArgs false
set_option linter.unusedVariables false
set_option linter.unusedSectionVars false
namespace Go.Ai.Z
def Ru:List (Nat×bM):=
 [(pO,iW),
  (yh,Iz),
  (sZ,vC),
  (gG,aA),
  (bK,qI),
  (aO,kD),
  (pI,ou),
  (xg,BN),
  (lm,o9),
  (wB,iJ),
  (qY,oN),
  (uU,nN),
  (qX,mZ),
  (vK,jW),
  (qW,wK),
  (bU,lQ),
  (aN,rZ),
  (aH,lN),
  (aP,dO),
  (qc,uH),
  (jr,jc),
  (lV,nC),
  (oP,vw),
  (kK,oI),
  (fD,dH),
  (fO,fB),
  (lW,kV),
  (dP,nD),
  (aU,dN),
  (gW,iT),
  (iF,kH),
  (iY,jy),
  (jG,jl),
  (kX,dF),
  (pK,oz),
  (iE,jd),
  (jF,jh),
  (kY,jk),
  (kL,o8),
  (gB,dS),
  (iU,mG),
  (kM,kW),
  (jL,ji),
  (ig,iV),
  (jM,aS),
  (lX,dh),
  (wE,iK),
  (lM,aY),
  (nH,ay),
  (pJ,dG),
  (jq,kZ),
  (qR,mO),
  (oO,vk),
  (sW,qG),
  (lD,nR),
  (qP,sS),
  (nT,ug),
  (qQ,wJ),
  (tq,vG),
  (jK,rX),
  (lT,ng),
  (kJ,jS),
  (sK,tJ),
  (vJ,y9),
  (jo,sQ),
  (mg,oh),
  (nG,kG),
  (fM,oM),
  (bQ,dI),
  (cO,dR),
  (uV,l9),
  (lU,ny),
  (wF,uM),
  (gZ,gV),
  (gK,iI),
  (eu,bJ),
  (dU,fK),
  (iM,eX),
  (jO,dJ),
  (fA,jX),
  (iZ,BO),
  (oG,BP),
  (xC,Af),
  (pG,oq),
  (qV,uj),
  (xB,Ae),
  (qf,uJ),
  (oD,qy),
  (pz,rY),
  (pF,zf),
  (qU,uh)]
def Ld:List (Nat×List AV):=
 [(CQ,[.i .i64 0,.i .i64 0,.i .i64 0,.b false,.i .i64 0,.i .i64 0,.i .i64 0,.b false,.i .i64 0,.i .i64 0,.i .i64 0,.b false,.i .i64 1,.i .i64 0,.i .i64 0,.b false,.i .i64 2,.i .i64 0,.i .i64 0,.b false,.i .i64 0,.i .i64 2,.i .i64 8,.b false,.i .i64 1,.i .i64 1,.i .i64 1,.b false,.i .i64 1,.i .i64 0,.i .i64 0,.b true]),
(yc,[.b false,.b false,.b false,.b false,.b false,.i .i64 0,.i .i64 0,
   .b true,.b true,.b false,.b false,.b false,.i .i64 0,.i .i64 0,
   .b true,.b true,.b false,.b false,.b false,.i .i64 0,.i .i64 0,
   .b true,.b true,.b false,.b false,.b false,.i .i64 0,.i .i64 0,
   .b false,.b true,.b true,.b false,.b false,.i .i64 0,.i .i64 0,
   .b false,.b false,.b true,.b false,.b false,.i .i64 1,.i .i64 1,
   .b false,.b false,.b true,.b false,.b false,.i .i64 2,.i .i64 4,
   .b false,.b false,.b true,.b false,.b false,.i .i64 0,.i .i64 0,
   .b false,.b true,.b false,.b true,.b false,.i .i64 0,.i .i64 0,
   .b false,.b false,.b true,.b true,.b true,.i .i64 0,.i .i64 0]),
(yY,[.i .u64 1,.i .u64 10,.i .u64 100,.i .u64 1000,.i .u64 10000,.i .u64 100000,.i .u64 1000000,.i .u64 10000000,.i .u64 100000000,.i .u64 1000000000,.i .u64 10000000000,.i .u64 100000000000,.i .u64 1000000000000,.i .u64 10000000000000,.i .u64 100000000000000,.i .u64 1000000000000000,.i .u64 10000000000000000,.i .u64 100000000000000000,.i .u64 1000000000000000000,.i .u64 10000000000000000000])]
def FZ:List (Nat×(List AV→St→Option AV)):=
 [(yg,Ip XK),(Bj,Ip XL),(jZ,Ip VT),(Bl,Ip XM),(bP,XJ 91),(jB,GZ [91])]
def Q7:List (Nat×HiK):=
 [(kP,.sortS)]
def abI:List (Nat×(List AV→St→Option AV)):=
 []
def vH:AV→Option (List (List AV)):=fun | .ifc t (.ag [.i .i64 a,.i .i64 c])=>if t=rF then some [[.ns],[.s []],[.i .i64 a],[.i .i64 c]] else none | _=>none
def rV:GH:=zy vH
def Lu:List (Nat×GH):=
 [(qg,rV)]
def P0:uX:=⟨fun f=>Ru.lookup f,fun k=>Ld.lookup k,fun f=>FZ.lookup f,fun f=>Q7.lookup f,fun f=>abI.lookup f,fun f=>Lu.lookup f⟩
theorem go {f:Nat} {fn:bM} (hi:FZ.lookup f=none) (hh:Q7.lookup f=none) (hd:Lu.lookup f=none) (hf:Ru.lookup f=some fn) {as cs args:List AV} {s:St} {cx:Ctx} {o:CO} (ho:o≠.fail)
  (h:af P0.glob (aj P0) fn (as++args++cs) s cx=o):aj P0 (.fn (.func f) as cs) args s cx=o:=U7 hi hh hd hf ho h
def Go1 (A:uX) (f:Nat) (fn:bM):Prop:=∀{as cs args:List AV} {s:St} {cx:Ctx} {o:CO},o≠.fail→af A.glob (aj A) fn (as++args++cs) s cx=o→aj A (.fn (.func f) as cs) args s cx=o
theorem go1 {f:Nat} {fn:bM} (hi:FZ.lookup f=none) (hh:Q7.lookup f=none) (hd:Lu.lookup f=none) (hf:Ru.lookup f=some fn):Go1 P0 f fn:=fun ho h=>go hi hh hd hf ho h
theorem E5:Go1 P0 pO iW:=go1 rfl rfl rfl rfl
theorem Nc:Go1 P0 sZ vC:=go1 rfl rfl rfl rfl
theorem Bv:Go1 P0 gG aA:=go1 rfl rfl rfl rfl
theorem Nb:Go1 P0 bK qI:=go1 rfl rfl rfl rfl
theorem Jz:Go1 P0 aO kD:=go1 rfl rfl rfl rfl
theorem Jw:Go1 P0 pI ou:=go1 rfl rfl rfl rfl
theorem XU:Go1 P0 xg BN:=go1 rfl rfl rfl rfl
theorem Gf:Go1 P0 lm o9:=go1 rfl rfl rfl rfl
theorem Rj:Go1 P0 wB iJ:=go1 rfl rfl rfl rfl
theorem Pj:Go1 P0 qY oN:=go1 rfl rfl rfl rfl
theorem VW:Go1 P0 uU nN:=go1 rfl rfl rfl rfl
theorem Ph:Go1 P0 qX mZ:=go1 rfl rfl rfl rfl
theorem Tv:Go1 P0 vK jW:=go1 rfl rfl rfl rfl
theorem Pg:Go1 P0 qW wK:=go1 rfl rfl rfl rfl
theorem JD:Go1 P0 bU lQ:=go1 rfl rfl rfl rfl
theorem JA:Go1 P0 aN rZ:=go1 rfl rfl rfl rfl
theorem Ju:Go1 P0 aH lN:=go1 rfl rfl rfl rfl
theorem JB:Go1 P0 aP dO:=go1 rfl rfl rfl rfl
theorem Ri:Go1 P0 qc uH:=go1 rfl rfl rfl rfl
theorem Ag:Go1 P0 jr jc:=go1 rfl rfl rfl rfl
theorem H6:Go1 P0 lV nC:=go1 rfl rfl rfl rfl
theorem Na:Go1 P0 oP vw:=go1 rfl rfl rfl rfl
theorem EX:Go1 P0 kK oI:=go1 rfl rfl rfl rfl
theorem wV:Go1 P0 fD dH:=go1 rfl rfl rfl rfl
theorem xH:Go1 P0 fO fB:=go1 rfl rfl rfl rfl
theorem La:Go1 P0 lW kV:=go1 rfl rfl rfl rfl
theorem H8:Go1 P0 dP nD:=go1 rfl rfl rfl rfl
theorem EZ:Go1 P0 aU dN:=go1 rfl rfl rfl rfl
theorem CP:Go1 P0 gW iT:=go1 rfl rfl rfl rfl
theorem Dy:Go1 P0 iF kH:=go1 rfl rfl rfl rfl
theorem Eh:Go1 P0 iY jy:=go1 rfl rfl rfl rfl
theorem Gh:Go1 P0 jG jl:=go1 rfl rfl rfl rfl
theorem Jy:Go1 P0 kX dF:=go1 rfl rfl rfl rfl
theorem JF:Go1 P0 pK oz:=go1 rfl rfl rfl rfl
theorem Dx:Go1 P0 iE jd:=go1 rfl rfl rfl rfl
theorem F9:Go1 P0 jF jh:=go1 rfl rfl rfl rfl
theorem JC:Go1 P0 kY jk:=go1 rfl rfl rfl rfl
theorem KZ:Go1 P0 kL o8:=go1 rfl rfl rfl rfl
theorem H9:Go1 P0 gB dS:=go1 rfl rfl rfl rfl
theorem Gi:Go1 P0 iU mG:=go1 rfl rfl rfl rfl
theorem Lc:Go1 P0 kM kW:=go1 rfl rfl rfl rfl
theorem Jv:Go1 P0 jL ji:=go1 rfl rfl rfl rfl
theorem EY:Go1 P0 ig iV:=go1 rfl rfl rfl rfl
theorem JE:Go1 P0 jM aS:=go1 rfl rfl rfl rfl
theorem Ia:Go1 P0 lX dh:=go1 rfl rfl rfl rfl
theorem Rk:Go1 P0 wE iK:=go1 rfl rfl rfl rfl
theorem dW:Go1 P0 lM aY:=go1 rfl rfl rfl rfl
theorem Gg:Go1 P0 nH ay:=go1 rfl rfl rfl rfl
theorem gu:Go1 P0 pJ dG:=go1 rfl rfl rfl rfl
theorem HY:Go1 P0 jq kZ:=go1 rfl rfl rfl rfl
theorem KU:Go1 P0 qR mO:=go1 rfl rfl rfl rfl
theorem MZ:Go1 P0 oO vk:=go1 rfl rfl rfl rfl
theorem MX:Go1 P0 sW qG:=go1 rfl rfl rfl rfl
theorem MW:Go1 P0 lD nR:=go1 rfl rfl rfl rfl
theorem O7:Go1 P0 qP sS:=go1 rfl rfl rfl rfl
theorem KW:Go1 P0 nT ug:=go1 rfl rfl rfl rfl
theorem O8:Go1 P0 qQ wJ:=go1 rfl rfl rfl rfl
theorem Nh:Go1 P0 tq vG:=go1 rfl rfl rfl rfl
theorem Js:Go1 P0 jK rX:=go1 rfl rfl rfl rfl
theorem Hz:Go1 P0 lT ng:=go1 rfl rfl rfl rfl
theorem EW:Go1 P0 kJ jS:=go1 rfl rfl rfl rfl
theorem Tq:Go1 P0 sK tJ:=go1 rfl rfl rfl rfl
theorem Tn:Go1 P0 vJ y9:=go1 rfl rfl rfl rfl
theorem EK:Go1 P0 jo sQ:=go1 rfl rfl rfl rfl
theorem F6:Go1 P0 mg oh:=go1 rfl rfl rfl rfl
theorem F7:Go1 P0 nG kG:=go1 rfl rfl rfl rfl
theorem O9:Go1 P0 fM oM:=go1 rfl rfl rfl rfl
theorem pX:Go1 P0 bQ dI:=go1 rfl rfl rfl rfl
theorem rq:Go1 P0 cO dR:=go1 rfl rfl rfl rfl
theorem VY:Go1 P0 uV l9:=go1 rfl rfl rfl rfl
theorem zQ:Go1 P0 lU ny:=go1 rfl rfl rfl rfl
theorem Gj:Go1 P0 wF uM:=go1 rfl rfl rfl rfl
theorem yQ:Go1 P0 gZ gV:=go1 rfl rfl rfl rfl
theorem sV:Go1 P0 gK iI:=go1 rfl rfl rfl rfl
theorem qj:Go1 P0 eu bJ:=go1 rfl rfl rfl rfl
theorem xM:Go1 P0 dU fK:=go1 rfl rfl rfl rfl
theorem rC:Go1 P0 iM eX:=go1 rfl rfl rfl rfl
theorem eU:Go1 P0 jO dJ:=go1 rfl rfl rfl rfl
theorem Rn:Go1 P0 fA jX:=go1 rfl rfl rfl rfl
theorem XV:Go1 P0 iZ BO:=go1 rfl rfl rfl rfl
theorem XW:Go1 P0 oG BP:=go1 rfl rfl rfl rfl
theorem VX:Go1 P0 xC Af:=go1 rfl rfl rfl rfl
theorem AZ:Go1 P0 pG oq:=go1 rfl rfl rfl rfl
theorem KY:Go1 P0 qV uj:=go1 rfl rfl rfl rfl
theorem VU:Go1 P0 xB Ae:=go1 rfl rfl rfl rfl
theorem F8:Go1 P0 qf uJ:=go1 rfl rfl rfl rfl
theorem H7:Go1 P0 oD qy:=go1 rfl rfl rfl rfl
theorem Jt:Go1 P0 pz rY:=go1 rfl rfl rfl rfl
theorem Tt:Go1 P0 pF zf:=go1 rfl rfl rfl rfl
theorem KX:Go1 P0 qU uh:=go1 rfl rfl rfl rfl
end Go.Ai.Z
