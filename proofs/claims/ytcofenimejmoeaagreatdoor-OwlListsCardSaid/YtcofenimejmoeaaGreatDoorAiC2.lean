/-
 The program in the small language: written by program.
-/
import Derived.Test.YtcofenimejmoeaaGreatDoorAiDat
import Derived.Test.YtcofenimejmoeaaGreatDoorAiC1
set_option maxRecDepth 100000
set_option linter.unusedSimpArgs false
set_option linter.unusedVariables false
set_option linter.unusedSectionVars false
namespace Go.Ai.Z
def NC:List (Nat×bJ):=
 [(rJ,jC),
  (uU,Eo),
  (pV,rD),
  (eX,au),
  (bG,nX),
  (aO,jd),
  (mV,lK),
  (tN,yH),
  (jJ,mM),
  (sD,fU),
  (oI,lY),
  (qU,lm),
  (oH,kU),
  (rH,ja),
  (oG,sK),
  (bI,jT),
  (aN,o7),
  (aH,jS),
  (aP,dH),
  (nI,qL),
  (iq,gI),
  (jW,kX),
  (l7,rq),
  (ji,lV),
  (dV,dn),
  (dZ,dR),
  (jY,jA),
  (dI,kY),
  (aT,dG),
  (fC,gu),
  (fO,jh),
  (gG,iE),
  (iK,gY),
  (jG,cO),
  (mX,lM),
  (fM,gJ),
  (iJ,gV),
  (jH,gX),
  (jk,mJ),
  (eU,dK),
  (gy,kF),
  (jl,jB),
  (iQ,gW),
  (fG,gB),
  (iR,aQ),
  (jZ,bM),
  (sF,fV),
  (jR,aX),
  (lg,ak),
  (mW,dh),
  (jV,jI),
  (oC,kN),
  (lZ,qZ),
  (pU,nT),
  (jL,lF),
  (ou,pK),
  (lH,qA),
  (oz,sJ),
  (pW,rE),
  (iP,o5),
  (jU,kW),
  (fF,iV),
  (pG,pY),
  (rG,vY),
  (kL,sH),
  (nH,nS),
  (kZ,jg),
  (dY,lX),
  (bH,dA),
  (bK,dJ),
  (Dq,G5),
  (tK,wS),
  (y5,Cm),
  (kM,nV),
  (lC,pO),
  (jX,nM),
  (gQ,mF),
  (kV,oM),
  (Dp,GZ),
  (iw,CB),
  (iL,JJ),
  (pI,JK),
  (yO,GX),
  (jF,o6),
  (mQ,vZ),
  (oD,qB)]
def Hq:List (Nat×List AV):=
 [(yZ,[.i .i64 0,.i .i64 0,.i .i64 0,.b false,.i .i64 0,.i .i64 0,.i .i64 0,.b false,.i .i64 0,.i .i64 0,.i .i64 0,.b false,.i .i64 1,.i .i64 0,.i .i64 0,.b false,.i .i64 2,.i .i64 0,.i .i64 0,.b false,.i .i64 0,.i .i64 2,.i .i64 8,.b false,.i .i64 1,.i .i64 1,.i .i64 1,.b false,.i .i64 1,.i .i64 0,.i .i64 0,.b true]),
(uQ,[.b false,.b false,.b false,.b false,.b false,.i .i64 0,.i .i64 0,
   .b true,.b true,.b false,.b false,.b false,.i .i64 0,.i .i64 0,
   .b true,.b true,.b false,.b false,.b false,.i .i64 0,.i .i64 0,
   .b true,.b true,.b false,.b false,.b false,.i .i64 0,.i .i64 0,
   .b false,.b true,.b true,.b false,.b false,.i .i64 0,.i .i64 0,
   .b false,.b false,.b true,.b false,.b false,.i .i64 1,.i .i64 1,
   .b false,.b false,.b true,.b false,.b false,.i .i64 2,.i .i64 4,
   .b false,.b false,.b true,.b false,.b false,.i .i64 0,.i .i64 0,
   .b false,.b true,.b false,.b true,.b false,.i .i64 0,.i .i64 0,
   .b false,.b false,.b true,.b true,.b true,.i .i64 0,.i .i64 0]),
(vV,[.i .u64 1,.i .u64 10,.i .u64 100,.i .u64 1000,.i .u64 10000,.i .u64 100000,.i .u64 1000000,.i .u64 10000000,.i .u64 100000000,.i .u64 1000000000,.i .u64 10000000000,.i .u64 100000000000,.i .u64 1000000000000,.i .u64 10000000000000,.i .u64 100000000000000,.i .u64 1000000000000000,.i .u64 10000000000000000,.i .u64 100000000000000000,.i .u64 1000000000000000000,.i .u64 10000000000000000000])]
def CG:List (Nat×(List AV→St→Option AV)):=
 [(x9,Jv Zv),(Dn,Jv Zw),(jc,Jv QF),(yc,Jv Tq),(dw,Wl 91),(jE,KZ [91])]
def Nl:List (Nat×HiK):=
 [(qG,.sortS)]
def Xx:List (Nat×(List AV→St→Option AV)):=
 []
def rF:AV→Option (List (List AV)):=fun | .ifc t (.ag [.i .i64 a,.i .i64 c])=>if t=oP then some [[.ns],[.s []],[.i .i64 a],[.i .i64 c]] else none | _=>none
def oW:Du:=wG rF
def H6:List (Nat×Du):=
 [(lT,oW)]
def P0:qV:=⟨fun f=>NC.lookup f,fun k=>Hq.lookup k,fun f=>CG.lookup f,fun f=>Nl.lookup f,fun f=>Xx.lookup f,fun f=>H6.lookup f⟩
theorem go {f:Nat} {fn:bJ} (hi:CG.lookup f=none) (hh:Nl.lookup f=none) (hd:H6.lookup f=none) (hf:NC.lookup f=some fn) {as cs args:List AV} {s:St} {cx:Ctx} {o:CO} (ho:o≠.fail)
  (h:af P0.glob (aj P0) fn (as++args++cs) s cx=o):aj P0 (.fn (.func f) as cs) args s cx=o:=P8 hi hh hd hf ho h
def Go1 (A:qV) (f:Nat) (fn:bJ):Prop:=∀{as cs args:List AV} {s:St} {cx:Ctx} {o:CO},o≠.fail→af A.glob (aj A) fn (as++args++cs) s cx=o→aj A (.fn (.func f) as cs) args s cx=o
theorem go1 {f:Nat} {fn:bJ} (hi:CG.lookup f=none) (hh:Nl.lookup f=none) (hd:H6.lookup f=none) (hf:NC.lookup f=some fn):Go1 P0 f fn:=fun ho h=>go hi hh hd hf ho h
theorem Ho:Go1 P0 rJ jC:=go1 rfl rfl rfl rfl
theorem I9:Go1 P0 pV rD:=go1 rfl rfl rfl rfl
theorem yu:Go1 P0 eX au:=go1 rfl rfl rfl rfl
theorem I8:Go1 P0 bG nX:=go1 rfl rfl rfl rfl
theorem FI:Go1 P0 aO jd:=go1 rfl rfl rfl rfl
theorem FD:Go1 P0 mV lK:=go1 rfl rfl rfl rfl
theorem TF:Go1 P0 tN yH:=go1 rfl rfl rfl rfl
theorem CS:Go1 P0 jJ mM:=go1 rfl rfl rfl rfl
theorem Nu:Go1 P0 sD fU:=go1 rfl rfl rfl rfl
theorem KL:Go1 P0 oI lY:=go1 rfl rfl rfl rfl
theorem QG:Go1 P0 qU lm:=go1 rfl rfl rfl rfl
theorem KJ:Go1 P0 oH kU:=go1 rfl rfl rfl rfl
theorem OC:Go1 P0 rH ja:=go1 rfl rfl rfl rfl
theorem KI:Go1 P0 oG sK:=go1 rfl rfl rfl rfl
theorem FO:Go1 P0 bI jT:=go1 rfl rfl rfl rfl
theorem FK:Go1 P0 aN o7:=go1 rfl rfl rfl rfl
theorem FB:Go1 P0 aH jS:=go1 rfl rfl rfl rfl
theorem FM:Go1 P0 aP dH:=go1 rfl rfl rfl rfl
theorem Ns:Go1 P0 nI qL:=go1 rfl rfl rfl rfl
theorem xu:Go1 P0 iq gI:=go1 rfl rfl rfl rfl
theorem D6:Go1 P0 jW kX:=go1 rfl rfl rfl rfl
theorem I7:Go1 P0 l7 rq:=go1 rfl rfl rfl rfl
theorem BB:Go1 P0 ji lV:=go1 rfl rfl rfl rfl
theorem sZ:Go1 P0 dV dn:=go1 rfl rfl rfl rfl
theorem uo:Go1 P0 dZ dR:=go1 rfl rfl rfl rfl
theorem Hg:Go1 P0 jY jA:=go1 rfl rfl rfl rfl
theorem D7:Go1 P0 dI kY:=go1 rfl rfl rfl rfl
theorem BF:Go1 P0 aT dG:=go1 rfl rfl rfl rfl
theorem yV:Go1 P0 fC gu:=go1 rfl rfl rfl rfl
theorem zB:Go1 P0 fO jh:=go1 rfl rfl rfl rfl
theorem Aw:Go1 P0 gG iE:=go1 rfl rfl rfl rfl
theorem CV:Go1 P0 iK gY:=go1 rfl rfl rfl rfl
theorem FH:Go1 P0 jG cO:=go1 rfl rfl rfl rfl
theorem FQ:Go1 P0 mX lM:=go1 rfl rfl rfl rfl
theorem zA:Go1 P0 fM gJ:=go1 rfl rfl rfl rfl
theorem CQ:Go1 P0 iJ gV:=go1 rfl rfl rfl rfl
theorem FN:Go1 P0 jH gX:=go1 rfl rfl rfl rfl
theorem Hf:Go1 P0 jk mJ:=go1 rfl rfl rfl rfl
theorem D8:Go1 P0 eU dK:=go1 rfl rfl rfl rfl
theorem CW:Go1 P0 gy kF:=go1 rfl rfl rfl rfl
theorem Hl:Go1 P0 jl jB:=go1 rfl rfl rfl rfl
theorem FC:Go1 P0 iQ gW:=go1 rfl rfl rfl rfl
theorem BD:Go1 P0 fG gB:=go1 rfl rfl rfl rfl
theorem FP:Go1 P0 iR aQ:=go1 rfl rfl rfl rfl
theorem D9:Go1 P0 jZ bM:=go1 rfl rfl rfl rfl
theorem Nv:Go1 P0 sF fV:=go1 rfl rfl rfl rfl
theorem dM:Go1 P0 jR aX:=go1 rfl rfl rfl rfl
theorem CU:Go1 P0 lg ak:=go1 rfl rfl rfl rfl
theorem eP:Go1 P0 mW dh:=go1 rfl rfl rfl rfl
theorem D5:Go1 P0 jV jI:=go1 rfl rfl rfl rfl
theorem G8:Go1 P0 oC kN:=go1 rfl rfl rfl rfl
theorem I5:Go1 P0 lZ qZ:=go1 rfl rfl rfl rfl
theorem I4:Go1 P0 pU nT:=go1 rfl rfl rfl rfl
theorem IZ:Go1 P0 jL lF:=go1 rfl rfl rfl rfl
theorem KF:Go1 P0 ou pK:=go1 rfl rfl rfl rfl
theorem G9:Go1 P0 lH qA:=go1 rfl rfl rfl rfl
theorem KG:Go1 P0 oz sJ:=go1 rfl rfl rfl rfl
theorem Ja:Go1 P0 pW rE:=go1 rfl rfl rfl rfl
theorem Fv:Go1 P0 iP o5:=go1 rfl rfl rfl rfl
theorem DZ:Go1 P0 jU kW:=go1 rfl rfl rfl rfl
theorem BA:Go1 P0 fF iV:=go1 rfl rfl rfl rfl
theorem OA:Go1 P0 pG pY:=go1 rfl rfl rfl rfl
theorem Oz:Go1 P0 rG vY:=go1 rfl rfl rfl rfl
theorem KE:Go1 P0 kL sH:=go1 rfl rfl rfl rfl
theorem Nr:Go1 P0 nH nS:=go1 rfl rfl rfl rfl
theorem CP:Go1 P0 kZ jg:=go1 rfl rfl rfl rfl
theorem KH:Go1 P0 dY lX:=go1 rfl rfl rfl rfl
theorem nD:Go1 P0 bH dA:=go1 rfl rfl rfl rfl
theorem oL:Go1 P0 bK dJ:=go1 rfl rfl rfl rfl
theorem Fz:Go1 P0 jF o6:=go1 rfl rfl rfl rfl
theorem OB:Go1 P0 mQ vZ:=go1 rfl rfl rfl rfl
theorem He:Go1 P0 oD qB:=go1 rfl rfl rfl rfl
end Go.Ai.Z
