/-
 The program in the small language: written by program.
-/
import Derived.Test.YtdjjghikaijfpaaGreatDoorAiDat
import Derived.Test.YtdjjghikaijfpaaGreatDoorAiC1
set_option maxRecDepth 100000
set_option linter.unusedSimpArgs false
set_option linter.unusedVariables false
set_option linter.unusedSectionVars false
namespace Go.Ai.Z
def UC:List (Nat×aO):=
 [(oh,bJ),
  (yj,J7),
  (fB,aJ),
  (oG,uM),
  (nO,qc),
  (jV,qA),
  (uD,vU),
  (kQ,oN),
  (dO,qY),
  (jU,ng),
  (pU,uf),
  (iq,gI),
  (qF,rM),
  (nD,sO),
  (qG,vT),
  (oH,uP),
  (kL,lY),
  (kN,lZ),
  (gq,oL),
  (fD,eG),
  (lX,ny),
  (vN,nI),
  (qK,fM),
  (su,jo),
  (nG,jD),
  (uX,dA),
  (qU,Aq),
  (rZ,aT),
  (mZ,lG),
  (nR,gm),
  (pF,aH),
  (vK,xI),
  (jr,jZ),
  (rY,qB),
  (uF,rO),
  (kR,dY),
  (nP,vV),
  (pz,kG),
  (bP,eU),
  (fQ,dV),
  (jG,kH),
  (iR,mF),
  (dN,bg),
  (nS,jJ),
  (kM,jI),
  (qH,lM),
  (oD,uK),
  (rW,qx),
  (jq,iM),
  (rG,sF),
  (xY,y9),
  (lI,vS),
  (pR,qw),
  (mr,jh),
  (fA,oz),
  (bC,cu),
  (bK,dD),
  (lK,iP),
  (uz,lV),
  (qI,lN),
  (vJ,xG),
  (rX,uN),
  (ig,aV),
  (vM,ug),
  (yh,sG),
  (aY,dL),
  (gK,iZ),
  (kX,zf),
  (yg,F7),
  (Dw,H8),
  (o8,yA),
  (FP,J6),
  (uw,yx),
  (bI,dW),
  (vX,Ed),
  (pG,nV),
  (iT,mG),
  (fZ,jW),
  (gW,kV),
  (jY,uj),
  (nZ,xK),
  (jX,uh),
  (bn,wU),
  (mP,wW),
  (dP,Ee),
  (mO,wV),
  (nY,xJ),
  (mQ,wX),
  (jH,sV),
  (kZ,vg),
  (mV,wY),
  (lS,vG),
  (jw,rP),
  (kY,ve),
  (mW,wZ),
  (vC,zA),
  (kP,Ac),
  (o9,yB),
  (wM,Aa),
  (yc,F6),
  (nX,xH),
  (Dx,H9),
  (nT,dZ),
  (jL,oO),
  (uV,vF),
  (qJ,sQ),
  (fC,dw),
  (eu,lC),
  (bY,lF),
  (pq,qZ),
  (gu,oQ),
  (eF,oU),
  (gV,dK),
  (jO,jk),
  (jQ,aU),
  (jP,jl),
  (jM,lD),
  (iH,jm)]
def MX:List (Nat×List AV):=
 [(Dv,[.i .i64 0,.i .i64 0,.i .i64 0,.b false,.i .i64 0,.i .i64 0,.i .i64 0,.b false,.i .i64 0,.i .i64 0,.i .i64 0,.b false,.i .i64 1,.i .i64 0,.i .i64 0,.b false,.i .i64 2,.i .i64 0,.i .i64 0,.b false,.i .i64 0,.i .i64 2,.i .i64 8,.b false,.i .i64 1,.i .i64 1,.i .i64 1,.b false,.i .i64 1,.i .i64 0,.i .i64 0,.b true]),
  (xX,[.b false,.b false,.b false,.b false,.b false,.i .i64 0,.i .i64 0,
   .b true,.b true,.b false,.b false,.b false,.i .i64 0,.i .i64 0,
   .b true,.b true,.b false,.b false,.b false,.i .i64 0,.i .i64 0,
   .b true,.b true,.b false,.b false,.b false,.i .i64 0,.i .i64 0,
   .b false,.b true,.b true,.b false,.b false,.i .i64 0,.i .i64 0,
   .b false,.b false,.b true,.b false,.b false,.i .i64 1,.i .i64 1,
   .b false,.b false,.b true,.b false,.b false,.i .i64 2,.i .i64 4,
   .b false,.b false,.b true,.b false,.b false,.i .i64 0,.i .i64 0,
   .b false,.b true,.b false,.b true,.b false,.i .i64 0,.i .i64 0,
   .b false,.b false,.b true,.b true,.b true,.i .i64 0,.i .i64 0]),
  (y5,[.i .u64 1,.i .u64 10,.i .u64 100,.i .u64 1000,.i .u64 10000,.i .u64 100000,.i .u64 1000000,.i .u64 10000000,.i .u64 100000000,.i .u64 1000000000,.i .u64 10000000000,.i .u64 100000000000,.i .u64 1000000000000,.i .u64 10000000000000,.i .u64 100000000000000,.i .u64 1000000000000000,.i .u64 10000000000000000,.i .u64 100000000000000000,.i .u64 1000000000000000000,.i .u64 10000000000000000000]),
  (zi,[.s [97,115,107],.s [99,111,117,110,116],.s [119,104,121],.s [100,105,102,102,101,114],.s [109,101,114,103,101]])]
def Ia:List (Nat×(List AV→St→Option AV)):=
 [(lJ,Bj Y6),(fP,Bj Y7),(jb,Bj XG),(xZ,Bj Y8),(tC,Bj BB),(zW,Bj XH)]
def Uk:List (Nat×HiK):=
 [(jv,.sortS),(FQ,.readK fC 200 (.ag [.ns,.ns]))]
def acJ:List (Nat×(List AV→St→Option AV)):=
 []
def yQ:AV→Option (List (List AV)):=fun | .ifc t (.ag [.i .i64 c])=>if t=rV then some [[.i .i64 0,.i .i64 0,.ns,.ns,.ns],[.i .i64 c]] else none | _=>none
def Eb:I9:=QN yQ
def Nq:List (Nat×I9):=
 [(BZ,Eb)]
def P0:uG:=⟨fun f=>UC.lookup f,fun k=>MX.lookup k,fun f=>Ia.lookup f,fun f=>Uk.lookup f,fun f=>acJ.lookup f,fun f=>Nq.lookup f⟩
theorem go {f:Nat} {fn:aO} (hi:Ia.lookup f=none) (hh:Uk.lookup f=none) (hd:Nq.lookup f=none) (hf:UC.lookup f=some fn) {as cs args:List AV} {s:St} {cx:Ctx} {o:CO} (ho:o≠.fail)
  (h:af P0.glob (aj P0) fn (as++args++cs) s cx=o):aj P0 (.fn (.func f) as cs) args s cx=o:=WX hi hh hd hf ho h
def Go1 (A:uG) (f:Nat) (fn:aO):Prop:=∀{as cs args:List AV} {s:St} {cx:Ctx} {o:CO},o≠.fail→af A.glob (aj A) fn (as++args++cs) s cx=o→aj A (.fn (.func f) as cs) args s cx=o
theorem go1 {f:Nat} {fn:aO} (hi:Ia.lookup f=none) (hh:Uk.lookup f=none) (hd:Nq.lookup f=none) (hf:UC.lookup f=some fn):Go1 P0 f fn:=fun ho h=>go hi hh hd hf ho h
theorem Fp:Go1 P0 oh bJ:=go1 rfl rfl rfl rfl
theorem Gy:Go1 P0 fB aJ:=go1 rfl rfl rfl rfl
theorem OX:Go1 P0 oG uM:=go1 rfl rfl rfl rfl
theorem JO:Go1 P0 nO qc:=go1 rfl rfl rfl rfl
theorem Eg:Go1 P0 jV qA:=go1 rfl rfl rfl rfl
theorem QX:Go1 P0 uD vU:=go1 rfl rfl rfl rfl
theorem MS:Go1 P0 kQ oN:=go1 rfl rfl rfl rfl
theorem La:Go1 P0 dO qY:=go1 rfl rfl rfl rfl
theorem OU:Go1 P0 jU ng:=go1 rfl rfl rfl rfl
theorem Ur:Go1 P0 pU uf:=go1 rfl rfl rfl rfl
theorem Ar:Go1 P0 iq gI:=go1 rfl rfl rfl rfl
theorem QT:Go1 P0 qF rM:=go1 rfl rfl rfl rfl
theorem MQ:Go1 P0 nD sO:=go1 rfl rfl rfl rfl
theorem QU:Go1 P0 qG vT:=go1 rfl rfl rfl rfl
theorem O4:Go1 P0 oH uP:=go1 rfl rfl rfl rfl
theorem JL:Go1 P0 kL lY:=go1 rfl rfl rfl rfl
theorem JQ:Go1 P0 kN lZ:=go1 rfl rfl rfl rfl
theorem Ih:Go1 P0 gq oL:=go1 rfl rfl rfl rfl
theorem xq:Go1 P0 fD eG:=go1 rfl rfl rfl rfl
theorem OZ:Go1 P0 lX ny:=go1 rfl rfl rfl rfl
theorem Uw:Go1 P0 vN nI:=go1 rfl rfl rfl rfl
theorem Q5:Go1 P0 qK fM:=go1 rfl rfl rfl rfl
theorem O3:Go1 P0 su jo:=go1 rfl rfl rfl rfl
theorem MW:Go1 P0 nG jD:=go1 rfl rfl rfl rfl
theorem VI:Go1 P0 uX dA:=go1 rfl rfl rfl rfl
theorem XJ:Go1 P0 qU Aq:=go1 rfl rfl rfl rfl
theorem O1:Go1 P0 rZ aT:=go1 rfl rfl rfl rfl
theorem Ux:Go1 P0 mZ lG:=go1 rfl rfl rfl rfl
theorem JS:Go1 P0 nR gm:=go1 rfl rfl rfl rfl
theorem Le:Go1 P0 pF aH:=go1 rfl rfl rfl rfl
theorem Ut:Go1 P0 vK xI:=go1 rfl rfl rfl rfl
theorem GH:Go1 P0 jr jZ:=go1 rfl rfl rfl rfl
theorem O0:Go1 P0 rY qB:=go1 rfl rfl rfl rfl
theorem QZ:Go1 P0 uF rO:=go1 rfl rfl rfl rfl
theorem JR:Go1 P0 kR dY:=go1 rfl rfl rfl rfl
theorem QY:Go1 P0 nP vV:=go1 rfl rfl rfl rfl
theorem Ld:Go1 P0 pz kG:=go1 rfl rfl rfl rfl
theorem xM:Go1 P0 bP eU:=go1 rfl rfl rfl rfl
theorem qQ:Go1 P0 fQ dV:=go1 rfl rfl rfl rfl
theorem wG:Go1 P0 jG kH:=go1 rfl rfl rfl rfl
theorem Fh:Go1 P0 iR mF:=go1 rfl rfl rfl rfl
theorem pW:Go1 P0 dN bg:=go1 rfl rfl rfl rfl
theorem JU:Go1 P0 nS jJ:=go1 rfl rfl rfl rfl
theorem JM:Go1 P0 kM jI:=go1 rfl rfl rfl rfl
theorem MP:Go1 P0 qH lM:=go1 rfl rfl rfl rfl
theorem OW:Go1 P0 oD uK:=go1 rfl rfl rfl rfl
theorem OV:Go1 P0 rW qx:=go1 rfl rfl rfl rfl
theorem Gw:Go1 P0 jq iM:=go1 rfl rfl rfl rfl
theorem VE:Go1 P0 rG sF:=go1 rfl rfl rfl rfl
theorem VD:Go1 P0 xY y9:=go1 rfl rfl rfl rfl
theorem QS:Go1 P0 lI vS:=go1 rfl rfl rfl rfl
theorem Uo:Go1 P0 pR qw:=go1 rfl rfl rfl rfl
theorem Ig:Go1 P0 mr jh:=go1 rfl rfl rfl rfl
theorem QV:Go1 P0 fA oz:=go1 rfl rfl rfl rfl
theorem pK:Go1 P0 bC cu:=go1 rfl rfl rfl rfl
theorem qM:Go1 P0 bK dD:=go1 rfl rfl rfl rfl
theorem GI:Go1 P0 lK iP:=go1 rfl rfl rfl rfl
theorem QW:Go1 P0 uz lV:=go1 rfl rfl rfl rfl
theorem MR:Go1 P0 qI lN:=go1 rfl rfl rfl rfl
theorem Us:Go1 P0 vJ xG:=go1 rfl rfl rfl rfl
theorem OY:Go1 P0 rX uN:=go1 rfl rfl rfl rfl
theorem Gx:Go1 P0 ig aV:=go1 rfl rfl rfl rfl
theorem Uu:Go1 P0 vM ug:=go1 rfl rfl rfl rfl
theorem VH:Go1 P0 yh sG:=go1 rfl rfl rfl rfl
theorem kJ:Go1 P0 aY dL:=go1 rfl rfl rfl rfl
theorem zS:Go1 P0 gK iZ:=go1 rfl rfl rfl rfl
theorem VF:Go1 P0 kX zf:=go1 rfl rfl rfl rfl
theorem GK:Go1 P0 pG nV:=go1 rfl rfl rfl rfl
theorem Fj:Go1 P0 iT mG:=go1 rfl rfl rfl rfl
theorem CG:Go1 P0 fZ jW:=go1 rfl rfl rfl rfl
theorem Dt:Go1 P0 gW kV:=go1 rfl rfl rfl rfl
theorem JV:Go1 P0 nT dZ:=go1 rfl rfl rfl rfl
theorem Ii:Go1 P0 jL oO:=go1 rfl rfl rfl rfl
theorem VG:Go1 P0 uV vF:=go1 rfl rfl rfl rfl
theorem MV:Go1 P0 qJ sQ:=go1 rfl rfl rfl rfl
theorem Gz:Go1 P0 fC dw:=go1 rfl rfl rfl rfl
theorem Ij:Go1 P0 eu lC:=go1 rfl rfl rfl rfl
theorem zF:Go1 P0 bY lF:=go1 rfl rfl rfl rfl
theorem Lc:Go1 P0 pq qZ:=go1 rfl rfl rfl rfl
theorem Io:Go1 P0 gu oQ:=go1 rfl rfl rfl rfl
theorem Iq:Go1 P0 eF oU:=go1 rfl rfl rfl rfl
theorem Dq:Go1 P0 gV dK:=go1 rfl rfl rfl rfl
theorem Il:Go1 P0 jO jk:=go1 rfl rfl rfl rfl
theorem Ir:Go1 P0 jQ aU:=go1 rfl rfl rfl rfl
theorem Ip:Go1 P0 jP jl:=go1 rfl rfl rfl rfl
theorem Ik:Go1 P0 jM lD:=go1 rfl rfl rfl rfl
theorem Eh:Go1 P0 iH jm:=go1 rfl rfl rfl rfl
end Go.Ai.Z
