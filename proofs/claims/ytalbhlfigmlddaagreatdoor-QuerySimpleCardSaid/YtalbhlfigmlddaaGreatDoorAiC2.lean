/-
 The program in the small language: written by program.
-/
import Derived.Test.YtalbhlfigmlddaaGreatDoorAiDat
import Derived.Test.YtalbhlfigmlddaaGreatDoorAiC1
set_option maxRecDepth 100000
set_option linter.unusedSimpArgs false
set_option linter.unusedVariables false
set_option linter.unusedSectionVars false
namespace Go.Ai.Z
def EG:List (Nat×aP):=
 [(lS,dU),
  (sD,tZ),
  (jR,Ba),
  (xw,zM),
  (vF,yG),
  (tV,xH),
  (vX,Dy),
  (qZ,FH),
  (vC,yF),
  (eG,jq),
  (kz,eH),
  (kZ,aC),
  (qE,rU),
  (fE,iU),
  (dP,nD),
  (iQ,jS),
  (qB,oQ),
  (fF,fA),
  (mF,nT),
  (jU,oG),
  (mG,qH),
  (kL,pV),
  (jd,jH),
  (iL,kQ),
  (dD,cu),
  (nZ,l7),
  (pF,nV),
  (je,bY),
  (jZ,qI),
  (kY,ja),
  (aY,dw),
  (eF,bV),
  (fV,jb),
  (gB,jL),
  (bK,aQ),
  (kC,iJ),
  (gQ,iI),
  (mJ,jy),
  (kK,pO),
  (nX,lW),
  (gY,gm),
  (nR,oq),
  (rX,tY),
  (jr,qG),
  (lG,lV),
  (jJ,gV),
  (dB,kG),
  (aT,bn),
  (aX,bJ),
  (jw,gu),
  (mO,jF),
  (mM,jA),
  (qC,rQ),
  (nY,pR),
  (oC,A8),
  (zF,Dw),
  (jv,lY),
  (jM,nU),
  (su,zL),
  (vW,Dx),
  (iH,kF),
  (jG,pU),
  (fB,dG),
  (iR,jT),
  (dF,bG),
  (fG,iK),
  (sF,qy),
  (gU,jQ),
  (xZ,A7),
  (vz,yE),
  (qK,yC),
  (bD,dO),
  (pX,xG),
  (uP,nH),
  (kX,nG),
  (mP,fH),
  (tN,qV),
  (pz,sK),
  (eU,uo),
  (dL,uw),
  (rZ,wR),
  (iM,uD),
  (eX,uG),
  (jC,qx),
  (qP,vH),
  (vw,yB),
  (lM,uz),
  (lQ,uH),
  (lN,uF),
  (lK,uq),
  (jO,qW)]
def FQ:List (Nat×List AV):=
 [(xY,[.i .i64 0,.i .i64 0,.i .i64 0,.b false,.i .i64 0,.i .i64 0,.i .i64 0,.b false,.i .i64 0,.i .i64 0,.i .i64 0,.b false,.i .i64 1,.i .i64 0,.i .i64 0,.b false,.i .i64 2,.i .i64 0,.i .i64 0,.b false,.i .i64 0,.i .i64 2,.i .i64 8,.b false,.i .i64 1,.i .i64 1,.i .i64 1,.b false,.i .i64 1,.i .i64 0,.i .i64 0,.b true]),
  (rW,[.b false,.b false,.b false,.b false,.b false,.i .i64 0,.i .i64 0,
   .b true,.b true,.b false,.b false,.b false,.i .i64 0,.i .i64 0,
   .b true,.b true,.b false,.b false,.b false,.i .i64 0,.i .i64 0,
   .b true,.b true,.b false,.b false,.b false,.i .i64 0,.i .i64 0,
   .b false,.b true,.b true,.b false,.b false,.i .i64 0,.i .i64 0,
   .b false,.b false,.b true,.b false,.b false,.i .i64 1,.i .i64 1,
   .b false,.b false,.b true,.b false,.b false,.i .i64 2,.i .i64 4,
   .b false,.b false,.b true,.b false,.b false,.i .i64 0,.i .i64 0,
   .b false,.b true,.b false,.b true,.b false,.i .i64 0,.i .i64 0,
   .b false,.b false,.b true,.b true,.b true,.i .i64 0,.i .i64 0]),
  (tK,[.i .u64 1,.i .u64 10,.i .u64 100,.i .u64 1000,.i .u64 10000,.i .u64 100000,.i .u64 1000000,.i .u64 10000000,.i .u64 100000000,.i .u64 1000000000,.i .u64 10000000000,.i .u64 100000000000,.i .u64 1000000000000,.i .u64 10000000000000,.i .u64 100000000000000,.i .u64 1000000000000000,.i .u64 10000000000000000,.i .u64 100000000000000000,.i .u64 1000000000000000000,.i .u64 10000000000000000000])]
def Bd:List (Nat×(List AV→St→Option AV)):=
 [(rY,Ol Xp),(pq,Ol Xq),(gJ,Ol Pn),(BK,Ol Xr)]
def LV:List (Nat×HiK):=
 [(gI,.sortK 6),(gZ,.sortS),(Gu,.readK pz 114 (.ag [.ns,.ns]))]
def Ht:List (Nat×(List AV→St→Option AV)):=
 []
def P0:pI:=⟨fun f=>EG.lookup f,fun k=>FQ.lookup k,fun f=>Bd.lookup f,fun f=>LV.lookup f,fun f=>Ht.lookup f⟩
def Pq:pI:=P0.quiet
theorem go {f:Nat} {fn:aP} (hi:Bd.lookup f=none) (hh:LV.lookup f=none) (hf:EG.lookup f=some fn) {as cs args:List AV} {s:St} {cx:Ctx} {o:CO} (ho:o≠.fail)
  (h:ah P0.glob (aj P0) fn (as++args++cs) s cx=o):aj P0 (.fn (.func f) as cs) args s cx=o:=Ip hi hh hf ho h
theorem goq {f:Nat} {fn:aP} (hi:Ht.lookup f=none) (hf:EG.lookup f=some fn) {as cs args:List AV} {s:St} {cx:Ctx} {o:CO} (ho:o≠.fail)
  (h:ah Pq.glob (aj Pq) fn (as++args++cs) s cx=o):aj Pq (.fn (.func f) as cs) args s cx=o:=Ip (A:=Pq) hi rfl hf ho h
def Go1 (A:pI) (f:Nat) (fn:aP):Prop:=∀{as cs args:List AV} {s:St} {cx:Ctx} {o:CO},o≠.fail→ah A.glob (aj A) fn (as++args++cs) s cx=o→aj A (.fn (.func f) as cs) args s cx=o
theorem go1 {f:Nat} {fn:aP} (hi:Bd.lookup f=none) (hh:LV.lookup f=none) (hf:EG.lookup f=some fn):Go1 P0 f fn:=fun ho h=>go hi hh hf ho h
theorem Bl:Go1 P0 lS dU:=go1 rfl rfl rfl
theorem NS:Go1 P0 sD tZ:=go1 rfl rfl rfl
theorem L9:Go1 P0 eG jq:=go1 rfl rfl rfl
theorem Di:Go1 P0 kz eH:=go1 rfl rfl rfl
theorem ED:Go1 P0 kZ aC:=go1 rfl rfl rfl
theorem L8:Go1 P0 qE rU:=go1 rfl rfl rfl
theorem Aa:Go1 P0 fE iU:=go1 rfl rfl rfl
theorem Ey:Go1 P0 dP nD:=go1 rfl rfl rfl
theorem HY:Go1 P0 iQ jS:=go1 rfl rfl rfl
theorem LZ:Go1 P0 qB oQ:=go1 rfl rfl rfl
theorem vS:Go1 P0 fF fA:=go1 rfl rfl rfl
theorem JF:Go1 P0 mF nT:=go1 rfl rfl rfl
theorem FO:Go1 P0 jU oG:=go1 rfl rfl rfl
theorem JG:Go1 P0 mG qH:=go1 rfl rfl rfl
theorem Ib:Go1 P0 kL pV:=go1 rfl rfl rfl
theorem Dc:Go1 P0 jd jH:=go1 rfl rfl rfl
theorem Bj:Go1 P0 iL kQ:=go1 rfl rfl rfl
theorem rF:Go1 P0 dD cu:=go1 rfl rfl rfl
theorem H9:Go1 P0 nZ l7:=go1 rfl rfl rfl
theorem JL:Go1 P0 pF nV:=go1 rfl rfl rfl
theorem Dh:Go1 P0 je bY:=go1 rfl rfl rfl
theorem JK:Go1 P0 jZ qI:=go1 rfl rfl rfl
theorem EC:Go1 P0 kY ja:=go1 rfl rfl rfl
theorem rV:Go1 P0 aY dw:=go1 rfl rfl rfl
theorem mX:Go1 P0 eF bV:=go1 rfl rfl rfl
theorem qM:Go1 P0 fV jb:=go1 rfl rfl rfl
theorem zf:Go1 P0 gB jL:=go1 rfl rfl rfl
theorem lH:Go1 P0 bK aQ:=go1 rfl rfl rfl
theorem Dj:Go1 P0 kC iJ:=go1 rfl rfl rfl
theorem Df:Go1 P0 gQ iI:=go1 rfl rfl rfl
theorem FN:Go1 P0 mJ jy:=go1 rfl rfl rfl
theorem H7:Go1 P0 kK pO:=go1 rfl rfl rfl
theorem H6:Go1 P0 nX lW:=go1 rfl rfl rfl
theorem zZ:Go1 P0 gY gm:=go1 rfl rfl rfl
theorem NR:Go1 P0 nR oq:=go1 rfl rfl rfl
theorem NQ:Go1 P0 rX tY:=go1 rfl rfl rfl
theorem JE:Go1 P0 jr qG:=go1 rfl rfl rfl
theorem LY:Go1 P0 lG lV:=go1 rfl rfl rfl
theorem Bh:Go1 P0 jJ gV:=go1 rfl rfl rfl
theorem JH:Go1 P0 dB kG:=go1 rfl rfl rfl
theorem lD:Go1 P0 aT bn:=go1 rfl rfl rfl
theorem mV:Go1 P0 aX bJ:=go1 rfl rfl rfl
theorem Ac:Go1 P0 jw gu:=go1 rfl rfl rfl
theorem JI:Go1 P0 mO jF:=go1 rfl rfl rfl
theorem FP:Go1 P0 mM jA:=go1 rfl rfl rfl
theorem L6:Go1 P0 qC rQ:=go1 rfl rfl rfl
theorem H8:Go1 P0 nY pR:=go1 rfl rfl rfl
theorem Ia:Go1 P0 jG pU:=go1 rfl rfl rfl
theorem EF:Go1 P0 fB dG:=go1 rfl rfl rfl
theorem Ic:Go1 P0 iR jT:=go1 rfl rfl rfl
theorem Ad:Go1 P0 dF bG:=go1 rfl rfl rfl
theorem Dk:Go1 P0 fG iK:=go1 rfl rfl rfl
theorem NT:Go1 P0 sF qy:=go1 rfl rfl rfl
theorem Pv:Go1 P0 uP nH:=go1 rfl rfl rfl
theorem Ez:Go1 P0 kX nG:=go1 rfl rfl rfl
theorem JJ:Go1 P0 mP fH:=go1 rfl rfl rfl
theorem QW:Go1 P0 tN qV:=go1 rfl rfl rfl
theorem YG {f:Nat} {fn:aP} (hi:Ht.lookup f=none) (hf:EG.lookup f=some fn):Go1 Pq f fn:=fun ho h=>goq hi hf ho h
theorem C9:Go1 Pq fB dG:=YG rfl rfl
theorem FM:Go1 Pq iR jT:=YG rfl rfl
theorem y9:Go1 Pq dF bG:=YG rfl rfl
theorem Bg:Go1 Pq fG iK:=YG rfl rfl
end Go.Ai.Z
