/-
 The program in the small language: written by program.
-/
import Derived.Test.YtpnlnnfcaeednaaGreatDoorAiDat
import Derived.Test.YtpnlnnfcaeednaaGreatDoorAiC1
set_option maxRecDepth 100000
set_option linter.unusedSimpArgs false
set_option linter.unusedVariables false
set_option linter.unusedSectionVars false
namespace Go.Ai.Z
def Je:List (Nat×dA):=
 [(lH,aP),
  (yh,Ik),
  (ji,iK),
  (nK,iU),
  (tJ,kN),
  (oP,lC),
  (vK,fA),
  (su,zJ),
  (tH,bH),
  (bP,dY),
  (kF,qR),
  (iQ,jq),
  (aO,jb),
  (iR,kM),
  (aW,oz),
  (qi,vk),
  (eU,pG),
  (gK,mg),
  (lK,oJ),
  (wu,uG),
  (jA,jh),
  (rP,sZ),
  (oO,um),
  (rQ,wG),
  (mF,nY),
  (bJ,gV),
  (dP,aK),
  (aF,lV),
  (pF,qQ),
  (fP,lU),
  (jJ,iD),
  (jw,ja),
  (je,fK),
  (gu,jr),
  (iP,jm),
  (jy,jc),
  (nI,jR),
  (lG,jo),
  (fB,dN),
  (gB,bK),
  (jP,dW),
  (mG,lI),
  (rU,nO),
  (qg,uV),
  (tq,rD),
  (jv,jQ),
  (sS,tN),
  (xY,yS),
  (nH,wE),
  (qM,qY),
  (ou,kL),
  (gJ,pX),
  (dF,dZ),
  (dQ,fF),
  (iO,oD),
  (xZ,kW),
  (mZ,vY),
  (aI,iq),
  (iH,gX),
  (lN,oK),
  (sU,oG),
  (aG,ay),
  (aY,aQ),
  (pz,wF),
  (tC,uX),
  (bg,bW),
  (dX,fO),
  (bC,bU),
  (aJ,bQ),
  (dH,iG),
  (bV,gI),
  (ai,qy),
  (vJ,Bf),
  (wY,zo),
  (wX,zn),
  (Eh,Ij),
  (x9,Eo),
  (yN,Bd),
  (vS,yZ),
  (yg,Ep),
  (yP,Bh),
  (yO,Bg),
  (zf,xO),
  (mJ,nZ),
  (nJ,pI),
  (rV,wH),
  (ng,yT),
  (jB,xM),
  (lM,vg),
  (jW,uY),
  (kS,lX)]
def RG:List (Nat×List AV):=
 [(BM,[.i .i64 0,.i .i64 0,.i .i64 0,.b false,.i .i64 0,.i .i64 0,.i .i64 0,.b false,.i .i64 0,.i .i64 0,.i .i64 0,.b false,.i .i64 1,.i .i64 0,.i .i64 0,.b false,.i .i64 2,.i .i64 0,.i .i64 0,.b false,.i .i64 0,.i .i64 2,.i .i64 8,.b false,.i .i64 1,.i .i64 1,.i .i64 1,.b false,.i .i64 1,.i .i64 0,.i .i64 0,.b true]),
  (vI,[.b false,.b false,.b false,.b false,.b false,.i .i64 0,.i .i64 0,
   .b true,.b true,.b false,.b false,.b false,.i .i64 0,.i .i64 0,
   .b true,.b true,.b false,.b false,.b false,.i .i64 0,.i .i64 0,
   .b true,.b true,.b false,.b false,.b false,.i .i64 0,.i .i64 0,
   .b false,.b true,.b true,.b false,.b false,.i .i64 0,.i .i64 0,
   .b false,.b false,.b true,.b false,.b false,.i .i64 1,.i .i64 1,
   .b false,.b false,.b true,.b false,.b false,.i .i64 2,.i .i64 4,
   .b false,.b false,.b true,.b false,.b false,.i .i64 0,.i .i64 0,
   .b false,.b true,.b false,.b true,.b false,.i .i64 0,.i .i64 0,
   .b false,.b false,.b true,.b true,.b true,.i .i64 0,.i .i64 0])]
def FP:List (Nat×(List AV→St→Option AV)):=
 [(nU,Ib VG),(qF,Ib y5),(AZ,Ib XF)]
def Rq:List (Nat×HiK):=
 [(dB,.sortK 7),(yc,.tryK (.tu [.ag [.i .i64 0,.i .i64 0],.b false]) 112)]
def CV:List (Nat×(List AV→St→Option AV)):=
 [(qF,Ib y5)]
def P0:uM:=⟨fun f=>Je.lookup f,fun k=>RG.lookup k,fun f=>FP.lookup f,fun f=>Rq.lookup f,fun f=>CV.lookup f⟩
def Pq:uM:=P0.quiet
theorem go {f:Nat} {fn:dA} (hi:FP.lookup f=none) (hh:Rq.lookup f=none) (hf:Je.lookup f=some fn) {as cs args:List AV} {s:St} {cx:Ctx} {o:CO} (ho:o≠.fail)
  (h:af P0.glob (ah P0) fn (as++args++cs) s cx=o):ah P0 (.fn (.func f) as cs) args s cx=o:=Nh hi hh hf ho h
theorem goq {f:Nat} {fn:dA} (hi:CV.lookup f=none) (hf:Je.lookup f=some fn) {as cs args:List AV} {s:St} {cx:Ctx} {o:CO} (ho:o≠.fail)
  (h:af Pq.glob (ah Pq) fn (as++args++cs) s cx=o):ah Pq (.fn (.func f) as cs) args s cx=o:=Nh (A:=Pq) hi rfl hf ho h
def Go1 (A:uM) (f:Nat) (fn:dA):Prop:=∀{as cs args:List AV} {s:St} {cx:Ctx} {o:CO},o≠.fail→af A.glob (ah A) fn (as++args++cs) s cx=o→ah A (.fn (.func f) as cs) args s cx=o
theorem go1 {f:Nat} {fn:dA} (hi:FP.lookup f=none) (hh:Rq.lookup f=none) (hf:Je.lookup f=some fn):Go1 P0 f fn:=fun ho h=>go hi hh hf ho h
theorem zK:Go1 P0 lH aP:=go1 rfl rfl rfl
theorem AA:Go1 P0 ji iK:=go1 rfl rfl rfl
theorem O4:Go1 P0 nK iU:=go1 rfl rfl rfl
theorem MN:Go1 P0 tJ kN:=go1 rfl rfl rfl
theorem Kq:Go1 P0 oP lC:=go1 rfl rfl rfl
theorem Tz:Go1 P0 vK fA:=go1 rfl rfl rfl
theorem VI:Go1 P0 su zJ:=go1 rfl rfl rfl
theorem ML:Go1 P0 tH bH:=go1 rfl rfl rfl
theorem mO:Go1 P0 bP dY:=go1 rfl rfl rfl
theorem HY:Go1 P0 kF qR:=go1 rfl rfl rfl
theorem Dc:Go1 P0 iQ jq:=go1 rfl rfl rfl
theorem uf:Go1 P0 aO jb:=go1 rfl rfl rfl
theorem Df:Go1 P0 iR kM:=go1 rfl rfl rfl
theorem D6:Go1 P0 aW oz:=go1 rfl rfl rfl
theorem MO:Go1 P0 qi vk:=go1 rfl rfl rfl
theorem ES:Go1 P0 eU pG:=go1 rfl rfl rfl
theorem wR:Go1 P0 gK mg:=go1 rfl rfl rfl
theorem MF:Go1 P0 lK oJ:=go1 rfl rfl rfl
theorem RD:Go1 P0 wu uG:=go1 rfl rfl rfl
theorem zL:Go1 P0 jA jh:=go1 rfl rfl rfl
theorem OW:Go1 P0 rP sZ:=go1 rfl rfl rfl
theorem Ko:Go1 P0 oO um:=go1 rfl rfl rfl
theorem OX:Go1 P0 rQ wG:=go1 rfl rfl rfl
theorem Hw:Go1 P0 mF nY:=go1 rfl rfl rfl
theorem BI:Go1 P0 bJ gV:=go1 rfl rfl rfl
theorem C9:Go1 P0 dP aK:=go1 rfl rfl rfl
theorem yA:Go1 P0 aF lV:=go1 rfl rfl rfl
theorem Hz:Go1 P0 pF qQ:=go1 rfl rfl rfl
theorem EP:Go1 P0 fP lU:=go1 rfl rfl rfl
theorem xA:Go1 P0 jJ iD:=go1 rfl rfl rfl
theorem EQ:Go1 P0 jw ja:=go1 rfl rfl rfl
theorem D7:Go1 P0 je fK:=go1 rfl rfl rfl
theorem Aw:Go1 P0 gu jr:=go1 rfl rfl rfl
theorem CZ:Go1 P0 iP jm:=go1 rfl rfl rfl
theorem ER:Go1 P0 jy jc:=go1 rfl rfl rfl
theorem yB:Go1 P0 nI jR:=go1 rfl rfl rfl
theorem rH:Go1 P0 lG jo:=go1 rfl rfl rfl
theorem sH:Go1 P0 fB dN:=go1 rfl rfl rfl
theorem Az:Go1 P0 gB bK:=go1 rfl rfl rfl
theorem o8:Go1 P0 jP dW:=go1 rfl rfl rfl
theorem Hy:Go1 P0 mG lI:=go1 rfl rfl rfl
theorem J9:Go1 P0 rU nO:=go1 rfl rfl rfl
theorem MH:Go1 P0 qg uV:=go1 rfl rfl rfl
theorem MG:Go1 P0 tq rD:=go1 rfl rfl rfl
theorem EO:Go1 P0 jv jQ:=go1 rfl rfl rfl
theorem Tt:Go1 P0 sS tN:=go1 rfl rfl rfl
theorem Tn:Go1 P0 xY yS:=go1 rfl rfl rfl
theorem OU:Go1 P0 nH wE:=go1 rfl rfl rfl
theorem Rz:Go1 P0 qM qY:=go1 rfl rfl rfl
theorem FU:Go1 P0 ou kL:=go1 rfl rfl rfl
theorem OY:Go1 P0 gJ pX:=go1 rfl rfl rfl
theorem qK:Go1 P0 dF dZ:=go1 rfl rfl rfl
theorem rY:Go1 P0 dQ fF:=go1 rfl rfl rfl
theorem vZ:Go1 P0 iO oD:=go1 rfl rfl rfl
theorem tV:Go1 P0 xZ kW:=go1 rfl rfl rfl
theorem Tq:Go1 P0 mZ vY:=go1 rfl rfl rfl
theorem EN:Go1 P0 aI iq:=go1 rfl rfl rfl
theorem Jc:Go1 P0 iH gX:=go1 rfl rfl rfl
theorem MP:Go1 P0 lN oK:=go1 rfl rfl rfl
theorem TA:Go1 P0 sU oG:=go1 rfl rfl rfl
theorem kQ:Go1 P0 aG ay:=go1 rfl rfl rfl
theorem kU:Go1 P0 aY aQ:=go1 rfl rfl rfl
theorem OV:Go1 P0 pz wF:=go1 rfl rfl rfl
theorem MI:Go1 P0 tC uX:=go1 rfl rfl rfl
theorem jK:Go1 P0 bg bW:=go1 rfl rfl rfl
theorem oH:Go1 P0 dX fO:=go1 rfl rfl rfl
theorem iM:Go1 P0 bC bU:=go1 rfl rfl rfl
theorem jI:Go1 P0 aJ bQ:=go1 rfl rfl rfl
theorem wo:Go1 P0 dH iG:=go1 rfl rfl rfl
theorem uJ:Go1 P0 bV gI:=go1 rfl rfl rfl
theorem FV:Go1 P0 ai qy:=go1 rfl rfl rfl
theorem VJ:Go1 P0 zf xO:=go1 rfl rfl rfl
theorem H6:Go1 P0 mJ nZ:=go1 rfl rfl rfl
theorem EU:Go1 P0 nJ pI:=go1 rfl rfl rfl
theorem OZ:Go1 P0 rV wH:=go1 rfl rfl rfl
theorem Tv:Go1 P0 ng yT:=go1 rfl rfl rfl
theorem RF:Go1 P0 jB xM:=go1 rfl rfl rfl
theorem MK:Go1 P0 lM vg:=go1 rfl rfl rfl
theorem MJ:Go1 P0 jW uY:=go1 rfl rfl rfl
theorem ET:Go1 P0 kS lX:=go1 rfl rfl rfl
theorem ado {f:Nat} {fn:dA} (hi:CV.lookup f=none) (hf:Je.lookup f=some fn):Go1 Pq f fn:=fun ho h=>goq hi hf ho h
theorem DZ:Go1 Pq aI iq:=ado rfl rfl
theorem Rw:Go1 Pq sU oG:=ado rfl rfl
theorem Hu:Go1 Pq iH gX:=ado rfl rfl
theorem J8:Go1 Pq lN oK:=ado rfl rfl
theorem kC:Go1 Pq aG ay:=ado rfl rfl
end Go.Ai.Z
