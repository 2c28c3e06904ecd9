/-
 The program in the small language: written by program.
-/
import Derived.Test.YtpnlnnfcaeednaaGreatDoorAiDat
import Derived.Test.YtpnlnnfcaeednaaGreatDoorAiC1
set_option maxRecDepth 100000
set_option linter.unusedSimpArgs false
set_option linter.unusedVariables false
set_option linter.unusedSectionVars false
namespace Go.Ai.Z
def Jp:List (Nat×dw):=
 [(qA,lV),
  (xX,Iy),
  (lG,iL),
  (pF,iU),
  (tq,kS),
  (oK,lD),
  (vI,eU),
  (rX,zH),
  (sZ,bG),
  (bM,dU),
  (kH,qM),
  (iR,jq),
  (aO,jb),
  (iT,kR),
  (aV,nX),
  (qf,ve),
  (eG,pG),
  (gK,l9),
  (lJ,oC),
  (vY,uw),
  (jA,jh),
  (rH,sV),
  (oJ,tZ),
  (rJ,wB),
  (mD,nT),
  (bH,gV),
  (dO,aJ),
  (aC,lU),
  (pz,qL),
  (fJ,lT),
  (jI,iE),
  (jw,ja),
  (je,fG),
  (gu,jr),
  (iQ,jm),
  (jy,jc),
  (nD,jR),
  (lF,jo),
  (eX,dM),
  (gB,bI),
  (ji,dQ),
  (mF,lH),
  (rM,nJ),
  (qc,uU),
  (sW,qW),
  (jv,jQ),
  (sO,tH),
  (vG,yP),
  (jY,sU),
  (mW,oZ),
  (nV,kQ),
  (gJ,pW),
  (dD,dX),
  (dP,fB),
  (iP,oh),
  (xP,kX),
  (mX,vV),
  (aH,iw),
  (fP,gX),
  (lK,oD),
  (nZ,oq),
  (aG,ay),
  (aX,aP),
  (pq,wz),
  (nP,uY),
  (bf,bV),
  (dS,fH),
  (bn,bQ),
  (aI,bP),
  (dG,iI),
  (bU,gG),
  (ai,qj),
  (vH,Bg),
  (wS,zl),
  (wR,zk),
  (Ej,Iw),
  (xR,Et),
  (yL,Bf),
  (vN,yV),
  (xW,Eu),
  (yN,Bj),
  (yM,Bh),
  (y7,xI),
  (nC,iZ),
  (rG,wu),
  (xQ,yQ),
  (iF,fD),
  (nG,jS),
  (mG,qO)]
def Q5:List (Nat×List AV):=
 [(BO,[.i .i64 0,.i .i64 0,.i .i64 0,.b false,.i .i64 0,.i .i64 0,.i .i64 0,.b false,.i .i64 0,.i .i64 0,.i .i64 0,.b false,.i .i64 1,.i .i64 0,.i .i64 0,.b false,.i .i64 2,.i .i64 0,.i .i64 0,.b false,.i .i64 0,.i .i64 2,.i .i64 8,.b false,.i .i64 1,.i .i64 1,.i .i64 1,.b false,.i .i64 1,.i .i64 0,.i .i64 0,.b true]),
  (vF,[.b false,.b false,.b false,.b false,.b false,.i .i64 0,.i .i64 0,
   .b true,.b true,.b false,.b false,.b false,.i .i64 0,.i .i64 0,
   .b true,.b true,.b false,.b false,.b false,.i .i64 0,.i .i64 0,
   .b true,.b true,.b false,.b false,.b false,.i .i64 0,.i .i64 0,
   .b false,.b true,.b true,.b false,.b false,.i .i64 0,.i .i64 0,
   .b false,.b false,.b true,.b false,.b false,.i .i64 1,.i .i64 1,
   .b false,.b false,.b true,.b false,.b false,.i .i64 2,.i .i64 4,
   .b false,.b false,.b true,.b false,.b false,.i .i64 0,.i .i64 0,
   .b false,.b true,.b false,.b true,.b false,.i .i64 0,.i .i64 0,
   .b false,.b false,.b true,.b true,.b true,.i .i64 0,.i .i64 0])]
def FY:List (Nat×(List AV→St→Option AV)):=
 [(nR,Il Vm),(jP,Il yX),(AY,Il Xn)]
def QT:List (Nat×HiK):=
 [(dA,.sortK 7),(xU,.tryK (.tu [.ag [.i .i64 0,.i .i64 0],.b false]) 112)]
def CX:List (Nat×(List AV→St→Option AV)):=
 [(jP,Il yX)]
def P0:uJ:=⟨fun f=>Jp.lookup f,fun k=>Q5.lookup k,fun f=>FY.lookup f,fun f=>QT.lookup f,fun f=>CX.lookup f⟩
def Pq:uJ:=P0.quiet
theorem go {f:Nat} {fn:dw} (hi:FY.lookup f=none) (hh:QT.lookup f=none) (hf:Jp.lookup f=some fn) {as cs args:List AV} {s:St} {cx:Ctx} {o:CO} (ho:o≠.fail)
  (h:af P0.glob (ah P0) fn (as++args++cs) s cx=o):ah P0 (.fn (.func f) as cs) args s cx=o:=MS hi hh hf ho h
theorem goq {f:Nat} {fn:dw} (hi:CX.lookup f=none) (hf:Jp.lookup f=some fn) {as cs args:List AV} {s:St} {cx:Ctx} {o:CO} (ho:o≠.fail)
  (h:af Pq.glob (ah Pq) fn (as++args++cs) s cx=o):ah Pq (.fn (.func f) as cs) args s cx=o:=MS (A:=Pq) hi rfl hf ho h
def Go1 (A:uJ) (f:Nat) (fn:dw):Prop:=∀{as cs args:List AV} {s:St} {cx:Ctx} {o:CO},o≠.fail→af A.glob (ah A) fn (as++args++cs) s cx=o→ah A (.fn (.func f) as cs) args s cx=o
theorem go1 {f:Nat} {fn:dw} (hi:FY.lookup f=none) (hh:QT.lookup f=none) (hf:Jp.lookup f=some fn):Go1 P0 f fn:=fun ho h=>go hi hh hf ho h
theorem E5:Go1 P0 qA lV:=go1 rfl rfl rfl
theorem Aw:Go1 P0 lG iL:=go1 rfl rfl rfl
theorem OQ:Go1 P0 pF iU:=go1 rfl rfl rfl
theorem Me:Go1 P0 tq kS:=go1 rfl rfl rfl
theorem Kw:Go1 P0 oK lD:=go1 rfl rfl rfl
theorem SK:Go1 P0 vI eU:=go1 rfl rfl rfl
theorem Vp:Go1 P0 rX zH:=go1 rfl rfl rfl
theorem Md:Go1 P0 sZ bG:=go1 rfl rfl rfl
theorem mM:Go1 P0 bM dU:=go1 rfl rfl rfl
theorem Ie:Go1 P0 kH qM:=go1 rfl rfl rfl
theorem Dh:Go1 P0 iR jq:=go1 rfl rfl rfl
theorem tX:Go1 P0 aO jb:=go1 rfl rfl rfl
theorem Di:Go1 P0 iT kR:=go1 rfl rfl rfl
theorem D8:Go1 P0 aV nX:=go1 rfl rfl rfl
theorem MB:Go1 P0 qf ve:=go1 rfl rfl rfl
theorem EZ:Go1 P0 eG pG:=go1 rfl rfl rfl
theorem wK:Go1 P0 gK l9:=go1 rfl rfl rfl
theorem L6:Go1 P0 lJ oC:=go1 rfl rfl rfl
theorem QZ:Go1 P0 vY uw:=go1 rfl rfl rfl
theorem zI:Go1 P0 jA jh:=go1 rfl rfl rfl
theorem OL:Go1 P0 rH sV:=go1 rfl rfl rfl
theorem Kv:Go1 P0 oJ tZ:=go1 rfl rfl rfl
theorem OM:Go1 P0 rJ wB:=go1 rfl rfl rfl
theorem Ia:Go1 P0 mD nT:=go1 rfl rfl rfl
theorem BK:Go1 P0 bH gV:=go1 rfl rfl rfl
theorem Df:Go1 P0 dO aJ:=go1 rfl rfl rfl
theorem yt:Go1 P0 aC lU:=go1 rfl rfl rfl
theorem Ic:Go1 P0 pz qL:=go1 rfl rfl rfl
theorem EW:Go1 P0 fJ lT:=go1 rfl rfl rfl
theorem xg:Go1 P0 jI iE:=go1 rfl rfl rfl
theorem EX:Go1 P0 jw ja:=go1 rfl rfl rfl
theorem D9:Go1 P0 je fG:=go1 rfl rfl rfl
theorem Ar:Go1 P0 gu jr:=go1 rfl rfl rfl
theorem Dc:Go1 P0 iQ jm:=go1 rfl rfl rfl
theorem EY:Go1 P0 jy jc:=go1 rfl rfl rfl
theorem yu:Go1 P0 nD jR:=go1 rfl rfl rfl
theorem rC:Go1 P0 lF jo:=go1 rfl rfl rfl
theorem sD:Go1 P0 eX dM:=go1 rfl rfl rfl
theorem Au:Go1 P0 gB bI:=go1 rfl rfl rfl
theorem o7:Go1 P0 ji dQ:=go1 rfl rfl rfl
theorem Ib:Go1 P0 mF lH:=go1 rfl rfl rfl
theorem Ku:Go1 P0 rM nJ:=go1 rfl rfl rfl
theorem L9:Go1 P0 qc uU:=go1 rfl rfl rfl
theorem L8:Go1 P0 sW qW:=go1 rfl rfl rfl
theorem EU:Go1 P0 jv jQ:=go1 rfl rfl rfl
theorem SH:Go1 P0 sO tH:=go1 rfl rfl rfl
theorem SE:Go1 P0 vG yP:=go1 rfl rfl rfl
theorem Ew:Go1 P0 jY sU:=go1 rfl rfl rfl
theorem F6:Go1 P0 mW oZ:=go1 rfl rfl rfl
theorem F7:Go1 P0 nV kQ:=go1 rfl rfl rfl
theorem OO:Go1 P0 gJ pW:=go1 rfl rfl rfl
theorem qG:Go1 P0 dD dX:=go1 rfl rfl rfl
theorem rQ:Go1 P0 dP fB:=go1 rfl rfl rfl
theorem vW:Go1 P0 iP oh:=go1 rfl rfl rfl
theorem tJ:Go1 P0 xP kX:=go1 rfl rfl rfl
theorem SG:Go1 P0 mX vV:=go1 rfl rfl rfl
theorem ES:Go1 P0 aH iw:=go1 rfl rfl rfl
theorem Jm:Go1 P0 fP gX:=go1 rfl rfl rfl
theorem MC:Go1 P0 lK oD:=go1 rfl rfl rfl
theorem SL:Go1 P0 nZ oq:=go1 rfl rfl rfl
theorem kT:Go1 P0 aG ay:=go1 rfl rfl rfl
theorem kV:Go1 P0 aX aP:=go1 rfl rfl rfl
theorem OJ:Go1 P0 pq wz:=go1 rfl rfl rfl
theorem Mc:Go1 P0 nP uY:=go1 rfl rfl rfl
theorem jJ:Go1 P0 bf bV:=go1 rfl rfl rfl
theorem ou:Go1 P0 dS fH:=go1 rfl rfl rfl
theorem iO:Go1 P0 bn bQ:=go1 rfl rfl rfl
theorem jH:Go1 P0 aI bP:=go1 rfl rfl rfl
theorem vX:Go1 P0 dG iI:=go1 rfl rfl rfl
theorem uF:Go1 P0 bU gG:=go1 rfl rfl rfl
theorem F8:Go1 P0 ai qj:=go1 rfl rfl rfl
theorem Vq:Go1 P0 y7 xI:=go1 rfl rfl rfl
theorem ET:Go1 P0 nC iZ:=go1 rfl rfl rfl
theorem OI:Go1 P0 rG wu:=go1 rfl rfl rfl
theorem SI:Go1 P0 xQ yQ:=go1 rfl rfl rfl
theorem yg:Go1 P0 iF fD:=go1 rfl rfl rfl
theorem E8:Go1 P0 nG jS:=go1 rfl rfl rfl
theorem Ig:Go1 P0 mG qO:=go1 rfl rfl rfl
theorem ac4 {f:Nat} {fn:dw} (hi:CX.lookup f=none) (hf:Jp.lookup f=some fn):Go1 Pq f fn:=fun ho h=>goq hi hf ho h
theorem D6:Go1 Pq aH iw:=ac4 rfl rfl
theorem QW:Go1 Pq nZ oq:=ac4 rfl rfl
theorem H9:Go1 Pq fP gX:=ac4 rfl rfl
theorem Kt:Go1 Pq lK oD:=ac4 rfl rfl
theorem kF:Go1 Pq aG ay:=ac4 rfl rfl
end Go.Ai.Z
