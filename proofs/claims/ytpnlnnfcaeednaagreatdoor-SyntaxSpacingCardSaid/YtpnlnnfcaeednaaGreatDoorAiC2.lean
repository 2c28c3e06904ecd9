/-
 The program in the small language: written by program.
-/
import Derived.Test.YtpnlnnfcaeednaaGreatDoorAiDat
import Derived.Test.YtpnlnnfcaeednaaGreatDoorAiC1
set_option maxRecDepth 100000
set_option linter.unusedSimpArgs false
set_option linter.unusedVariables false
set_option linter.unusedSectionVars false
namespace Go.Ai.Z
def Jh:List (Nat×dw):=
 [(pO,gI),
  (yj,Ip),
  (jO,iJ),
  (nG,iR),
  (qi,kQ),
  (oP,lC),
  (sU,eY),
  (su,zL),
  (tJ,bG),
  (bM,dW),
  (kG,qR),
  (iP,jk),
  (aO,iY),
  (iQ,kN),
  (aW,oq),
  (qj,vC),
  (eH,pG),
  (gK,lY),
  (lH,oJ),
  (wz,uJ),
  (jr,jd),
  (rO,tq),
  (oO,uo),
  (rP,wG),
  (mg,nV),
  (bI,gV),
  (dP,aJ),
  (aF,lU),
  (pF,qQ),
  (fK,lT),
  (jG,iD),
  (jo,iW),
  (jb,fH),
  (gm,jl),
  (iO,jh),
  (jq,iZ),
  (nC,jQ),
  (lD,ji),
  (fA,dM),
  (gu,bJ),
  (jM,dS),
  (mr,lF),
  (rQ,nJ),
  (qg,uY),
  (tC,rC),
  (jm,jP),
  (sS,tN),
  (xY,yS),
  (ny,wE),
  (qO,qX),
  (nZ,kM),
  (gJ,pY),
  (dG,dY),
  (dQ,fE),
  (iM,oC),
  (xZ,kW),
  (mQ,vY),
  (aH,iq),
  (iG,gX),
  (lJ,oK),
  (sV,oD),
  (aG,ay),
  (aY,aQ),
  (pz,wF),
  (tH,ve),
  (bf,bV),
  (dU,fJ),
  (bn,bQ),
  (aI,bP),
  (dH,iF),
  (bU,gG),
  (ai,qy),
  (vK,Bg),
  (wY,zu),
  (wX,zq),
  (Eo,Io),
  (x9,Ew),
  (yP,Bf),
  (vS,y7),
  (yg,Ey),
  (yR,Bj),
  (yQ,Bh),
  (zi,xP),
  (yh,yU),
  (mD,nX),
  (nD,pI),
  (rU,wH),
  (mV,yT),
  (jv,xO),
  (lI,vw),
  (jW,vg)]
def Ro:List (Nat×List AV):=
 [(BO,[.i .i64 0,.i .i64 0,.i .i64 0,.b false,.i .i64 0,.i .i64 0,.i .i64 0,.b false,.i .i64 0,.i .i64 0,.i .i64 0,.b false,.i .i64 1,.i .i64 0,.i .i64 0,.b false,.i .i64 2,.i .i64 0,.i .i64 0,.b false,.i .i64 0,.i .i64 2,.i .i64 8,.b false,.i .i64 1,.i .i64 1,.i .i64 1,.b false,.i .i64 1,.i .i64 0,.i .i64 0,.b true]),
  (vJ,[.b false,.b false,.b false,.b false,.b false,.i .i64 0,.i .i64 0,
   .b true,.b true,.b false,.b false,.b false,.i .i64 0,.i .i64 0,
   .b true,.b true,.b false,.b false,.b false,.i .i64 0,.i .i64 0,
   .b true,.b true,.b false,.b false,.b false,.i .i64 0,.i .i64 0,
   .b false,.b true,.b true,.b false,.b false,.i .i64 0,.i .i64 0,
   .b false,.b false,.b true,.b false,.b false,.i .i64 1,.i .i64 1,
   .b false,.b false,.b true,.b false,.b false,.i .i64 2,.i .i64 4,
   .b false,.b false,.b true,.b false,.b false,.i .i64 0,.i .i64 0,
   .b false,.b true,.b false,.b true,.b false,.i .i64 0,.i .i64 0,
   .b false,.b false,.b true,.b true,.b true,.i .i64 0,.i .i64 0])]
def FV:List (Nat×(List AV→St→Option AV)):=
 [(nS,Ig Vz),(qF,Ig y8),(A7,Ig XC)]
def Q8:List (Nat×HiK):=
 [(dB,.sortK 7),(yc,.tryK (.tu [.ag [.i .i64 0,.i .i64 0],.b false]) 112)]
def CX:List (Nat×(List AV→St→Option AV)):=
 [(qF,Ig y8)]
def P0:uP:=⟨fun f=>Jh.lookup f,fun k=>Ro.lookup k,fun f=>FV.lookup f,fun f=>Q8.lookup f,fun f=>CX.lookup f⟩
def Pq:uP:=P0.quiet
theorem go {f:Nat} {fn:dw} (hi:FV.lookup f=none) (hh:Q8.lookup f=none) (hf:Jh.lookup f=some fn) {as cs args:List AV} {s:St} {cx:Ctx} {o:CO} (ho:o≠.fail)
  (h:af P0.glob (ah P0) fn (as++args++cs) s cx=o):ah P0 (.fn (.func f) as cs) args s cx=o:=MZ hi hh hf ho h
theorem goq {f:Nat} {fn:dw} (hi:CX.lookup f=none) (hf:Jh.lookup f=some fn) {as cs args:List AV} {s:St} {cx:Ctx} {o:CO} (ho:o≠.fail)
  (h:af Pq.glob (ah Pq) fn (as++args++cs) s cx=o):ah Pq (.fn (.func f) as cs) args s cx=o:=MZ (A:=Pq) hi rfl hf ho h
def Go1 (A:uP) (f:Nat) (fn:dw):Prop:=∀{as cs args:List AV} {s:St} {cx:Ctx} {o:CO},o≠.fail→af A.glob (ah A) fn (as++args++cs) s cx=o→ah A (.fn (.func f) as cs) args s cx=o
theorem go1 {f:Nat} {fn:dw} (hi:FV.lookup f=none) (hh:Q8.lookup f=none) (hf:Jh.lookup f=some fn):Go1 P0 f fn:=fun ho h=>go hi hh hf ho h
theorem Ec:Go1 P0 pO gI:=go1 rfl rfl rfl
theorem AA:Go1 P0 jO iJ:=go1 rfl rfl rfl
theorem OV:Go1 P0 nG iR:=go1 rfl rfl rfl
theorem MH:Go1 P0 qi kQ:=go1 rfl rfl rfl
theorem Kq:Go1 P0 oP lC:=go1 rfl rfl rfl
theorem Td:Go1 P0 sU eY:=go1 rfl rfl rfl
theorem VB:Go1 P0 su zL:=go1 rfl rfl rfl
theorem MG:Go1 P0 tJ bG:=go1 rfl rfl rfl
theorem mG:Go1 P0 bM dW:=go1 rfl rfl rfl
theorem H8:Go1 P0 kG qR:=go1 rfl rfl rfl
theorem Dh:Go1 P0 iP jk:=go1 rfl rfl rfl
theorem uf:Go1 P0 aO iY:=go1 rfl rfl rfl
theorem Di:Go1 P0 iQ kN:=go1 rfl rfl rfl
theorem Ea:Go1 P0 aW oq:=go1 rfl rfl rfl
theorem MI:Go1 P0 qj vC:=go1 rfl rfl rfl
theorem EY:Go1 P0 eH pG:=go1 rfl rfl rfl
theorem wR:Go1 P0 gK lY:=go1 rfl rfl rfl
theorem Mc:Go1 P0 lH oJ:=go1 rfl rfl rfl
theorem Rl:Go1 P0 wz uJ:=go1 rfl rfl rfl
theorem zM:Go1 P0 jr jd:=go1 rfl rfl rfl
theorem OO:Go1 P0 rO tq:=go1 rfl rfl rfl
theorem Ko:Go1 P0 oO uo:=go1 rfl rfl rfl
theorem OQ:Go1 P0 rP wG:=go1 rfl rfl rfl
theorem HY:Go1 P0 mg nV:=go1 rfl rfl rfl
theorem BK:Go1 P0 bI gV:=go1 rfl rfl rfl
theorem Df:Go1 P0 dP aJ:=go1 rfl rfl rfl
theorem yB:Go1 P0 aF lU:=go1 rfl rfl rfl
theorem H7:Go1 P0 pF qQ:=go1 rfl rfl rfl
theorem EU:Go1 P0 fK lT:=go1 rfl rfl rfl
theorem xA:Go1 P0 jG iD:=go1 rfl rfl rfl
theorem EW:Go1 P0 jo iW:=go1 rfl rfl rfl
theorem Eb:Go1 P0 jb fH:=go1 rfl rfl rfl
theorem Aw:Go1 P0 gm jl:=go1 rfl rfl rfl
theorem Dc:Go1 P0 iO jh:=go1 rfl rfl rfl
theorem EX:Go1 P0 jq iZ:=go1 rfl rfl rfl
theorem yC:Go1 P0 nC jQ:=go1 rfl rfl rfl
theorem rG:Go1 P0 lD ji:=go1 rfl rfl rfl
theorem sH:Go1 P0 fA dM:=go1 rfl rfl rfl
theorem Az:Go1 P0 gu bJ:=go1 rfl rfl rfl
theorem o9:Go1 P0 jM dS:=go1 rfl rfl rfl
theorem H6:Go1 P0 mr lF:=go1 rfl rfl rfl
theorem J9:Go1 P0 rQ nJ:=go1 rfl rfl rfl
theorem Me:Go1 P0 qg uY:=go1 rfl rfl rfl
theorem Md:Go1 P0 tC rC:=go1 rfl rfl rfl
theorem ET:Go1 P0 jm jP:=go1 rfl rfl rfl
theorem S9:Go1 P0 sS tN:=go1 rfl rfl rfl
theorem SX:Go1 P0 xY yS:=go1 rfl rfl rfl
theorem OL:Go1 P0 ny wE:=go1 rfl rfl rfl
theorem Rk:Go1 P0 qO qX:=go1 rfl rfl rfl
theorem FY:Go1 P0 nZ kM:=go1 rfl rfl rfl
theorem OT:Go1 P0 gJ pY:=go1 rfl rfl rfl
theorem qK:Go1 P0 dG dY:=go1 rfl rfl rfl
theorem rX:Go1 P0 dQ fE:=go1 rfl rfl rfl
theorem vZ:Go1 P0 iM oC:=go1 rfl rfl rfl
theorem tV:Go1 P0 xZ kW:=go1 rfl rfl rfl
theorem SY:Go1 P0 mQ vY:=go1 rfl rfl rfl
theorem ES:Go1 P0 aH iq:=go1 rfl rfl rfl
theorem Jf:Go1 P0 iG gX:=go1 rfl rfl rfl
theorem MJ:Go1 P0 lJ oK:=go1 rfl rfl rfl
theorem Ti:Go1 P0 sV oD:=go1 rfl rfl rfl
theorem kR:Go1 P0 aG ay:=go1 rfl rfl rfl
theorem kU:Go1 P0 aY aQ:=go1 rfl rfl rfl
theorem OM:Go1 P0 pz wF:=go1 rfl rfl rfl
theorem MB:Go1 P0 tH ve:=go1 rfl rfl rfl
theorem jI:Go1 P0 bf bV:=go1 rfl rfl rfl
theorem oG:Go1 P0 dU fJ:=go1 rfl rfl rfl
theorem iL:Go1 P0 bn bQ:=go1 rfl rfl rfl
theorem jF:Go1 P0 aI bP:=go1 rfl rfl rfl
theorem wo:Go1 P0 dH iF:=go1 rfl rfl rfl
theorem uN:Go1 P0 bU gG:=go1 rfl rfl rfl
theorem FZ:Go1 P0 ai qy:=go1 rfl rfl rfl
theorem VD:Go1 P0 zi xP:=go1 rfl rfl rfl
theorem Tf:Go1 P0 yh yU:=go1 rfl rfl rfl
theorem H9:Go1 P0 mD nX:=go1 rfl rfl rfl
theorem EZ:Go1 P0 nD pI:=go1 rfl rfl rfl
theorem OU:Go1 P0 rU wH:=go1 rfl rfl rfl
theorem Tc:Go1 P0 mV yT:=go1 rfl rfl rfl
theorem Rn:Go1 P0 jv xO:=go1 rfl rfl rfl
theorem MF:Go1 P0 lI vw:=go1 rfl rfl rfl
theorem MC:Go1 P0 jW vg:=go1 rfl rfl rfl
theorem adr {f:Nat} {fn:dw} (hi:CX.lookup f=none) (hf:Jh.lookup f=some fn):Go1 Pq f fn:=fun ho h=>goq hi hf ho h
theorem D8:Go1 Pq aH iq:=adr rfl rfl
theorem Rh:Go1 Pq sV oD:=adr rfl rfl
theorem Hz:Go1 Pq iG gX:=adr rfl rfl
theorem J8:Go1 Pq lJ oK:=adr rfl rfl
theorem kD:Go1 Pq aG ay:=adr rfl rfl
end Go.Ai.Z
