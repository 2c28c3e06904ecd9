/-
 The program in the small language: written by program.
-/
import Derived.Test.YtalbhlfigmlddaaGreatDoorAiDat
import Derived.Test.YtalbhlfigmlddaaGreatDoorAiC1
set_option maxRecDepth 100000
set_option linter.unusedSimpArgs false
set_option linter.unusedVariables false
set_option linter.unusedSectionVars false
namespace Go.Ai.Z
def Iu:List (Nat×aV):=
 [(lM,fB),
  (vU,xq),
  (gU,lZ),
  (pG,fK),
  (qL,jh),
  (lV,jr),
  (sW,cO),
  (pU,yL),
  (qK,aQ),
  (iR,kT),
  (mJ,fU),
  (nY,aI),
  (uj,vJ),
  (gI,jM),
  (fD,qc),
  (jJ,lS),
  (ug,rJ),
  (gJ,gq),
  (o6,qE),
  (lU,qV),
  (o7,uq),
  (mZ,sS),
  (kD,lD),
  (jD,nG),
  (dZ,dQ),
  (qJ,oU),
  (rZ,qF),
  (kF,dN),
  (mG,uw),
  (nX,jW),
  (bH,dV),
  (fP,dM),
  (iF,jX),
  (iL,lJ),
  (dI,aY),
  (mM,jA),
  (kE,jy),
  (o8,kW),
  (mY,sJ),
  (qG,oO),
  (ji,iH),
  (qB,qM),
  (vO,xk),
  (kU,uo),
  (oG,oN),
  (lH,ja),
  (dX,mQ),
  (bf,bU),
  (bG,dw),
  (kV,iJ),
  (rY,lm),
  (pq,kX),
  (uh,vI),
  (qI,sN),
  (kM,rP),
  (vS,qQ),
  (bF,dG),
  (gu,iT),
  (vT,Di),
  (yP,Gy),
  (jw,mP),
  (lC,sQ),
  (gy,eH),
  (jK,lT),
  (eu,dh),
  (gK,jC),
  (vV,tX),
  (iZ,lQ),
  (Ar,Em),
  (yw,Bd),
  (uz,Bc),
  (bW,fC),
  (sV,zX),
  (xQ,qi),
  (nU,qf),
  (pz,gQ),
  (zS,uV),
  (vP,qP),
  (pF,qW),
  (dY,cu),
  (dO,kQ),
  (bP,kS),
  (nV,qg),
  (fV,nJ),
  (dP,nK),
  (gB,dB),
  (mF,lF),
  (qH,sK),
  (jF,jd),
  (jH,aS),
  (jG,je),
  (jE,kR),
  (iC,jg)]
def Ju:List (Nat×List AV):=
 [(Aq,[.i .i64 0,.i .i64 0,.i .i64 0,.b false,.i .i64 0,.i .i64 0,.i .i64 0,.b false,.i .i64 0,.i .i64 0,.i .i64 0,.b false,.i .i64 1,.i .i64 0,.i .i64 0,.b false,.i .i64 2,.i .i64 0,.i .i64 0,.b false,.i .i64 0,.i .i64 2,.i .i64 8,.b false,.i .i64 1,.i .i64 1,.i .i64 1,.b false,.i .i64 1,.i .i64 0,.i .i64 0,.b true]),
  (vN,[.b false,.b false,.b false,.b false,.b false,.i .i64 0,.i .i64 0,
   .b true,.b true,.b false,.b false,.b false,.i .i64 0,.i .i64 0,
   .b true,.b true,.b false,.b false,.b false,.i .i64 0,.i .i64 0,
   .b true,.b true,.b false,.b false,.b false,.i .i64 0,.i .i64 0,
   .b false,.b true,.b true,.b false,.b false,.i .i64 0,.i .i64 0,
   .b false,.b false,.b true,.b false,.b false,.i .i64 1,.i .i64 1,
   .b false,.b false,.b true,.b false,.b false,.i .i64 2,.i .i64 4,
   .b false,.b false,.b true,.b false,.b false,.i .i64 0,.i .i64 0,
   .b false,.b true,.b false,.b true,.b false,.i .i64 0,.i .i64 0,
   .b false,.b false,.b true,.b true,.b true,.i .i64 0,.i .i64 0]),
  (wZ,[.i .u64 1,.i .u64 10,.i .u64 100,.i .u64 1000,.i .u64 10000,.i .u64 100000,.i .u64 1000000,.i .u64 10000000,.i .u64 100000000,.i .u64 1000000000,.i .u64 10000000000,.i .u64 100000000000,.i .u64 1000000000000,.i .u64 10000000000000,.i .u64 100000000000000,.i .u64 1000000000000000,.i .u64 10000000000000000,.i .u64 100000000000000000,.i .u64 1000000000000000000,.i .u64 10000000000000000000])]
def Eo:List (Nat×(List AV→St→Option AV)):=
 [(rX,Gt Wv),(o9,Gt Wx),(iV,Gt UG),(zQ,Gt Wy)]
def Ql:List (Nat×HiK):=
 [(iQ,.sortK 6),(jk,.sortS),(CW,.readK dY 114 (.ag [.ns,.ns]))]
def KR:List (Nat×(List AV→St→Option AV)):=
 []
def P0:sD:=⟨fun f=>Iu.lookup f,fun k=>Ju.lookup k,fun f=>Eo.lookup f,fun f=>Ql.lookup f,fun f=>KR.lookup f⟩
def Pq:sD:=P0.quiet
theorem go {f:Nat} {fn:aV} (hi:Eo.lookup f=none) (hh:Ql.lookup f=none) (hf:Iu.lookup f=some fn) {as cs args:List AV} {s:St} {cx:Ctx} {o:CO} (ho:o≠.fail)
  (h:af P0.glob (aj P0) fn (as++args++cs) s cx=o):aj P0 (.fn (.func f) as cs) args s cx=o:=LU hi hh hf ho h
theorem goq {f:Nat} {fn:aV} (hi:KR.lookup f=none) (hf:Iu.lookup f=some fn) {as cs args:List AV} {s:St} {cx:Ctx} {o:CO} (ho:o≠.fail)
  (h:af Pq.glob (aj Pq) fn (as++args++cs) s cx=o):aj Pq (.fn (.func f) as cs) args s cx=o:=LU (A:=Pq) hi rfl hf ho h
def Go1 (A:sD) (f:Nat) (fn:aV):Prop:=∀{as cs args:List AV} {s:St} {cx:Ctx} {o:CO},o≠.fail→af A.glob (aj A) fn (as++args++cs) s cx=o→aj A (.fn (.func f) as cs) args s cx=o
theorem go1 {f:Nat} {fn:aV} (hi:Eo.lookup f=none) (hh:Ql.lookup f=none) (hf:Iu.lookup f=some fn):Go1 P0 f fn:=fun ho h=>go hi hh hf ho h
theorem Bg:Go1 P0 lM fB:=go1 rfl rfl rfl
theorem RY:Go1 P0 vU xq:=go1 rfl rfl rfl
theorem Qu:Go1 P0 gU lZ:=go1 rfl rfl rfl
theorem N7:Go1 P0 pG fK:=go1 rfl rfl rfl
theorem Lp:Go1 P0 qL jh:=go1 rfl rfl rfl
theorem Jt:Go1 P0 lV jr:=go1 rfl rfl rfl
theorem RX:Go1 P0 sW cO:=go1 rfl rfl rfl
theorem UI:Go1 P0 pU yL:=go1 rfl rfl rfl
theorem Lm:Go1 P0 qK aQ:=go1 rfl rfl rfl
theorem Qv:Go1 P0 iR kT:=go1 rfl rfl rfl
theorem Gj:Go1 P0 mJ fU:=go1 rfl rfl rfl
theorem Iq:Go1 P0 nY aI:=go1 rfl rfl rfl
theorem Qr:Go1 P0 uj vJ:=go1 rfl rfl rfl
theorem DC:Go1 P0 gI jM:=go1 rfl rfl rfl
theorem Ik:Go1 P0 fD qc:=go1 rfl rfl rfl
theorem La:Go1 P0 jJ lS:=go1 rfl rfl rfl
theorem Qp:Go1 P0 ug rJ:=go1 rfl rfl rfl
theorem yM:Go1 P0 gJ gq:=go1 rfl rfl rfl
theorem NS:Go1 P0 o6 qE:=go1 rfl rfl rfl
theorem Jq:Go1 P0 lU qV:=go1 rfl rfl rfl
theorem NT:Go1 P0 o7 uq:=go1 rfl rfl rfl
theorem Lr:Go1 P0 mZ sS:=go1 rfl rfl rfl
theorem Gf:Go1 P0 kD lD:=go1 rfl rfl rfl
theorem Ey:Go1 P0 jD nG:=go1 rfl rfl rfl
theorem vk:Go1 P0 dZ dQ:=go1 rfl rfl rfl
theorem Lj:Go1 P0 qJ oU:=go1 rfl rfl rfl
theorem NZ:Go1 P0 rZ qF:=go1 rfl rfl rfl
theorem Gi:Go1 P0 kF dN:=go1 rfl rfl rfl
theorem NY:Go1 P0 mG uw:=go1 rfl rfl rfl
theorem Ip:Go1 P0 nX jW:=go1 rfl rfl rfl
theorem vK:Go1 P0 bH dV:=go1 rfl rfl rfl
theorem pR:Go1 P0 fP dM:=go1 rfl rfl rfl
theorem uJ:Go1 P0 iF jX:=go1 rfl rfl rfl
theorem Cc:Go1 P0 iL lJ:=go1 rfl rfl rfl
theorem oH:Go1 P0 dI aY:=go1 rfl rfl rfl
theorem Gl:Go1 P0 mM jA:=go1 rfl rfl rfl
theorem Gg:Go1 P0 kE jy:=go1 rfl rfl rfl
theorem Jp:Go1 P0 o8 kW:=go1 rfl rfl rfl
theorem Ld:Go1 P0 mY sJ:=go1 rfl rfl rfl
theorem Lc:Go1 P0 qG oO:=go1 rfl rfl rfl
theorem Dy:Go1 P0 ji iH:=go1 rfl rfl rfl
theorem RQ:Go1 P0 qB qM:=go1 rfl rfl rfl
theorem RP:Go1 P0 vO xk:=go1 rfl rfl rfl
theorem NR:Go1 P0 kU uo:=go1 rfl rfl rfl
theorem Qo:Go1 P0 oG oN:=go1 rfl rfl rfl
theorem Ew:Go1 P0 lH ja:=go1 rfl rfl rfl
theorem NU:Go1 P0 dX mQ:=go1 rfl rfl rfl
theorem oC:Go1 P0 bf bU:=go1 rfl rfl rfl
theorem pJ:Go1 P0 bG dw:=go1 rfl rfl rfl
theorem DF:Go1 P0 kV iJ:=go1 rfl rfl rfl
theorem NV:Go1 P0 rY lm:=go1 rfl rfl rfl
theorem Jr:Go1 P0 pq kX:=go1 rfl rfl rfl
theorem Qq:Go1 P0 uh vI:=go1 rfl rfl rfl
theorem Lh:Go1 P0 qI sN:=go1 rfl rfl rfl
theorem Qs:Go1 P0 kM rP:=go1 rfl rfl rfl
theorem RU:Go1 P0 vS qQ:=go1 rfl rfl rfl
theorem jY:Go1 P0 bF dG:=go1 rfl rfl rfl
theorem yg:Go1 P0 gu iT:=go1 rfl rfl rfl
theorem Ll:Go1 P0 lC sQ:=go1 rfl rfl rfl
theorem Ir:Go1 P0 gy eH:=go1 rfl rfl rfl
theorem Ls:Go1 P0 jK lT:=go1 rfl rfl rfl
theorem DI:Go1 P0 eu dh:=go1 rfl rfl rfl
theorem Gm:Go1 P0 gK jC:=go1 rfl rfl rfl
theorem RZ:Go1 P0 vV tX:=go1 rfl rfl rfl
theorem UJ:Go1 P0 xQ qi:=go1 rfl rfl rfl
theorem Il:Go1 P0 nU qf:=go1 rfl rfl rfl
theorem NW:Go1 P0 pz gQ:=go1 rfl rfl rfl
theorem WG:Go1 P0 zS uV:=go1 rfl rfl rfl
theorem RS:Go1 P0 vP qP:=go1 rfl rfl rfl
theorem Js:Go1 P0 pF qW:=go1 rfl rfl rfl
theorem Dz:Go1 P0 dY cu:=go1 rfl rfl rfl
theorem Ez:Go1 P0 dO kQ:=go1 rfl rfl rfl
theorem xH:Go1 P0 bP kS:=go1 rfl rfl rfl
theorem Io:Go1 P0 nV qg:=go1 rfl rfl rfl
theorem EF:Go1 P0 fV nJ:=go1 rfl rfl rfl
theorem EH:Go1 P0 dP nK:=go1 rfl rfl rfl
theorem Aj:Go1 P0 gB dB:=go1 rfl rfl rfl
theorem Gh:Go1 P0 mF lF:=go1 rfl rfl rfl
theorem Le:Go1 P0 qH sK:=go1 rfl rfl rfl
theorem ED:Go1 P0 jF jd:=go1 rfl rfl rfl
theorem EI:Go1 P0 jH aS:=go1 rfl rfl rfl
theorem EG:Go1 P0 jG je:=go1 rfl rfl rfl
theorem EC:Go1 P0 jE kR:=go1 rfl rfl rfl
theorem Bf:Go1 P0 iC jg:=go1 rfl rfl rfl
theorem ad4 {f:Nat} {fn:aV} (hi:KR.lookup f=none) (hf:Iu.lookup f=some fn):Go1 Pq f fn:=fun ho h=>goq hi hf ho h
theorem F9:Go1 Pq gy eH:=ad4 rfl rfl
theorem Jo:Go1 Pq jK lT:=ad4 rfl rfl
theorem BZ:Go1 Pq eu dh:=ad4 rfl rfl
theorem Et:Go1 Pq gK jC:=ad4 rfl rfl
end Go.Ai.Z
