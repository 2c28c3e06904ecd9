/-
 The program in the small language: written by program.
-/
import Derived.Test.YtalbhlfigmlddaaGreatDoorAiDat
import Derived.Test.YtalbhlfigmlddaaGreatDoorAiC1
set_option maxRecDepth 100000
set_option linter.unusedSimpArgs false
set_option linter.unusedVariables false
set_option linter.unusedSectionVars false
namespace Go.Ai.Z
def BB:List (Nat×aO):=
 [(eU,dI),
  (iZ,oV),
  (iw,yN),
  (sS,xw),
  (qB,vw),
  (oO,tV),
  (qX,Ag),
  (mW,CY),
  (qA,vk),
  (ku,yP),
  (mG,qH),
  (nP,rZ),
  (uD,yL),
  (gB,nV),
  (gI,rW),
  (fK,iC),
  (lS,kM),
  (dP,dN),
  (jA,jU),
  (iF,kz),
  (jB,lU),
  (iO,lg),
  (jP,qC),
  (jh,pz),
  (fG,iL),
  (qx,uX),
  (sQ,xq),
  (jR,qG),
  (kU,xk),
  (nO,rY),
  (bY,iR),
  (gU,jF),
  (iY,su),
  (iK,nI),
  (fU,jg),
  (mJ,qI),
  (jQ,qE),
  (oM,tJ),
  (lV,uP),
  (ql,uO),
  (iW,nT),
  (qW,Ae),
  (nK,oQ),
  (nJ,wY),
  (oZ,yH),
  (lI,pq),
  (jC,wZ),
  (bZ,eF),
  (dB,fA),
  (kV,nX),
  (sO,xg),
  (oN,tK),
  (uw,yJ),
  (qw,uV),
  (jZ,yM),
  (wV,Af),
  (gy,jq),
  (gY,jV),
  (nR,xu),
  (fF,jX),
  (aV,aZ),
  (bG,iD),
  (dO,bQ),
  (fM,iE),
  (bP,bF),
  (dQ,fH),
  (jS,iq),
  (aQ,aB),
  (uz,yK),
  (qy,vg),
  (lW,uY),
  (bC,dh),
  (lu,tN),
  (jW,dG),
  (gq,oU),
  (iG,kC),
  (kT,nU),
  (dK,pF),
  (cO,pI),
  (nN,rX),
  (fJ,pK),
  (dL,pR),
  (gJ,lN),
  (mF,qF),
  (qm,uU),
  (jk,pJ),
  (jm,pU),
  (jl,pO),
  (ji,pG),
  (gZ,mP)]
def Dj:List (Nat×List AV):=
 [(Au,[.i .i64 0,.i .i64 0,.i .i64 0,.b false,.i .i64 0,.i .i64 0,.i .i64 0,.b false,.i .i64 0,.i .i64 0,.i .i64 0,.b false,.i .i64 1,.i .i64 0,.i .i64 0,.b false,.i .i64 2,.i .i64 0,.i .i64 0,.b false,.i .i64 0,.i .i64 2,.i .i64 8,.b false,.i .i64 1,.i .i64 1,.i .i64 1,.b false,.i .i64 1,.i .i64 0,.i .i64 0,.b true]),
  (wU,[.b false,.b false,.b false,.b false,.b false,.i .i64 0,.i .i64 0,
   .b true,.b true,.b false,.b false,.b false,.i .i64 0,.i .i64 0,
   .b true,.b true,.b false,.b false,.b false,.i .i64 0,.i .i64 0,
   .b true,.b true,.b false,.b false,.b false,.i .i64 0,.i .i64 0,
   .b false,.b true,.b true,.b false,.b false,.i .i64 0,.i .i64 0,
   .b false,.b false,.b true,.b false,.b false,.i .i64 1,.i .i64 1,
   .b false,.b false,.b true,.b false,.b false,.i .i64 2,.i .i64 4,
   .b false,.b false,.b true,.b false,.b false,.i .i64 0,.i .i64 0,
   .b false,.b true,.b false,.b true,.b false,.i .i64 0,.i .i64 0,
   .b false,.b false,.b true,.b true,.b true,.i .i64 0,.i .i64 0]),
  (oL,[.i .u64 1,.i .u64 10,.i .u64 100,.i .u64 1000,.i .u64 10000,.i .u64 100000,.i .u64 1000000,.i .u64 10000000,.i .u64 100000000,.i .u64 1000000000,.i .u64 10000000000,.i .u64 100000000000,.i .u64 1000000000000,.i .u64 10000000000000,.i .u64 100000000000000,.i .u64 1000000000000000,.i .u64 10000000000000000,.i .u64 100000000000000000,.i .u64 1000000000000000000,.i .u64 10000000000000000000])]
def yQ:List (Nat×(List AV→St→Option AV)):=
 [(nM,JY SK),(kS,JY SL),(eH,JY KZ),(zf,JY SN)]
def Iu:List (Nat×HiK):=
 [(aN,.sortK 6),(kE,.sortS),(DU,.readK kT 114 (.ag [.ns,.ns]))]
def Eo:List (Nat×(List AV→St→Option AV)):=
 []
def P0:kX:=⟨fun f=>BB.lookup f,fun k=>Dj.lookup k,fun f=>yQ.lookup f,fun f=>Iu.lookup f,fun f=>Eo.lookup f⟩
def Pq:kX:=P0.quiet
theorem go {f:Nat} {fn:aO} (hi:yQ.lookup f=none) (hh:Iu.lookup f=none) (hf:BB.lookup f=some fn) {as cs args:List AV} {s:St} {cx:Ctx} {o:CO} (ho:o≠.fail)
  (h:au P0.glob (aH P0) fn (as++args++cs) s cx=o):aH P0 (.fn (.func f) as cs) args s cx=o:=EL hi hh hf ho h
theorem goq {f:Nat} {fn:aO} (hi:Eo.lookup f=none) (hf:BB.lookup f=some fn) {as cs args:List AV} {s:St} {cx:Ctx} {o:CO} (ho:o≠.fail)
  (h:au Pq.glob (aH Pq) fn (as++args++cs) s cx=o):aH Pq (.fn (.func f) as cs) args s cx=o:=EL (A:=Pq) hi rfl hf ho h
def Go1 (A:kX) (f:Nat) (fn:aO):Prop:=∀{as cs args:List AV} {s:St} {cx:Ctx} {o:CO},o≠.fail→au A.glob (aH A) fn (as++args++cs) s cx=o→aH A (.fn (.func f) as cs) args s cx=o
theorem go1 {f:Nat} {fn:aO} (hi:yQ.lookup f=none) (hh:Iu.lookup f=none) (hf:BB.lookup f=some fn):Go1 P0 f fn:=fun ho h=>go hi hh hf ho h
theorem lG:Go1 P0 eU dI:=go1 rfl rfl rfl
theorem JA:Go1 P0 iZ oV:=go1 rfl rfl rfl
theorem Ew:Go1 P0 fK iC:=go1 rfl rfl rfl
theorem IA:Go1 P0 lS kM:=go1 rfl rfl rfl
theorem qR:Go1 P0 dP dN:=go1 rfl rfl rfl
theorem Gf:Go1 P0 jA jU:=go1 rfl rfl rfl
theorem Dh:Go1 P0 iF kz:=go1 rfl rfl rfl
theorem Gg:Go1 P0 jB lU:=go1 rfl rfl rfl
theorem EC:Go1 P0 iO lg:=go1 rfl rfl rfl
theorem Jy:Go1 P0 nK oQ:=go1 rfl rfl rfl
theorem uj:Go1 P0 fF jX:=go1 rfl rfl rfl
theorem eX:Go1 P0 aV aZ:=go1 rfl rfl rfl
theorem Ez:Go1 P0 bG iD:=go1 rfl rfl rfl
theorem BA:Go1 P0 dO bQ:=go1 rfl rfl rfl
theorem ED:Go1 P0 fM iE:=go1 rfl rfl rfl
theorem xR:Go1 P0 bP bF:=go1 rfl rfl rfl
theorem zX:Go1 P0 dQ fH:=go1 rfl rfl rfl
theorem JB:Go1 P0 jS iq:=go1 rfl rfl rfl
theorem eG:Go1 P0 aQ aB:=go1 rfl rfl rfl
theorem Ey:Go1 P0 jW dG:=go1 rfl rfl rfl
theorem Jz:Go1 P0 gq oU:=go1 rfl rfl rfl
theorem Di:Go1 P0 iG kC:=go1 rfl rfl rfl
theorem Qb {f:Nat} {fn:aO} (hi:Eo.lookup f=none) (hf:BB.lookup f=some fn):Go1 Pq f fn:=fun ho h=>goq hi hf ho h
theorem Dc:Go1 Pq bG iD:=Qb rfl rfl
theorem Iy:Go1 Pq jS iq:=Qb rfl rfl
theorem zW:Go1 Pq dO bQ:=Qb rfl rfl
theorem Df:Go1 Pq fM iE:=Qb rfl rfl
theorem wE:Go1 Pq bP bF:=Qb rfl rfl
theorem yS:Go1 Pq dQ fH:=Qb rfl rfl
end Go.Ai.Z
