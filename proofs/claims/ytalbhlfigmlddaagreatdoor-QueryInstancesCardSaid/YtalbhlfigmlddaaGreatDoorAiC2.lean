/-
 The program in the small language: written by program.
-/
import Derived.Test.YtalbhlfigmlddaaGreatDoorAiDat
import Derived.Test.YtalbhlfigmlddaaGreatDoorAiC1
set_option maxRecDepth 100000
set_option linter.unusedSimpArgs false
set_option linter.unusedVariables false
set_option linter.unusedSectionVars false
namespace Go.Ai.Z
def Fp:List (Nat×aQ):=
 [(kE,bV),
  (tZ,ve),
  (kH,BR),
  (yw,AA),
  (wE,zo),
  (uU,yF),
  (wZ,Ee),
  (su,Gs),
  (wB,zn),
  (gu,jI),
  (kT,fD),
  (lU,aC),
  (rq,sZ),
  (fV,jh),
  (eH,oh),
  (jd,kJ),
  (qY,pY),
  (fZ,fK),
  (nH,oO),
  (kM,pI),
  (nI,rE),
  (lm,qI),
  (jv,jU),
  (jb,lG),
  (dP,dH),
  (o8,ng),
  (qx,oQ),
  (jy,dG),
  (kS,rF),
  (lT,jo),
  (bn,dL),
  (fB,dD),
  (fM,jq),
  (iC,jZ),
  (cO,aU),
  (kU,iZ),
  (jw,iY),
  (nJ,jM),
  (kZ,qE),
  (oV,mW),
  (iH,gZ),
  (oL,o9),
  (tN,uX),
  (jJ,rD),
  (l9,mV),
  (jX,iG),
  (dN,kW),
  (aW,bH),
  (bf,cu),
  (jL,iq),
  (qm,jT),
  (nK,jO),
  (qZ,sW),
  (oW,qF),
  (pz,BQ),
  (Ap,Ed),
  (jK,mY),
  (kC,oP),
  (tY,Az),
  (qK,uY),
  (dO,fC),
  (dh,kK),
  (fO,dR),
  (je,kL),
  (dQ,bW),
  (gm,ja),
  (oM,kG),
  (dB,aT),
  (yS,BP),
  (wz,zk),
  (lg,qH),
  (bM,eG),
  (iI,fJ),
  (vU,oz),
  (lS,oq),
  (nM,gq),
  (uP,rW),
  (oZ,qG),
  (qw,uh),
  (fF,vG),
  (eF,vI),
  (tX,xR),
  (jc,vK),
  (fG,vN),
  (jQ,qV),
  (rQ,wK),
  (wu,zh),
  (mM,vJ),
  (mP,vO),
  (mO,vM),
  (mJ,vH),
  (kD,rX)]
def GH:List (Nat×List AV):=
 [(yR,[.i .i64 0,.i .i64 0,.i .i64 0,.b false,.i .i64 0,.i .i64 0,.i .i64 0,.b false,.i .i64 0,.i .i64 0,.i .i64 0,.b false,.i .i64 1,.i .i64 0,.i .i64 0,.b false,.i .i64 2,.i .i64 0,.i .i64 0,.b false,.i .i64 0,.i .i64 2,.i .i64 8,.b false,.i .i64 1,.i .i64 1,.i .i64 1,.b false,.i .i64 1,.i .i64 0,.i .i64 0,.b true]),
  (tK,[.b false,.b false,.b false,.b false,.b false,.i .i64 0,.i .i64 0,
   .b true,.b true,.b false,.b false,.b false,.i .i64 0,.i .i64 0,
   .b true,.b true,.b false,.b false,.b false,.i .i64 0,.i .i64 0,
   .b true,.b true,.b false,.b false,.b false,.i .i64 0,.i .i64 0,
   .b false,.b true,.b true,.b false,.b false,.i .i64 0,.i .i64 0,
   .b false,.b false,.b true,.b false,.b false,.i .i64 1,.i .i64 1,
   .b false,.b false,.b true,.b false,.b false,.i .i64 2,.i .i64 4,
   .b false,.b false,.b true,.b false,.b false,.i .i64 0,.i .i64 0,
   .b false,.b true,.b false,.b true,.b false,.i .i64 0,.i .i64 0,
   .b false,.b false,.b true,.b true,.b true,.i .i64 0,.i .i64 0]),
  (uO,[.i .u64 1,.i .u64 10,.i .u64 100,.i .u64 1000,.i .u64 10000,.i .u64 100000,.i .u64 1000000,.i .u64 10000000,.i .u64 100000000,.i .u64 1000000000,.i .u64 10000000000,.i .u64 100000000000,.i .u64 1000000000000,.i .u64 10000000000000,.i .u64 100000000000000,.i .u64 1000000000000000,.i .u64 10000000000000000,.i .u64 100000000000000000,.i .u64 1000000000000000000,.i .u64 10000000000000000000])]
def BU:List (Nat×(List AV→St→Option AV)):=
 [(tV,PL Y5),(ql,PL Y6),(iE,PL QT),(CZ,PL Y7)]
def NG:List (Nat×HiK):=
 [(bC,.sortK 6),(iJ,.sortS),(H9,.readK qw 114 (.ag [.ns,.ns]))]
def IQ:List (Nat×(List AV→St→Option AV)):=
 []
def P0:qA:=⟨fun f=>Fp.lookup f,fun k=>GH.lookup k,fun f=>BU.lookup f,fun f=>NG.lookup f,fun f=>IQ.lookup f⟩
def Pq:qA:=P0.quiet
theorem go {f:Nat} {fn:aQ} (hi:BU.lookup f=none) (hh:NG.lookup f=none) (hf:Fp.lookup f=some fn) {as cs args:List AV} {s:St} {cx:Ctx} {o:CO} (ho:o≠.fail)
  (h:ah P0.glob (aj P0) fn (as++args++cs) s cx=o):aj P0 (.fn (.func f) as cs) args s cx=o:=Jq hi hh hf ho h
theorem goq {f:Nat} {fn:aQ} (hi:IQ.lookup f=none) (hf:Fp.lookup f=some fn) {as cs args:List AV} {s:St} {cx:Ctx} {o:CO} (ho:o≠.fail)
  (h:ah Pq.glob (aj Pq) fn (as++args++cs) s cx=o):aj Pq (.fn (.func f) as cs) args s cx=o:=Jq (A:=Pq) hi rfl hf ho h
def Go1 (A:qA) (f:Nat) (fn:aQ):Prop:=∀{as cs args:List AV} {s:St} {cx:Ctx} {o:CO},o≠.fail→ah A.glob (aj A) fn (as++args++cs) s cx=o→aj A (.fn (.func f) as cs) args s cx=o
theorem go1 {f:Nat} {fn:aQ} (hi:BU.lookup f=none) (hh:NG.lookup f=none) (hf:Fp.lookup f=some fn):Go1 P0 f fn:=fun ho h=>go hi hh hf ho h
theorem zq:Go1 P0 kE bV:=go1 rfl rfl rfl
theorem O6:Go1 P0 tZ ve:=go1 rfl rfl rfl
theorem NR:Go1 P0 gu jI:=go1 rfl rfl rfl
theorem DX:Go1 P0 kT fD:=go1 rfl rfl rfl
theorem Fh:Go1 P0 lU aC:=go1 rfl rfl rfl
theorem NQ:Go1 P0 rq sZ:=go1 rfl rfl rfl
theorem Ba:Go1 P0 fV jh:=go1 rfl rfl rfl
theorem Fb:Go1 P0 eH oh:=go1 rfl rfl rfl
theorem IZ:Go1 P0 jd kJ:=go1 rfl rfl rfl
theorem NM:Go1 P0 qY pY:=go1 rfl rfl rfl
theorem wW:Go1 P0 fZ fK:=go1 rfl rfl rfl
theorem KL:Go1 P0 nH oO:=go1 rfl rfl rfl
theorem Gy:Go1 P0 kM pI:=go1 rfl rfl rfl
theorem KN:Go1 P0 nI rE:=go1 rfl rfl rfl
theorem Jc:Go1 P0 lm qI:=go1 rfl rfl rfl
theorem DU:Go1 P0 jv jU:=go1 rfl rfl rfl
theorem Cc:Go1 P0 jb lG:=go1 rfl rfl rfl
theorem sK:Go1 P0 dP dH:=go1 rfl rfl rfl
theorem I9:Go1 P0 o8 ng:=go1 rfl rfl rfl
theorem KT:Go1 P0 qx oQ:=go1 rfl rfl rfl
theorem DW:Go1 P0 jy dG:=go1 rfl rfl rfl
theorem KR:Go1 P0 kS rF:=go1 rfl rfl rfl
theorem Fg:Go1 P0 lT jo:=go1 rfl rfl rfl
theorem tq:Go1 P0 bn dL:=go1 rfl rfl rfl
theorem nT:Go1 P0 fB dD:=go1 rfl rfl rfl
theorem rJ:Go1 P0 fM jq:=go1 rfl rfl rfl
theorem zV:Go1 P0 iC jZ:=go1 rfl rfl rfl
theorem mg:Go1 P0 cO aU:=go1 rfl rfl rfl
theorem DY:Go1 P0 kU iZ:=go1 rfl rfl rfl
theorem DV:Go1 P0 jw iY:=go1 rfl rfl rfl
theorem Gx:Go1 P0 nJ jM:=go1 rfl rfl rfl
theorem I5:Go1 P0 kZ qE:=go1 rfl rfl rfl
theorem I4:Go1 P0 oV mW:=go1 rfl rfl rfl
theorem A8:Go1 P0 iH gZ:=go1 rfl rfl rfl
theorem O4:Go1 P0 oL o9:=go1 rfl rfl rfl
theorem O3:Go1 P0 tN uX:=go1 rfl rfl rfl
theorem KJ:Go1 P0 jJ rD:=go1 rfl rfl rfl
theorem NK:Go1 P0 l9 mV:=go1 rfl rfl rfl
theorem Cb:Go1 P0 jX iG:=go1 rfl rfl rfl
theorem KO:Go1 P0 dN kW:=go1 rfl rfl rfl
theorem l7:Go1 P0 aW bH:=go1 rfl rfl rfl
theorem nP:Go1 P0 bf cu:=go1 rfl rfl rfl
theorem Bc:Go1 P0 jL iq:=go1 rfl rfl rfl
theorem KP:Go1 P0 qm jT:=go1 rfl rfl rfl
theorem Gz:Go1 P0 nK jO:=go1 rfl rfl rfl
theorem NP:Go1 P0 qZ sW:=go1 rfl rfl rfl
theorem I7:Go1 P0 oW qF:=go1 rfl rfl rfl
theorem O5:Go1 P0 qK uY:=go1 rfl rfl rfl
theorem sJ:Go1 P0 dO fC:=go1 rfl rfl rfl
theorem Jb:Go1 P0 dh kK:=go1 rfl rfl rfl
theorem Fj:Go1 P0 fO dR:=go1 rfl rfl rfl
theorem Jd:Go1 P0 je kL:=go1 rfl rfl rfl
theorem Bd:Go1 P0 dQ bW:=go1 rfl rfl rfl
theorem DZ:Go1 P0 gm ja:=go1 rfl rfl rfl
theorem O7:Go1 P0 oM kG:=go1 rfl rfl rfl
theorem qW:Go1 P0 dB aT:=go1 rfl rfl rfl
theorem Ja:Go1 P0 lg qH:=go1 rfl rfl rfl
theorem jP:Go1 P0 iI fJ:=go1 rfl rfl rfl
theorem QV:Go1 P0 vU oz:=go1 rfl rfl rfl
theorem Fe:Go1 P0 lS oq:=go1 rfl rfl rfl
theorem KQ:Go1 P0 nM gq:=go1 rfl rfl rfl
theorem Tj:Go1 P0 uP rW:=go1 rfl rfl rfl
theorem I8:Go1 P0 oZ qG:=go1 rfl rfl rfl
theorem WU {f:Nat} {fn:aQ} (hi:IQ.lookup f=none) (hf:Fp.lookup f=some fn):Go1 Pq f fn:=fun ho h=>goq hi hf ho h
theorem Gv:Go1 Pq dh kK:=WU rfl rfl
theorem NI:Go1 Pq oM kG:=WU rfl rfl
theorem DT:Go1 Pq fO dR:=WU rfl rfl
theorem Gw:Go1 Pq je kL:=WU rfl rfl
theorem zU:Go1 Pq dQ bW:=WU rfl rfl
theorem BZ:Go1 Pq gm ja:=WU rfl rfl
end Go.Ai.Z
