/-
 Each function in the small language is a faithful copy: written by program.
-/
import Derived.Test.YtpnlnnfcaeednaaGreatDoorAiRn5
import Derived.Test.YtpnlnnfcaeednaaGreatDoorAiC2
import Derived.Test.YtpnlnnfcaeednaaGreatDoorChecked
set_option maxRecDepth 100000
set_option linter.unusedSimpArgs false
set_option linter.unusedVariables false
set_option linter.unusedSectionVars false
namespace Go.Ai.Z
open Go.Proofs
set_option maxRecDepth 100000
def okB (P:Program) (rf:Func) (fn:dA):Bool:=!(rf.name == "runtime.NumGoroutine") && (match rf.body with|some c=>yD P rf.ntmps c fn.code && decide (fn.np≤rf.ntmps) && Az P rf.results.toList fn.res|none=>false)
theorem okF {P:Program} {f:FuncId} {rf:Func} {fn:dA} (h:P.funcs[f]?=some rf) (h2:okB P rf fn=true):bM P f fn:=by
 unfold okB at h2
 cases hb:rf.body with
 | none=>rw [hb] at h2;simp at h2
 | some c=>
  rw [hb] at h2
  simp only [Bool.and_eq_true,Bool.not_eq_true',decide_eq_true_eq] at h2
  obtain ⟨h3,⟨h4,h5⟩,h6⟩:=h2
  exact ⟨rf,c,h,h3,hb,h4,h5,h6⟩
theorem y5:bM Tryz.prog kS dQ:=okF Tryz.func10 (by kernel_rfl)
theorem RJ:bM Tryz.prog xR Ik:=okF Tryz.func29 (by kernel_rfl)
theorem IU:bM Tryz.prog lG iL:=okF Tryz.func28 (by kernel_rfl)
theorem Oq:bM Tryz.prog mZ iU:=okF Tryz.func31 (by kernel_rfl)
theorem Ll:bM Tryz.prog sQ kM:=okF Tryz.func71 (by kernel_rfl)
theorem JK:bM Tryz.prog oJ lD:=okF Tryz.func72 (by kernel_rfl)
theorem RI:bM Tryz.prog vF eY:=okF Tryz.func73 (by kernel_rfl)
theorem UJ:bM Tryz.prog rF zG:=okF Tryz.func120 (by kernel_rfl)
theorem Lj:bM Tryz.prog sO bH:=okF Tryz.func121 (by kernel_rfl)
theorem tV:bM Tryz.prog bP dY:=okF Tryz.func65 (by kernel_rfl)
theorem G9:bM Tryz.prog kF qE:=okF Tryz.func66 (by kernel_rfl)
theorem Cc:bM Tryz.prog iR jl:=okF Tryz.func111 (by kernel_rfl)
theorem Ew:bM Tryz.prog aO jb:=okF Tryz.func137 (by kernel_rfl)
theorem Ce:bM Tryz.prog iT kL:=okF Tryz.func143 (by kernel_rfl)
theorem Dy:bM Tryz.prog aX nX:=okF Tryz.func67 (by kernel_rfl)
theorem Lm:bM Tryz.prog pX uX:=okF Tryz.func153 (by kernel_rfl)
theorem EC:bM Tryz.prog eX pq:=okF Tryz.func136 (by kernel_rfl)
theorem IQ:bM Tryz.prog gV lV:=okF Tryz.func104 (by kernel_rfl)
theorem Lc:bM Tryz.prog lJ oz:=okF Tryz.func93 (by kernel_rfl)
theorem Qb:bM Tryz.prog vT um:=okF Tryz.func129 (by kernel_rfl)
theorem zB:bM Tryz.prog jv jg:=okF Tryz.func151 (by kernel_rfl)
theorem Oi:bM Tryz.prog qW sK:=okF Tryz.func130 (by kernel_rfl)
theorem JF:bM Tryz.prog oI tJ:=okF Tryz.func152 (by kernel_rfl)
theorem Oj:bM Tryz.prog qX vX:=okF Tryz.func131 (by kernel_rfl)
theorem G6:bM Tryz.prog l9 nP:=okF Tryz.func94 (by kernel_rfl)
theorem BG:bM Tryz.prog bI gY:=okF Tryz.func49 (by kernel_rfl)
theorem BX:bM Tryz.prog dO aJ:=okF Tryz.func99 (by kernel_rfl)
theorem Et:bM Tryz.prog aF lS:=okF Tryz.func100 (by kernel_rfl)
theorem G8:bM Tryz.prog o8 qC:=okF Tryz.func139 (by kernel_rfl)
theorem Es:bM Tryz.prog fP lN:=okF Tryz.func118 (by kernel_rfl)
theorem BZ:bM Tryz.prog jD iG:=okF Tryz.func138 (by kernel_rfl)
theorem Eu:bM Tryz.prog jq ja:=okF Tryz.func112 (by kernel_rfl)
theorem Dz:bM Tryz.prog je fM:=okF Tryz.func113 (by kernel_rfl)
theorem Ae:bM Tryz.prog gJ jm:=okF Tryz.func114 (by kernel_rfl)
theorem BV:bM Tryz.prog iQ ji:=okF Tryz.func115 (by kernel_rfl)
theorem Ey:bM Tryz.prog jr jc:=okF Tryz.func116 (by kernel_rfl)
theorem Ez:bM Tryz.prog mY jP:=okF Tryz.func68 (by kernel_rfl)
theorem Cb:bM Tryz.prog lF jk:=okF Tryz.func117 (by kernel_rfl)
theorem DC:bM Tryz.prog fA dM:=okF Tryz.func58 (by kernel_rfl)
theorem Af:bM Tryz.prog gK bJ:=okF Tryz.func106 (by kernel_rfl)
theorem IL:bM Tryz.prog jL dU:=okF Tryz.func23 (by kernel_rfl)
theorem G7:bM Tryz.prog mg lH:=okF Tryz.func22 (by kernel_rfl)
theorem JE:bM Tryz.prog qY nC:=okF Tryz.func54 (by kernel_rfl)
theorem Le:bM Tryz.prog pW uP:=okF Tryz.func103 (by kernel_rfl)
theorem Ld:bM Tryz.prog sN qL:=okF Tryz.func55 (by kernel_rfl)
theorem Ep:bM Tryz.prog jo jO:=okF Tryz.func15 (by kernel_rfl)
theorem RF:bM Tryz.prog su sU:=okF Tryz.func43 (by kernel_rfl)
theorem Rx:bM Tryz.prog vw yJ:=okF Tryz.func44 (by kernel_rfl)
theorem Og:bM Tryz.prog jW sJ:=okF Tryz.func91 (by kernel_rfl)
theorem Qa:bM Tryz.prog mO oU:=okF Tryz.func92 (by kernel_rfl)
theorem Fj:bM Tryz.prog nT kK:=okF Tryz.func45 (by kernel_rfl)
theorem Ol:bM Tryz.prog gU pR:=okF Tryz.func56 (by kernel_rfl)
theorem qy:bM Tryz.prog dG eu:=okF Tryz.func105 (by kernel_rfl)
theorem qZ:bM Tryz.prog dP fD:=okF Tryz.func140 (by kernel_rfl)
theorem Ry:bM Tryz.prog iP oh:=okF Tryz.func46 (by kernel_rfl)
theorem Rz:bM Tryz.prog xO kX:=okF Tryz.func95 (by kernel_rfl)
theorem RD:bM Tryz.prog mP vO:=okF Tryz.func51 (by kernel_rfl)
theorem En:bM Tryz.prog aH iD:=okF Tryz.func52 (by kernel_rfl)
theorem IV:bM Tryz.prog fV ig:=okF Tryz.func61 (by kernel_rfl)
theorem Lp:bM Tryz.prog lK oC:=okF Tryz.func107 (by kernel_rfl)
theorem RN:bM Tryz.prog nZ oq:=okF Tryz.func60 (by kernel_rfl)
theorem kH:bM Tryz.prog aG ay:=okF Tryz.func101 (by kernel_rfl)
theorem rC:bM Tryz.prog aZ aQ:=okF Tryz.func133 (by kernel_rfl)
theorem Oh:bM Tryz.prog o7 vW:=okF Tryz.func134 (by kernel_rfl)
theorem Lh:bM Tryz.prog nN uV:=okF Tryz.func18 (by kernel_rfl)
theorem pJ:bM Tryz.prog bg bW:=okF Tryz.func69 (by kernel_rfl)
theorem vM:bM Tryz.prog dW fO:=okF Tryz.func119 (by kernel_rfl)
theorem rH:bM Tryz.prog bC bU:=okF Tryz.func144 (by kernel_rfl)
theorem uO:bM Tryz.prog aI bQ:=okF Tryz.func145 (by kernel_rfl)
theorem vN:bM Tryz.prog dH iJ:=okF Tryz.func157 (by kernel_rfl)
theorem ug:bM Tryz.prog bV gQ:=okF Tryz.func174 (by kernel_rfl)
theorem Fq:bM Tryz.prog ai qc:=okF Tryz.func70 (by kernel_rfl)
theorem JH:bM Tryz.prog vC Bc:=okF Tryz.func17 (by kernel_rfl)
theorem Hf:bM Tryz.prog wP zl:=okF Tryz.func48 (by kernel_rfl)
theorem He:bM Tryz.prog wO zk:=okF Tryz.func50 (by kernel_rfl)
theorem RG:bM Tryz.prog Eb Ij:=okF Tryz.func16 (by kernel_rfl)
theorem Om:bM Tryz.prog mX nJ:=okF Tryz.func47 (by kernel_rfl)
theorem JG:bM Tryz.prog kQ nD:=okF Tryz.func97 (by kernel_rfl)
theorem Fp:bM Tryz.prog nU mQ:=okF Tryz.func98 (by kernel_rfl)
theorem Oo:bM Tryz.prog o9 nK:=okF Tryz.func24 (by kernel_rfl)
theorem JJ:bM Tryz.prog aT qf:=okF Tryz.func57 (by kernel_rfl)
theorem JI:bM Tryz.prog jE tK:=okF Tryz.func59 (by kernel_rfl)
theorem UK:bM Tryz.prog yV xG:=okF Tryz.func30 (by kernel_rfl)
theorem Eo:bM Tryz.prog mW iZ:=okF Tryz.func25 (by kernel_rfl)
theorem Oe:bM Tryz.prog qV vV:=okF Tryz.func62 (by kernel_rfl)
theorem RH:bM Tryz.prog xP yK:=okF Tryz.func108 (by kernel_rfl)
theorem xY:bM Tryz.prog iH fF:=okF Tryz.func63 (by kernel_rfl)
theorem ED:bM Tryz.prog ng jQ:=okF Tryz.func109 (by kernel_rfl)
theorem Hg:bM Tryz.prog mr qF:=okF Tryz.func141 (by kernel_rfl)
theorem afD:∀p∈Jc,bM Tryz.prog p.1 p.2:=by
 simp only [Jc,List.forall_mem_cons]
 exact ⟨y5,RJ,IU,Oq,Ll,JK,RI,UJ,Lj,tV,G9,Cc,Ew,Ce,Dy,Lm,EC,IQ,Lc,Qb,zB,Oi,JF,Oj,G6,BG,BX,Et,G8,Es,BZ,Eu,Dz,Ae,BV,Ey,Ez,Cb,DC,Af,IL,G7,JE,Le,Ld,Ep,RF,Rx,Og,Qa,Fj,Ol,qy,qZ,Ry,Rz,RD,En,IV,Lp,RN,kH,rC,Oh,Lh,pJ,vM,rH,uO,vN,ug,Fq,JH,Hf,He,RG,Om,JG,Fp,Oo,JJ,JI,UK,Eo,Oe,RH,xY,ED,Hg,fun p hp=>by cases hp⟩
theorem mixed:Tryz.prog.follows .mixedOrders=true:=by kernel_rfl
end Go.Ai.Z
