/-
 Each function in the small language is a faithful copy: written by program.
-/
import Derived.Test.YtpnlnnfcaeednaaGreatDoorAiRn5
import Derived.Test.YtpnlnnfcaeednaaGreatDoorAiC2
import Derived.Test.YtpnlnnfcaeednaaGreatDoorChecked
set_option maxRecDepth 100000
set_option linter.unusedSimpArgs false
set_option linter.unusedVariables false
set_option linter.unusedSectionVars false
namespace Go.Ai.Z
open Go.Proofs
set_option maxRecDepth 100000
def okB (P:Program) (rf:Func) (fn:dA):Bool:=!(rf.name == "runtime.NumGoroutine") && (match rf.body with|some c=>yK P rf.ntmps c fn.code && decide (fn.np≤rf.ntmps) && AO P rf.results.toList fn.res|none=>false)
theorem okF {P:Program} {f:FuncId} {rf:Func} {fn:dA} (h:P.funcs[f]?=some rf) (h2:okB P rf fn=true):bI P f fn:=by
 unfold okB at h2
 cases hb:rf.body with
 | none=>rw [hb] at h2;simp at h2
 | some c=>
  rw [hb] at h2
  simp only [Bool.and_eq_true,Bool.not_eq_true',decide_eq_true_eq] at h2
  obtain ⟨h3,⟨h4,h5⟩,h6⟩:=h2
  exact ⟨rf,c,h,h3,hb,h4,h5,h6⟩
theorem zB:bI Tryz.prog lH aP:=okF Tryz.func6 (by kernel_rfl)
theorem Tj:bI Tryz.prog yh Ik:=okF Tryz.func29 (by kernel_rfl)
theorem IW:bI Tryz.prog ji iK:=okF Tryz.func28 (by kernel_rfl)
theorem OQ:bI Tryz.prog nK iU:=okF Tryz.func31 (by kernel_rfl)
theorem LW:bI Tryz.prog tJ kN:=okF Tryz.func71 (by kernel_rfl)
theorem JQ:bI Tryz.prog oP lC:=okF Tryz.func72 (by kernel_rfl)
theorem Ti:bI Tryz.prog vK fA:=okF Tryz.func73 (by kernel_rfl)
theorem Vp:bI Tryz.prog su zJ:=okF Tryz.func120 (by kernel_rfl)
theorem LV:bI Tryz.prog tH bH:=okF Tryz.func121 (by kernel_rfl)
theorem uo:bI Tryz.prog bP dY:=okF Tryz.func65 (by kernel_rfl)
theorem He:bI Tryz.prog kF qR:=okF Tryz.func66 (by kernel_rfl)
theorem CB:bI Tryz.prog iQ jq:=okF Tryz.func111 (by kernel_rfl)
theorem EF:bI Tryz.prog aO jb:=okF Tryz.func137 (by kernel_rfl)
theorem CG:bI Tryz.prog iR kM:=okF Tryz.func143 (by kernel_rfl)
theorem DK:bI Tryz.prog aW oz:=okF Tryz.func67 (by kernel_rfl)
theorem LZ:bI Tryz.prog qi vk:=okF Tryz.func153 (by kernel_rfl)
theorem EI:bI Tryz.prog eU pG:=okF Tryz.func136 (by kernel_rfl)
theorem IV:bI Tryz.prog gK mg:=okF Tryz.func104 (by kernel_rfl)
theorem LJ:bI Tryz.prog lK oJ:=okF Tryz.func93 (by kernel_rfl)
theorem QI:bI Tryz.prog wu uG:=okF Tryz.func129 (by kernel_rfl)
theorem zD:bI Tryz.prog jA jh:=okF Tryz.func151 (by kernel_rfl)
theorem OH:bI Tryz.prog rP sZ:=okF Tryz.func130 (by kernel_rfl)
theorem JJ:bI Tryz.prog oO um:=okF Tryz.func152 (by kernel_rfl)
theorem OI:bI Tryz.prog rQ wG:=okF Tryz.func131 (by kernel_rfl)
theorem G7:bI Tryz.prog mF nY:=okF Tryz.func94 (by kernel_rfl)
theorem BF:bI Tryz.prog bJ gV:=okF Tryz.func49 (by kernel_rfl)
theorem Ci:bI Tryz.prog dP aK:=okF Tryz.func99 (by kernel_rfl)
theorem EC:bI Tryz.prog aF lV:=okF Tryz.func100 (by kernel_rfl)
theorem G9:bI Tryz.prog pF qQ:=okF Tryz.func139 (by kernel_rfl)
theorem Ez:bI Tryz.prog fP lU:=okF Tryz.func118 (by kernel_rfl)
theorem Cj:bI Tryz.prog jJ iD:=okF Tryz.func138 (by kernel_rfl)
theorem ED:bI Tryz.prog jw ja:=okF Tryz.func112 (by kernel_rfl)
theorem DL:bI Tryz.prog je fK:=okF Tryz.func113 (by kernel_rfl)
theorem Ak:bI Tryz.prog gu jr:=okF Tryz.func114 (by kernel_rfl)
theorem Ce:bI Tryz.prog iP jm:=okF Tryz.func115 (by kernel_rfl)
theorem EG:bI Tryz.prog jy jc:=okF Tryz.func116 (by kernel_rfl)
theorem EH:bI Tryz.prog nI jR:=okF Tryz.func68 (by kernel_rfl)
theorem Cm:bI Tryz.prog lG jo:=okF Tryz.func117 (by kernel_rfl)
theorem DN:bI Tryz.prog fB dN:=okF Tryz.func58 (by kernel_rfl)
theorem Am:bI Tryz.prog gB bK:=okF Tryz.func106 (by kernel_rfl)
theorem IU:bI Tryz.prog jP dW:=okF Tryz.func23 (by kernel_rfl)
theorem G8:bI Tryz.prog mG lI:=okF Tryz.func22 (by kernel_rfl)
theorem JI:bI Tryz.prog rU nO:=okF Tryz.func54 (by kernel_rfl)
theorem LM:bI Tryz.prog qg uV:=okF Tryz.func103 (by kernel_rfl)
theorem LK:bI Tryz.prog tq rD:=okF Tryz.func55 (by kernel_rfl)
theorem Ey:bI Tryz.prog jv jQ:=okF Tryz.func15 (by kernel_rfl)
theorem Tc:bI Tryz.prog sS tN:=okF Tryz.func43 (by kernel_rfl)
theorem SV:bI Tryz.prog xY yS:=okF Tryz.func44 (by kernel_rfl)
theorem OE:bI Tryz.prog nH wE:=okF Tryz.func91 (by kernel_rfl)
theorem QG:bI Tryz.prog qM qY:=okF Tryz.func92 (by kernel_rfl)
theorem Fv:bI Tryz.prog ou kL:=okF Tryz.func45 (by kernel_rfl)
theorem OJ:bI Tryz.prog gJ pX:=okF Tryz.func56 (by kernel_rfl)
theorem qI:bI Tryz.prog dF dZ:=okF Tryz.func105 (by kernel_rfl)
theorem rW:bI Tryz.prog dQ fF:=okF Tryz.func140 (by kernel_rfl)
theorem SX:bI Tryz.prog iO oD:=okF Tryz.func46 (by kernel_rfl)
theorem SY:bI Tryz.prog xZ kW:=okF Tryz.func95 (by kernel_rfl)
theorem S9:bI Tryz.prog mZ vY:=okF Tryz.func51 (by kernel_rfl)
theorem Ew:bI Tryz.prog aI iq:=okF Tryz.func52 (by kernel_rfl)
theorem IY:bI Tryz.prog iH gX:=okF Tryz.func61 (by kernel_rfl)
theorem L6:bI Tryz.prog lN oK:=okF Tryz.func107 (by kernel_rfl)
theorem Tm:bI Tryz.prog sU oG:=okF Tryz.func60 (by kernel_rfl)
theorem kJ:bI Tryz.prog aG ay:=okF Tryz.func101 (by kernel_rfl)
theorem rX:bI Tryz.prog aY aQ:=okF Tryz.func133 (by kernel_rfl)
theorem OG:bI Tryz.prog pz wF:=okF Tryz.func134 (by kernel_rfl)
theorem LP:bI Tryz.prog tC uX:=okF Tryz.func18 (by kernel_rfl)
theorem pV:bI Tryz.prog bg bW:=okF Tryz.func69 (by kernel_rfl)
theorem vW:bI Tryz.prog dX fO:=okF Tryz.func119 (by kernel_rfl)
theorem sF:bI Tryz.prog bC bU:=okF Tryz.func144 (by kernel_rfl)
theorem uU:bI Tryz.prog aJ bQ:=okF Tryz.func145 (by kernel_rfl)
theorem vX:bI Tryz.prog dH iG:=okF Tryz.func157 (by kernel_rfl)
theorem uz:bI Tryz.prog bV gI:=okF Tryz.func174 (by kernel_rfl)
theorem FB:bI Tryz.prog ai qy:=okF Tryz.func70 (by kernel_rfl)
theorem JL:bI Tryz.prog vJ Bf:=okF Tryz.func17 (by kernel_rfl)
theorem Hg:bI Tryz.prog wY zo:=okF Tryz.func48 (by kernel_rfl)
theorem Hf:bI Tryz.prog wX zn:=okF Tryz.func50 (by kernel_rfl)
theorem Td:bI Tryz.prog Eh Ij:=okF Tryz.func16 (by kernel_rfl)
theorem OL:bI Tryz.prog x9 Eo:=okF Tryz.func47 (by kernel_rfl)
theorem JK:bI Tryz.prog yN Bd:=okF Tryz.func97 (by kernel_rfl)
theorem Fz:bI Tryz.prog vS yZ:=okF Tryz.func98 (by kernel_rfl)
theorem OM:bI Tryz.prog yg Ep:=okF Tryz.func24 (by kernel_rfl)
theorem JO:bI Tryz.prog yP Bh:=okF Tryz.func57 (by kernel_rfl)
theorem JM:bI Tryz.prog yO Bg:=okF Tryz.func59 (by kernel_rfl)
theorem Vq:bI Tryz.prog zf xO:=okF Tryz.func30 (by kernel_rfl)
theorem Hl:bI Tryz.prog mJ nZ:=okF Tryz.func32 (by kernel_rfl)
theorem EK:bI Tryz.prog nJ pI:=okF Tryz.func74 (by kernel_rfl)
theorem OO:bI Tryz.prog rV wH:=okF Tryz.func123 (by kernel_rfl)
theorem Tf:bI Tryz.prog ng yT:=okF Tryz.func146 (by kernel_rfl)
theorem QJ:bI Tryz.prog jB xM:=okF Tryz.func122 (by kernel_rfl)
theorem LU:bI Tryz.prog lM vg:=okF Tryz.func124 (by kernel_rfl)
theorem LQ:bI Tryz.prog jW uY:=okF Tryz.func125 (by kernel_rfl)
theorem EJ:bI Tryz.prog kS lX:=okF Tryz.func33 (by kernel_rfl)
theorem agN:∀p∈Je,bI Tryz.prog p.1 p.2:=by
 simp only [Je,List.forall_mem_cons]
 exact ⟨zB,Tj,IW,OQ,LW,JQ,Ti,Vp,LV,uo,He,CB,EF,CG,DK,LZ,EI,IV,LJ,QI,zD,OH,JJ,OI,G7,BF,Ci,EC,G9,Ez,Cj,ED,DL,Ak,Ce,EG,EH,Cm,DN,Am,IU,G8,JI,LM,LK,Ey,Tc,SV,OE,QG,Fv,OJ,qI,rW,SX,SY,S9,Ew,IY,L6,Tm,kJ,rX,OG,LP,pV,vW,sF,uU,vX,uz,FB,JL,Hg,Hf,Td,OL,JK,Fz,OM,JO,JM,Vq,Hl,EK,OO,Tf,QJ,LU,LQ,EJ,fun p hp=>by cases hp⟩
theorem mixed:Tryz.prog.follows .mixedOrders=true:=by kernel_rfl
end Go.Ai.Z
