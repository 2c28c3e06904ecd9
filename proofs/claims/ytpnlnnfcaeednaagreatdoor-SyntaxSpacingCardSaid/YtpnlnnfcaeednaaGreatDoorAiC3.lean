/-
 Each function in the small language is a faithful copy: written by program.
-/
import Derived.Test.YtpnlnnfcaeednaaGreatDoorAiRn5
import Derived.Test.YtpnlnnfcaeednaaGreatDoorAiC2
import Derived.Test.YtpnlnnfcaeednaaGreatDoorChecked
set_option maxRecDepth 100000
set_option linter.unusedSimpArgs false
set_option linter.unusedVariables false
set_option linter.unusedSectionVars false
namespace Go.Ai.Z
open Go.Proofs
set_option maxRecDepth 100000
def okB (P:Program) (rf:Func) (fn:dw):Bool:=!(rf.name == "runtime.NumGoroutine") && (match rf.body with|some c=>yM P rf.ntmps c fn.code && decide (fn.np≤rf.ntmps) && AP P rf.results.toList fn.res|none=>false)
theorem okF {P:Program} {f:FuncId} {rf:Func} {fn:dw} (h:P.funcs[f]?=some rf) (h2:okB P rf fn=true):bH P f fn:=by
 unfold okB at h2
 cases hb:rf.body with
 | none=>rw [hb] at h2;simp at h2
 | some c=>
  rw [hb] at h2
  simp only [Bool.and_eq_true,Bool.not_eq_true',decide_eq_true_eq] at h2
  obtain ⟨h3,⟨h4,h5⟩,h6⟩:=h2
  exact ⟨rf,c,h,h3,hb,h4,h5,h6⟩
theorem DU:bH Tryz.prog pO gI:=okF Tryz.func8 (by kernel_rfl)
theorem SS:bH Tryz.prog yj Ip:=okF Tryz.func29 (by kernel_rfl)
theorem I5:bH Tryz.prog jO iJ:=okF Tryz.func28 (by kernel_rfl)
theorem OI:bH Tryz.prog nG iR:=okF Tryz.func31 (by kernel_rfl)
theorem LK:bH Tryz.prog qi kQ:=okF Tryz.func71 (by kernel_rfl)
theorem JS:bH Tryz.prog oP lC:=okF Tryz.func72 (by kernel_rfl)
theorem SN:bH Tryz.prog sU eY:=okF Tryz.func73 (by kernel_rfl)
theorem Vg:bH Tryz.prog su zL:=okF Tryz.func120 (by kernel_rfl)
theorem LJ:bH Tryz.prog tJ bG:=okF Tryz.func121 (by kernel_rfl)
theorem uq:bH Tryz.prog bM dW:=okF Tryz.func65 (by kernel_rfl)
theorem Hl:bH Tryz.prog kG qR:=okF Tryz.func66 (by kernel_rfl)
theorem CJ:bH Tryz.prog iP jk:=okF Tryz.func111 (by kernel_rfl)
theorem EL:bH Tryz.prog aO iY:=okF Tryz.func137 (by kernel_rfl)
theorem CP:bH Tryz.prog iQ kN:=okF Tryz.func143 (by kernel_rfl)
theorem DN:bH Tryz.prog aW oq:=okF Tryz.func67 (by kernel_rfl)
theorem LM:bH Tryz.prog qj vC:=okF Tryz.func153 (by kernel_rfl)
theorem EO:bH Tryz.prog eH pG:=okF Tryz.func136 (by kernel_rfl)
theorem I4:bH Tryz.prog gK lY:=okF Tryz.func104 (by kernel_rfl)
theorem Ls:bH Tryz.prog lH oJ:=okF Tryz.func93 (by kernel_rfl)
theorem QA:bH Tryz.prog wz uJ:=okF Tryz.func129 (by kernel_rfl)
theorem zF:bH Tryz.prog jr jd:=okF Tryz.func151 (by kernel_rfl)
theorem OB:bH Tryz.prog rO tq:=okF Tryz.func130 (by kernel_rfl)
theorem JL:bH Tryz.prog oO uo:=okF Tryz.func152 (by kernel_rfl)
theorem OC:bH Tryz.prog rP wG:=okF Tryz.func131 (by kernel_rfl)
theorem He:bH Tryz.prog mg nV:=okF Tryz.func94 (by kernel_rfl)
theorem BH:bH Tryz.prog bI gV:=okF Tryz.func49 (by kernel_rfl)
theorem Cm:bH Tryz.prog dP aJ:=okF Tryz.func99 (by kernel_rfl)
theorem EJ:bH Tryz.prog aF lU:=okF Tryz.func100 (by kernel_rfl)
theorem Hg:bH Tryz.prog pF qQ:=okF Tryz.func139 (by kernel_rfl)
theorem EI:bH Tryz.prog fK lT:=okF Tryz.func118 (by kernel_rfl)
theorem CB:bH Tryz.prog jG iD:=okF Tryz.func138 (by kernel_rfl)
theorem EK:bH Tryz.prog jo iW:=okF Tryz.func112 (by kernel_rfl)
theorem DR:bH Tryz.prog jb fH:=okF Tryz.func113 (by kernel_rfl)
theorem Ak:bH Tryz.prog gm jl:=okF Tryz.func114 (by kernel_rfl)
theorem Cj:bH Tryz.prog iO jh:=okF Tryz.func115 (by kernel_rfl)
theorem EM:bH Tryz.prog jq iZ:=okF Tryz.func116 (by kernel_rfl)
theorem EN:bH Tryz.prog nC jQ:=okF Tryz.func68 (by kernel_rfl)
theorem CG:bH Tryz.prog lD ji:=okF Tryz.func117 (by kernel_rfl)
theorem DT:bH Tryz.prog fA dM:=okF Tryz.func58 (by kernel_rfl)
theorem Am:bH Tryz.prog gu bJ:=okF Tryz.func106 (by kernel_rfl)
theorem IZ:bH Tryz.prog jM dS:=okF Tryz.func23 (by kernel_rfl)
theorem Hf:bH Tryz.prog mr lF:=okF Tryz.func22 (by kernel_rfl)
theorem JK:bH Tryz.prog rQ nJ:=okF Tryz.func54 (by kernel_rfl)
theorem LC:bH Tryz.prog qg uY:=okF Tryz.func103 (by kernel_rfl)
theorem Lu:bH Tryz.prog tC rC:=okF Tryz.func55 (by kernel_rfl)
theorem EH:bH Tryz.prog jm jP:=okF Tryz.func15 (by kernel_rfl)
theorem SI:bH Tryz.prog sS tN:=okF Tryz.func43 (by kernel_rfl)
theorem SC:bH Tryz.prog xY yS:=okF Tryz.func44 (by kernel_rfl)
theorem Oz:bH Tryz.prog ny wE:=okF Tryz.func91 (by kernel_rfl)
theorem Qz:bH Tryz.prog qO qX:=okF Tryz.func92 (by kernel_rfl)
theorem FH:bH Tryz.prog nZ kM:=okF Tryz.func45 (by kernel_rfl)
theorem OD:bH Tryz.prog gJ pY:=okF Tryz.func56 (by kernel_rfl)
theorem qI:bH Tryz.prog dG dY:=okF Tryz.func105 (by kernel_rfl)
theorem rV:bH Tryz.prog dQ fE:=okF Tryz.func140 (by kernel_rfl)
theorem SE:bH Tryz.prog iM oC:=okF Tryz.func46 (by kernel_rfl)
theorem SG:bH Tryz.prog xZ kW:=okF Tryz.func95 (by kernel_rfl)
theorem SH:bH Tryz.prog mQ vY:=okF Tryz.func51 (by kernel_rfl)
theorem EG:bH Tryz.prog aH iq:=okF Tryz.func52 (by kernel_rfl)
theorem I7:bH Tryz.prog iG gX:=okF Tryz.func61 (by kernel_rfl)
theorem LP:bH Tryz.prog lJ oK:=okF Tryz.func107 (by kernel_rfl)
theorem SV:bH Tryz.prog sV oD:=okF Tryz.func60 (by kernel_rfl)
theorem kK:bH Tryz.prog aG ay:=okF Tryz.func101 (by kernel_rfl)
theorem rW:bH Tryz.prog aY aQ:=okF Tryz.func133 (by kernel_rfl)
theorem OA:bH Tryz.prog pz wF:=okF Tryz.func134 (by kernel_rfl)
theorem LD:bH Tryz.prog tH ve:=okF Tryz.func18 (by kernel_rfl)
theorem pV:bH Tryz.prog bf bV:=okF Tryz.func69 (by kernel_rfl)
theorem vW:bH Tryz.prog dU fJ:=okF Tryz.func119 (by kernel_rfl)
theorem sF:bH Tryz.prog bn bQ:=okF Tryz.func144 (by kernel_rfl)
theorem uX:bH Tryz.prog aI bP:=okF Tryz.func145 (by kernel_rfl)
theorem vX:bH Tryz.prog dH iF:=okF Tryz.func157 (by kernel_rfl)
theorem uD:bH Tryz.prog bU gG:=okF Tryz.func174 (by kernel_rfl)
theorem FK:bH Tryz.prog ai qy:=okF Tryz.func70 (by kernel_rfl)
theorem JO:bH Tryz.prog vK Bg:=okF Tryz.func17 (by kernel_rfl)
theorem Hq:bH Tryz.prog wY zu:=okF Tryz.func48 (by kernel_rfl)
theorem Ho:bH Tryz.prog wX zq:=okF Tryz.func50 (by kernel_rfl)
theorem SK:bH Tryz.prog Eo Io:=okF Tryz.func16 (by kernel_rfl)
theorem OE:bH Tryz.prog x9 Ew:=okF Tryz.func47 (by kernel_rfl)
theorem JM:bH Tryz.prog yP Bf:=okF Tryz.func97 (by kernel_rfl)
theorem FI:bH Tryz.prog vS y7:=okF Tryz.func98 (by kernel_rfl)
theorem OG:bH Tryz.prog yg Ey:=okF Tryz.func24 (by kernel_rfl)
theorem JR:bH Tryz.prog yR Bj:=okF Tryz.func57 (by kernel_rfl)
theorem JQ:bH Tryz.prog yQ Bh:=okF Tryz.func59 (by kernel_rfl)
theorem Vh:bH Tryz.prog zi xP:=okF Tryz.func30 (by kernel_rfl)
theorem SQ:bH Tryz.prog yh yU:=okF Tryz.func34 (by kernel_rfl)
theorem Hr:bH Tryz.prog mD nX:=okF Tryz.func32 (by kernel_rfl)
theorem EP:bH Tryz.prog nD pI:=okF Tryz.func74 (by kernel_rfl)
theorem OH:bH Tryz.prog rU wH:=okF Tryz.func123 (by kernel_rfl)
theorem SL:bH Tryz.prog mV yT:=okF Tryz.func146 (by kernel_rfl)
theorem QB:bH Tryz.prog jv xO:=okF Tryz.func122 (by kernel_rfl)
theorem LH:bH Tryz.prog lI vw:=okF Tryz.func124 (by kernel_rfl)
theorem LG:bH Tryz.prog jW vg:=okF Tryz.func125 (by kernel_rfl)
theorem agK:∀p∈Jh,bH Tryz.prog p.1 p.2:=by
 simp only [Jh,List.forall_mem_cons]
 exact ⟨DU,SS,I5,OI,LK,JS,SN,Vg,LJ,uq,Hl,CJ,EL,CP,DN,LM,EO,I4,Ls,QA,zF,OB,JL,OC,He,BH,Cm,EJ,Hg,EI,CB,EK,DR,Ak,Cj,EM,EN,CG,DT,Am,IZ,Hf,JK,LC,Lu,EH,SI,SC,Oz,Qz,FH,OD,qI,rV,SE,SG,SH,EG,I7,LP,SV,kK,rW,OA,LD,pV,vW,sF,uX,vX,uD,FK,JO,Hq,Ho,SK,OE,JM,FI,OG,JR,JQ,Vh,SQ,Hr,EP,OH,SL,QB,LH,LG,fun p hp=>by cases hp⟩
theorem mixed:Tryz.prog.follows .mixedOrders=true:=by kernel_rfl
end Go.Ai.Z
