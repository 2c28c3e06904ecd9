/-
 Each function in the small language is a faithful copy: written by program.
-/
import Derived.Test.YtpnlnnfcaeednaaGreatDoorAiRn5
import Derived.Test.YtpnlnnfcaeednaaGreatDoorAiC2
import Derived.Test.YtpnlnnfcaeednaaGreatDoorChecked
set_option maxRecDepth 100000
set_option linter.unusedSimpArgs false
set_option linter.unusedVariables false
set_option linter.unusedSectionVars false
namespace Go.Ai.Z
open Go.Proofs
set_option maxRecDepth 100000
def okB (P:Program) (rf:Func) (fn:dw):Bool:=!(rf.name == "runtime.NumGoroutine") && (match rf.body with|some c=>yG P rf.ntmps c fn.code && decide (fn.np≤rf.ntmps) && AO P rf.results.toList fn.res|none=>false)
theorem okF {P:Program} {f:FuncId} {rf:Func} {fn:dw} (h:P.funcs[f]?=some rf) (h2:okB P rf fn=true):bK P f fn:=by
 unfold okB at h2
 cases hb:rf.body with
 | none=>rw [hb] at h2;simp at h2
 | some c=>
  rw [hb] at h2
  simp only [Bool.and_eq_true,Bool.not_eq_true',decide_eq_true_eq] at h2
  obtain ⟨h3,⟨h4,h5⟩,h6⟩:=h2
  exact ⟨rf,c,h,h3,hb,h4,h5,h6⟩
theorem EO:bK Tryz.prog qA lV:=okF Tryz.func9 (by kernel_rfl)
theorem SB:bK Tryz.prog xX Iy:=okF Tryz.func29 (by kernel_rfl)
theorem Ja:bK Tryz.prog lG iL:=okF Tryz.func28 (by kernel_rfl)
theorem OG:bK Tryz.prog pF iU:=okF Tryz.func31 (by kernel_rfl)
theorem LK:bK Tryz.prog tq kS:=okF Tryz.func71 (by kernel_rfl)
theorem JZ:bK Tryz.prog oK lD:=okF Tryz.func72 (by kernel_rfl)
theorem SA:bK Tryz.prog vI eU:=okF Tryz.func73 (by kernel_rfl)
theorem U5:bK Tryz.prog rX zH:=okF Tryz.func120 (by kernel_rfl)
theorem LJ:bK Tryz.prog sZ bG:=okF Tryz.func121 (by kernel_rfl)
theorem ug:bK Tryz.prog bM dU:=okF Tryz.func65 (by kernel_rfl)
theorem Hu:bK Tryz.prog kH qM:=okF Tryz.func66 (by kernel_rfl)
theorem CJ:bK Tryz.prog iR jq:=okF Tryz.func111 (by kernel_rfl)
theorem EK:bK Tryz.prog aO jb:=okF Tryz.func137 (by kernel_rfl)
theorem CP:bK Tryz.prog iT kR:=okF Tryz.func143 (by kernel_rfl)
theorem DR:bK Tryz.prog aV nX:=okF Tryz.func67 (by kernel_rfl)
theorem LM:bK Tryz.prog qf ve:=okF Tryz.func153 (by kernel_rfl)
theorem EN:bK Tryz.prog eG pG:=okF Tryz.func136 (by kernel_rfl)
theorem I9:bK Tryz.prog gK l9:=okF Tryz.func104 (by kernel_rfl)
theorem LC:bK Tryz.prog lJ oC:=okF Tryz.func93 (by kernel_rfl)
theorem Qr:bK Tryz.prog vY uw:=okF Tryz.func129 (by kernel_rfl)
theorem zB:bK Tryz.prog jA jh:=okF Tryz.func151 (by kernel_rfl)
theorem OA:bK Tryz.prog rH sV:=okF Tryz.func130 (by kernel_rfl)
theorem JU:bK Tryz.prog oJ tZ:=okF Tryz.func152 (by kernel_rfl)
theorem OB:bK Tryz.prog rJ wB:=okF Tryz.func131 (by kernel_rfl)
theorem Hq:bK Tryz.prog mD nT:=okF Tryz.func94 (by kernel_rfl)
theorem BH:bK Tryz.prog bH gV:=okF Tryz.func49 (by kernel_rfl)
theorem Cm:bK Tryz.prog dO aJ:=okF Tryz.func99 (by kernel_rfl)
theorem EI:bK Tryz.prog aC lU:=okF Tryz.func100 (by kernel_rfl)
theorem Ht:bK Tryz.prog pz qL:=okF Tryz.func139 (by kernel_rfl)
theorem EH:bK Tryz.prog fJ lT:=okF Tryz.func118 (by kernel_rfl)
theorem CB:bK Tryz.prog jI iE:=okF Tryz.func138 (by kernel_rfl)
theorem EJ:bK Tryz.prog jw ja:=okF Tryz.func112 (by kernel_rfl)
theorem DT:bK Tryz.prog je fG:=okF Tryz.func113 (by kernel_rfl)
theorem Ah:bK Tryz.prog gu jr:=okF Tryz.func114 (by kernel_rfl)
theorem Cj:bK Tryz.prog iQ jm:=okF Tryz.func115 (by kernel_rfl)
theorem EL:bK Tryz.prog jy jc:=okF Tryz.func116 (by kernel_rfl)
theorem EM:bK Tryz.prog nD jR:=okF Tryz.func68 (by kernel_rfl)
theorem CG:bK Tryz.prog lF jo:=okF Tryz.func117 (by kernel_rfl)
theorem DU:bK Tryz.prog eX dM:=okF Tryz.func58 (by kernel_rfl)
theorem Aj:bK Tryz.prog gB bI:=okF Tryz.func106 (by kernel_rfl)
theorem I8:bK Tryz.prog ji dQ:=okF Tryz.func23 (by kernel_rfl)
theorem Hr:bK Tryz.prog mF lH:=okF Tryz.func22 (by kernel_rfl)
theorem JS:bK Tryz.prog rM nJ:=okF Tryz.func54 (by kernel_rfl)
theorem LG:bK Tryz.prog qc uU:=okF Tryz.func103 (by kernel_rfl)
theorem LD:bK Tryz.prog sW qW:=okF Tryz.func55 (by kernel_rfl)
theorem EG:bK Tryz.prog jv jQ:=okF Tryz.func15 (by kernel_rfl)
theorem Sr:bK Tryz.prog sO tH:=okF Tryz.func43 (by kernel_rfl)
theorem Si:bK Tryz.prog vG yP:=okF Tryz.func44 (by kernel_rfl)
theorem Oy:bK Tryz.prog jY sU:=okF Tryz.func91 (by kernel_rfl)
theorem Qq:bK Tryz.prog mW oZ:=okF Tryz.func92 (by kernel_rfl)
theorem FN:bK Tryz.prog nV kQ:=okF Tryz.func45 (by kernel_rfl)
theorem OC:bK Tryz.prog gJ pW:=okF Tryz.func56 (by kernel_rfl)
theorem qE:bK Tryz.prog dD dX:=okF Tryz.func105 (by kernel_rfl)
theorem rO:bK Tryz.prog dP fB:=okF Tryz.func140 (by kernel_rfl)
theorem Sj:bK Tryz.prog iP oh:=okF Tryz.func46 (by kernel_rfl)
theorem Sl:bK Tryz.prog xP kX:=okF Tryz.func95 (by kernel_rfl)
theorem Sm:bK Tryz.prog mX vV:=okF Tryz.func51 (by kernel_rfl)
theorem ED:bK Tryz.prog aH iw:=okF Tryz.func52 (by kernel_rfl)
theorem Jb:bK Tryz.prog fP gX:=okF Tryz.func61 (by kernel_rfl)
theorem LP:bK Tryz.prog lK oD:=okF Tryz.func107 (by kernel_rfl)
theorem SC:bK Tryz.prog nZ oq:=okF Tryz.func60 (by kernel_rfl)
theorem kL:bK Tryz.prog aG ay:=okF Tryz.func101 (by kernel_rfl)
theorem rP:bK Tryz.prog aX aP:=okF Tryz.func133 (by kernel_rfl)
theorem Oz:bK Tryz.prog pq wz:=okF Tryz.func134 (by kernel_rfl)
theorem LH:bK Tryz.prog nP uY:=okF Tryz.func18 (by kernel_rfl)
theorem pU:bK Tryz.prog bf bV:=okF Tryz.func69 (by kernel_rfl)
theorem vT:bK Tryz.prog dS fH:=okF Tryz.func119 (by kernel_rfl)
theorem rZ:bK Tryz.prog bn bQ:=okF Tryz.func144 (by kernel_rfl)
theorem uQ:bK Tryz.prog aI bP:=okF Tryz.func145 (by kernel_rfl)
theorem vU:bK Tryz.prog dG iI:=okF Tryz.func157 (by kernel_rfl)
theorem um:bK Tryz.prog bU gG:=okF Tryz.func174 (by kernel_rfl)
theorem FP:bK Tryz.prog ai qj:=okF Tryz.func70 (by kernel_rfl)
theorem JW:bK Tryz.prog vH Bg:=okF Tryz.func17 (by kernel_rfl)
theorem Hy:bK Tryz.prog wS zl:=okF Tryz.func48 (by kernel_rfl)
theorem Hw:bK Tryz.prog wR zk:=okF Tryz.func50 (by kernel_rfl)
theorem Sv:bK Tryz.prog Ej Iw:=okF Tryz.func16 (by kernel_rfl)
theorem OD:bK Tryz.prog xR Et:=okF Tryz.func47 (by kernel_rfl)
theorem JV:bK Tryz.prog yL Bf:=okF Tryz.func97 (by kernel_rfl)
theorem FO:bK Tryz.prog vN yV:=okF Tryz.func98 (by kernel_rfl)
theorem OE:bK Tryz.prog xW Eu:=okF Tryz.func24 (by kernel_rfl)
theorem JY:bK Tryz.prog yN Bj:=okF Tryz.func57 (by kernel_rfl)
theorem JX:bK Tryz.prog yM Bh:=okF Tryz.func59 (by kernel_rfl)
theorem U6:bK Tryz.prog y7 xI:=okF Tryz.func30 (by kernel_rfl)
theorem EF:bK Tryz.prog nC iZ:=okF Tryz.func25 (by kernel_rfl)
theorem Ox:bK Tryz.prog rG wu:=okF Tryz.func62 (by kernel_rfl)
theorem Sz:bK Tryz.prog xQ yQ:=okF Tryz.func108 (by kernel_rfl)
theorem yc:bK Tryz.prog iF fD:=okF Tryz.func63 (by kernel_rfl)
theorem EP:bK Tryz.prog nG jS:=okF Tryz.func109 (by kernel_rfl)
theorem Hz:bK Tryz.prog mG qO:=okF Tryz.func141 (by kernel_rfl)
theorem agu:∀p∈Jp,bK Tryz.prog p.1 p.2:=by
 simp only [Jp,List.forall_mem_cons]
 exact ⟨EO,SB,Ja,OG,LK,JZ,SA,U5,LJ,ug,Hu,CJ,EK,CP,DR,LM,EN,I9,LC,Qr,zB,OA,JU,OB,Hq,BH,Cm,EI,Ht,EH,CB,EJ,DT,Ah,Cj,EL,EM,CG,DU,Aj,I8,Hr,JS,LG,LD,EG,Sr,Si,Oy,Qq,FN,OC,qE,rO,Sj,Sl,Sm,ED,Jb,LP,SC,kL,rP,Oz,LH,pU,vT,rZ,uQ,vU,um,FP,JW,Hy,Hw,Sv,OD,JV,FO,OE,JY,JX,U6,EF,Ox,Sz,yc,EP,Hz,fun p hp=>by cases hp⟩
theorem mixed:Tryz.prog.follows .mixedOrders=true:=by kernel_rfl
end Go.Ai.Z
