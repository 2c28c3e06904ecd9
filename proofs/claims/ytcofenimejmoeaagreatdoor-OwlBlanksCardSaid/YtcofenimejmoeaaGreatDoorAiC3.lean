/-
 Each function in the small language is a faithful copy: written by program.
-/
import Derived.Test.YtcofenimejmoeaaGreatDoorAiDf
import Derived.Test.YtcofenimejmoeaaGreatDoorAiC1
import Derived.Test.YtcofenimejmoeaaGreatDoorChecked
set_option maxRecDepth 100000
set_option linter.unusedSimpArgs false
set_option linter.unusedVariables false
set_option linter.unusedSectionVars false
namespace Go.Ai.Z
open Go.Proofs
set_option maxRecDepth 100000
def okB (P:Program) (rf:Func) (fn:bJ):Bool:=!(rf.name == "runtime.NumGoroutine") && (match rf.body with|some c=>xk P (.std rf.ntmps) c fn.code && decide (fn.np≤rf.ntmps) && yZ P rf.results.toList fn.res|none=>false)
theorem okF {P:Program} {f:FuncId} {rf:Func} {fn:bJ} (h:P.funcs[f]?=some rf) (h2:okB P rf fn=true):aZ P f fn:=by
 unfold okB at h2
 cases hb:rf.body with
 | none=>rw [hb] at h2;simp at h2
 | some c=>
  rw [hb] at h2;simp only [Bool.and_eq_true,Bool.not_eq_true',decide_eq_true_eq] at h2;obtain ⟨h3,⟨h4,h5⟩,h6⟩:=h2;exact ⟨rf,c,h,h3,hb,h4,h5,h6⟩
theorem Jq:aZ Tryz.prog uG jo:=okF Tryz.func7 (by kernel_rfl)
theorem Tz:aZ Tryz.prog yx IC:=okF Tryz.func9 (by kernel_rfl)
theorem MQ:aZ Tryz.prog tH vM:=okF Tryz.func32 (by kernel_rfl)
theorem BB:aZ Tryz.prog gI aB:=okF Tryz.func60 (by kernel_rfl)
theorem MP:aZ Tryz.prog bM qL:=okF Tryz.func75 (by kernel_rfl)
theorem Jh:aZ Tryz.prog aQ kF:=okF Tryz.func80 (by kernel_rfl)
theorem Jf:aZ Tryz.prog pK oC:=okF Tryz.func116 (by kernel_rfl)
theorem Xv:aZ Tryz.prog xu BR:=okF Tryz.func144 (by kernel_rfl)
theorem FM:aZ Tryz.prog lC pz:=okF Tryz.func145 (by kernel_rfl)
theorem QG:aZ Tryz.prog wG iK:=okF Tryz.func117 (by kernel_rfl)
theorem O9:aZ Tryz.prog rC oP:=okF Tryz.func146 (by kernel_rfl)
theorem VQ:aZ Tryz.prog vk nN:=okF Tryz.func20 (by kernel_rfl)
theorem O8:aZ Tryz.prog rq mZ:=okF Tryz.func147 (by kernel_rfl)
theorem Tv:aZ Tryz.prog vS jY:=okF Tryz.func148 (by kernel_rfl)
theorem O7:aZ Tryz.prog qZ wP:=okF Tryz.func115 (by kernel_rfl)
theorem Jm:aZ Tryz.prog bU lS:=okF Tryz.func77 (by kernel_rfl)
theorem Ji:aZ Tryz.prog aO sD:=okF Tryz.func78 (by kernel_rfl)
theorem Jd:aZ Tryz.prog aH lQ:=okF Tryz.func79 (by kernel_rfl)
theorem Jj:aZ Tryz.prog aS dP:=okF Tryz.func107 (by kernel_rfl)
theorem QE:aZ Tryz.prog qg uP:=okF Tryz.func46 (by kernel_rfl)
theorem zY:aZ Tryz.prog jw jc:=okF Tryz.func93 (by kernel_rfl)
theorem Hu:aZ Tryz.prog lW nC:=okF Tryz.func97 (by kernel_rfl)
theorem MO:aZ Tryz.prog oU vJ:=okF Tryz.func114 (by kernel_rfl)
theorem EQ:aZ Tryz.prog kM oK:=okF Tryz.func142 (by kernel_rfl)
theorem wX:aZ Tryz.prog fE dI:=okF Tryz.func167 (by kernel_rfl)
theorem xM:aZ Tryz.prog fP fC:=okF Tryz.func173 (by kernel_rfl)
theorem KG:aZ Tryz.prog lX kY:=okF Tryz.func61 (by kernel_rfl)
theorem Hy:aZ Tryz.prog dQ nD:=okF Tryz.func108 (by kernel_rfl)
theorem ES:aZ Tryz.prog aU dO:=okF Tryz.func109 (by kernel_rfl)
theorem CP:aZ Tryz.prog gX iU:=okF Tryz.func62 (by kernel_rfl)
theorem Dq:aZ Tryz.prog iG kK:=okF Tryz.func110 (by kernel_rfl)
theorem Eb:aZ Tryz.prog iZ jC:=okF Tryz.func63 (by kernel_rfl)
theorem FO:aZ Tryz.prog jJ jm:=okF Tryz.func64 (by kernel_rfl)
theorem Jg:aZ Tryz.prog lg dF:=okF Tryz.func65 (by kernel_rfl)
theorem Jp:aZ Tryz.prog pR oD:=okF Tryz.func111 (by kernel_rfl)
theorem Dp:aZ Tryz.prog iF jd:=okF Tryz.func66 (by kernel_rfl)
theorem FK:aZ Tryz.prog jI ji:=okF Tryz.func67 (by kernel_rfl)
theorem Jk:aZ Tryz.prog lm jl:=okF Tryz.func68 (by kernel_rfl)
theorem KF:aZ Tryz.prog kN pq:=okF Tryz.func69 (by kernel_rfl)
theorem Hz:aZ Tryz.prog gG dV:=okF Tryz.func112 (by kernel_rfl)
theorem FP:aZ Tryz.prog iW mG:=okF Tryz.func70 (by kernel_rfl)
theorem KH:aZ Tryz.prog kP kZ:=okF Tryz.func71 (by kernel_rfl)
theorem Je:aZ Tryz.prog jP jk:=okF Tryz.func72 (by kernel_rfl)
theorem ER:aZ Tryz.prog iq iY:=okF Tryz.func73 (by kernel_rfl)
theorem Jo:aZ Tryz.prog jQ aT:=okF Tryz.func74 (by kernel_rfl)
theorem HY:aZ Tryz.prog lY dh:=okF Tryz.func113 (by kernel_rfl)
theorem QI:aZ Tryz.prog wH iL:=okF Tryz.func143 (by kernel_rfl)
theorem Ea:aZ Tryz.prog lN aY:=okF Tryz.func33 (by kernel_rfl)
theorem FN:aZ Tryz.prog nH aA:=okF Tryz.func76 (by kernel_rfl)
theorem Jl:aZ Tryz.prog pO dG:=okF Tryz.func81 (by kernel_rfl)
theorem Ht:aZ Tryz.prog jv lu:=okF Tryz.func15 (by kernel_rfl)
theorem KA:aZ Tryz.prog qW mO:=okF Tryz.func34 (by kernel_rfl)
theorem MN:aZ Tryz.prog oQ vH:=okF Tryz.func82 (by kernel_rfl)
theorem ML:aZ Tryz.prog tC qJ:=okF Tryz.func35 (by kernel_rfl)
theorem MK:aZ Tryz.prog lF nR:=okF Tryz.func83 (by kernel_rfl)
theorem O4:aZ Tryz.prog qU sV:=okF Tryz.func118 (by kernel_rfl)
theorem KC:aZ Tryz.prog nT uo:=okF Tryz.func149 (by kernel_rfl)
theorem O5:aZ Tryz.prog qV wO:=okF Tryz.func120 (by kernel_rfl)
theorem MR:aZ Tryz.prog tJ vN:=okF Tryz.func150 (by kernel_rfl)
theorem Ja:aZ Tryz.prog jO rZ:=okF Tryz.func84 (by kernel_rfl)
theorem Hq:aZ Tryz.prog lU ng:=okF Tryz.func88 (by kernel_rfl)
theorem EP:aZ Tryz.prog kL jV:=okF Tryz.func17 (by kernel_rfl)
theorem Tq:aZ Tryz.prog sQ tV:=okF Tryz.func37 (by kernel_rfl)
theorem Tn:aZ Tryz.prog vP zh:=okF Tryz.func38 (by kernel_rfl)
theorem O3:aZ Tryz.prog jr sU:=okF Tryz.func86 (by kernel_rfl)
theorem QD:aZ Tryz.prog mr ou:=okF Tryz.func87 (by kernel_rfl)
theorem FI:aZ Tryz.prog nG kJ:=okF Tryz.func39 (by kernel_rfl)
theorem O6:aZ Tryz.prog fO oO:=okF Tryz.func36 (by kernel_rfl)
theorem pX:aZ Tryz.prog bQ dJ:=okF Tryz.func85 (by kernel_rfl)
theorem rD:aZ Tryz.prog cO dU:=okF Tryz.func119 (by kernel_rfl)
theorem VT:aZ Tryz.prog xI mg:=okF Tryz.func11 (by kernel_rfl)
theorem Hr:aZ Tryz.prog lV ny:=okF Tryz.func21 (by kernel_rfl)
theorem QJ:aZ Tryz.prog wJ uV:=okF Tryz.func22 (by kernel_rfl)
theorem yP:aZ Tryz.prog ig gW:=okF Tryz.func45 (by kernel_rfl)
theorem zK:aZ Tryz.prog gQ iJ:=okF Tryz.func92 (by kernel_rfl)
theorem yB:aZ Tryz.prog eF bK:=okF Tryz.func48 (by kernel_rfl)
theorem xQ:aZ Tryz.prog dW fM:=okF Tryz.func23 (by kernel_rfl)
theorem zx:aZ Tryz.prog iO eY:=okF Tryz.func49 (by kernel_rfl)
theorem VS:aZ Tryz.prog jR dK:=okF Tryz.func24 (by kernel_rfl)
theorem QK:aZ Tryz.prog fB jZ:=okF Tryz.func50 (by kernel_rfl)
theorem Xw:aZ Tryz.prog ja BU:=okF Tryz.func51 (by kernel_rfl)
theorem Xx:aZ Tryz.prog oI BV:=okF Tryz.func52 (by kernel_rfl)
theorem VR:aZ Tryz.prog xH Ah:=okF Tryz.func96 (by kernel_rfl)
theorem Jc:aZ Tryz.prog pJ oz:=okF Tryz.func10 (by kernel_rfl)
theorem KE:aZ Tryz.prog qY uw:=okF Tryz.func19 (by kernel_rfl)
theorem VP:aZ Tryz.prog xG Ag:=okF Tryz.func42 (by kernel_rfl)
theorem QF:aZ Tryz.prog qj uQ:=okF Tryz.func89 (by kernel_rfl)
theorem Pg:aZ Tryz.prog vw wU:=okF Tryz.func16 (by kernel_rfl)
theorem Hw:aZ Tryz.prog oH qC:=okF Tryz.func14 (by kernel_rfl)
theorem Jb:aZ Tryz.prog pG su:=okF Tryz.func18 (by kernel_rfl)
theorem Tt:aZ Tryz.prog pI zi:=okF Tryz.func40 (by kernel_rfl)
theorem KD:aZ Tryz.prog qX uq:=okF Tryz.func41 (by kernel_rfl)
theorem aiF:∀p∈RH,aZ Tryz.prog p.1 p.2:=by
 simp only [RH,List.forall_mem_cons];exact ⟨Jq,Tz,MQ,BB,MP,Jh,Jf,Xv,FM,QG,O9,VQ,O8,Tv,O7,Jm,Ji,Jd,Jj,QE,zY,Hu,MO,EQ,wX,xM,KG,Hy,ES,CP,Dq,Eb,FO,Jg,Jp,Dp,FK,Jk,KF,Hz,FP,KH,Je,ER,Jo,HY,QI,Ea,FN,Jl,Ht,KA,MN,ML,MK,O4,KC,O5,MR,Ja,Hq,EP,Tq,Tn,O3,QD,FI,O6,pX,rD,VT,Hr,QJ,yP,zK,yB,xQ,zx,VS,QK,Xw,Xx,VR,Jc,KE,VP,QF,Pg,Hw,Jb,Tt,KD,fun p hp=>by cases hp⟩
theorem mixed:Tryz.prog.follows .mixedOrders=true:=by kernel_rfl
end Go.Ai.Z
