/-
 Each function in the small language is a faithful copy: written by program.
-/
import Derived.Test.YtcofenimejmoeaaGreatDoorAiDf
import Derived.Test.YtcofenimejmoeaaGreatDoorAiC1
import Derived.Test.YtcofenimejmoeaaGreatDoorChecked
set_option maxRecDepth 100000
set_option linter.unusedSimpArgs false
set_option linter.unusedVariables false
set_option linter.unusedSectionVars false
namespace Go.Ai.Z
open Go.Proofs
set_option maxRecDepth 100000
def okB (P:Program) (rf:Func) (fn:bU):Bool:=!(rf.name == "runtime.NumGoroutine") && (match rf.body with|some c=>wM P (.std rf.ntmps) c fn.code && decide (fn.np≤rf.ntmps) && yL P rf.results.toList fn.res|none=>false)
theorem okF {P:Program} {f:FuncId} {rf:Func} {fn:bU} (h:P.funcs[f]?=some rf) (h2:okB P rf fn=true):bf P f fn:=by
 unfold okB at h2
 cases hb:rf.body with
 | none=>rw [hb] at h2;simp at h2
 | some c=>
  rw [hb] at h2;simp only [Bool.and_eq_true,Bool.not_eq_true',decide_eq_true_eq] at h2;obtain ⟨h3,⟨h4,h5⟩,h6⟩:=h2;exact ⟨rf,c,h,h3,hb,h4,h5,h6⟩
theorem DT:bf Tryz.prog oI iH:=okF Tryz.func5 (by kernel_rfl)
theorem Sr:bf Tryz.prog xU Ib:=okF Tryz.func9 (by kernel_rfl)
theorem LX:bf Tryz.prog sO uV:=okF Tryz.func32 (by kernel_rfl)
theorem A7:bf Tryz.prog gQ aA:=okF Tryz.func60 (by kernel_rfl)
theorem LW:bf Tryz.prog bK qB:=okF Tryz.func75 (by kernel_rfl)
theorem IK:bf Tryz.prog aO kD:=okF Tryz.func80 (by kernel_rfl)
theorem II:bf Tryz.prog pz oq:=okF Tryz.func116 (by kernel_rfl)
theorem WC:bf Tryz.prog wQ Bz:=okF Tryz.func144 (by kernel_rfl)
theorem Fa:bf Tryz.prog lu o7:=okF Tryz.func145 (by kernel_rfl)
theorem Qe:bf Tryz.prog vU iP:=okF Tryz.func117 (by kernel_rfl)
theorem OD:bf Tryz.prog qP oN:=okF Tryz.func146 (by kernel_rfl)
theorem U8:bf Tryz.prog uH nK:=okF Tryz.func20 (by kernel_rfl)
theorem OC:bf Tryz.prog qO mX:=okF Tryz.func147 (by kernel_rfl)
theorem Sm:bf Tryz.prog vg jW:=okF Tryz.func148 (by kernel_rfl)
theorem OB:bf Tryz.prog qM wo:=okF Tryz.func115 (by kernel_rfl)
theorem IW:bf Tryz.prog bQ lS:=okF Tryz.func77 (by kernel_rfl)
theorem IL:bf Tryz.prog aN rQ:=okF Tryz.func78 (by kernel_rfl)
theorem IE:bf Tryz.prog aH lQ:=okF Tryz.func79 (by kernel_rfl)
theorem IQ:bf Tryz.prog aP dR:=okF Tryz.func107 (by kernel_rfl)
theorem Qd:bf Tryz.prog pV uq:=okF Tryz.func46 (by kernel_rfl)
theorem zL:bf Tryz.prog jr je:=okF Tryz.func93 (by kernel_rfl)
theorem GV:bf Tryz.prog lW ng:=okF Tryz.func97 (by kernel_rfl)
theorem LV:bf Tryz.prog oP uQ:=okF Tryz.func114 (by kernel_rfl)
theorem ED:bf Tryz.prog kM oH:=okF Tryz.func142 (by kernel_rfl)
theorem wF:bf Tryz.prog fH dI:=okF Tryz.func167 (by kernel_rfl)
theorem xq:bf Tryz.prog fV fF:=okF Tryz.func173 (by kernel_rfl)
theorem J3:bf Tryz.prog lX kX:=okF Tryz.func61 (by kernel_rfl)
theorem GY:bf Tryz.prog dS ny:=okF Tryz.func108 (by kernel_rfl)
theorem EG:bf Tryz.prog aU dQ:=okF Tryz.func109 (by kernel_rfl)
theorem BP:bf Tryz.prog gY iW:=okF Tryz.func62 (by kernel_rfl)
theorem CS:bf Tryz.prog iL kJ:=okF Tryz.func110 (by kernel_rfl)
theorem DR:bf Tryz.prog ja jy:=okF Tryz.func63 (by kernel_rfl)
theorem Fe:bf Tryz.prog jH jm:=okF Tryz.func64 (by kernel_rfl)
theorem IJ:bf Tryz.prog kZ dG:=okF Tryz.func65 (by kernel_rfl)
theorem IZ:bf Tryz.prog pG ou:=okF Tryz.func111 (by kernel_rfl)
theorem CQ:bf Tryz.prog iK jg:=okF Tryz.func66 (by kernel_rfl)
theorem E8:bf Tryz.prog jG ji:=okF Tryz.func67 (by kernel_rfl)
theorem IU:bf Tryz.prog lg jl:=okF Tryz.func68 (by kernel_rfl)
theorem JZ:bf Tryz.prog kN oZ:=okF Tryz.func69 (by kernel_rfl)
theorem GZ:bf Tryz.prog gK dX:=okF Tryz.func112 (by kernel_rfl)
theorem Fg:bf Tryz.prog iY mF:=okF Tryz.func70 (by kernel_rfl)
theorem J4:bf Tryz.prog kP kY:=okF Tryz.func71 (by kernel_rfl)
theorem IG:bf Tryz.prog jM jk:=okF Tryz.func72 (by kernel_rfl)
theorem EF:bf Tryz.prog iD iZ:=okF Tryz.func73 (by kernel_rfl)
theorem IY:bf Tryz.prog jO aS:=okF Tryz.func74 (by kernel_rfl)
theorem G5:bf Tryz.prog lY dh:=okF Tryz.func113 (by kernel_rfl)
theorem Qg:bf Tryz.prog vV iQ:=okF Tryz.func143 (by kernel_rfl)
theorem DN:bf Tryz.prog lN aY:=okF Tryz.func33 (by kernel_rfl)
theorem Fb:bf Tryz.prog nD ay:=okF Tryz.func76 (by kernel_rfl)
theorem IV:bf Tryz.prog pF dH:=okF Tryz.func81 (by kernel_rfl)
theorem GU:bf Tryz.prog iJ lm:=okF Tryz.func15 (by kernel_rfl)
theorem JW:bf Tryz.prog qK mO:=okF Tryz.func34 (by kernel_rfl)
theorem LU:bf Tryz.prog oO uP:=okF Tryz.func82 (by kernel_rfl)
theorem LQ:bf Tryz.prog sK qy:=okF Tryz.func35 (by kernel_rfl)
theorem LP:bf Tryz.prog lF nP:=okF Tryz.func83 (by kernel_rfl)
theorem Oy:bf Tryz.prog qI sG:=okF Tryz.func118 (by kernel_rfl)
theorem JX:bf Tryz.prog nS tN:=okF Tryz.func149 (by kernel_rfl)
theorem Oz:bf Tryz.prog qJ vZ:=okF Tryz.func120 (by kernel_rfl)
theorem LY:bf Tryz.prog sQ uX:=okF Tryz.func150 (by kernel_rfl)
theorem IB:bf Tryz.prog jL rM:=okF Tryz.func84 (by kernel_rfl)
theorem GN:bf Tryz.prog lU mY:=okF Tryz.func88 (by kernel_rfl)
theorem EC:bf Tryz.prog kL jT:=okF Tryz.func17 (by kernel_rfl)
theorem Si:bf Tryz.prog su sV:=okF Tryz.func37 (by kernel_rfl)
theorem RZ:bf Tryz.prog ve yS:=okF Tryz.func38 (by kernel_rfl)
theorem Ox:bf Tryz.prog jq sF:=okF Tryz.func86 (by kernel_rfl)
theorem Qc:bf Tryz.prog mr oh:=okF Tryz.func87 (by kernel_rfl)
theorem E5:bf Tryz.prog nC kH:=okF Tryz.func39 (by kernel_rfl)
theorem OA:bf Tryz.prog fU oM:=okF Tryz.func36 (by kernel_rfl)
theorem pO:bf Tryz.prog bP dJ:=okF Tryz.func85 (by kernel_rfl)
theorem qQ:bf Tryz.prog cO dV:=okF Tryz.func119 (by kernel_rfl)
theorem Vb:bf Tryz.prog wZ mg:=okF Tryz.func11 (by kernel_rfl)
theorem GR:bf Tryz.prog lV mZ:=okF Tryz.func21 (by kernel_rfl)
theorem Qh:bf Tryz.prog vW uy:=okF Tryz.func22 (by kernel_rfl)
theorem yC:bf Tryz.prog iC gX:=okF Tryz.func45 (by kernel_rfl)
theorem zn:bf Tryz.prog gV iO:=okF Tryz.func92 (by kernel_rfl)
theorem xW:bf Tryz.prog eP bJ:=okF Tryz.func48 (by kernel_rfl)
theorem xA:bf Tryz.prog dY fQ:=okF Tryz.func23 (by kernel_rfl)
theorem y7:bf Tryz.prog iT fC:=okF Tryz.func49 (by kernel_rfl)
theorem Va:bf Tryz.prog jP dK:=okF Tryz.func24 (by kernel_rfl)
theorem Qi:bf Tryz.prog fE jX:=okF Tryz.func50 (by kernel_rfl)
theorem WE:bf Tryz.prog jb BA:=okF Tryz.func51 (by kernel_rfl)
theorem WG:bf Tryz.prog oD BB:=okF Tryz.func52 (by kernel_rfl)
theorem U9:bf Tryz.prog wY zT:=okF Tryz.func96 (by kernel_rfl)
theorem GX:bf Tryz.prog oC qf:=okF Tryz.func14 (by kernel_rfl)
theorem IC:bf Tryz.prog o9 rP:=okF Tryz.func18 (by kernel_rfl)
theorem Sj:bf Tryz.prog pq yT:=okF Tryz.func40 (by kernel_rfl)
theorem JY:bf Tryz.prog qL tV:=okF Tryz.func41 (by kernel_rfl)
theorem ah1:∀p∈QV,bf Tryz.prog p.1 p.2:=by
 simp only [QV,List.forall_mem_cons];exact ⟨DT,Sr,LX,A7,LW,IK,II,WC,Fa,Qe,OD,U8,OC,Sm,OB,IW,IL,IE,IQ,Qd,zL,GV,LV,ED,wF,xq,J3,GY,EG,BP,CS,DR,Fe,IJ,IZ,CQ,E8,IU,JZ,GZ,Fg,J4,IG,EF,IY,G5,Qg,DN,Fb,IV,GU,JW,LU,LQ,LP,Oy,JX,Oz,LY,IB,GN,EC,Si,RZ,Ox,Qc,E5,OA,pO,qQ,Vb,GR,Qh,yC,zn,xW,xA,y7,Va,Qi,WE,WG,U9,GX,IC,Sj,JY,fun p hp=>by cases hp⟩
theorem mixed:Tryz.prog.follows .mixedOrders=true:=by kernel_rfl
end Go.Ai.Z
