/-
 Each function in the small language is a faithful copy: written by program.
-/
import Derived.Test.YtcofenimejmoeaaGreatDoorAiDf
import Derived.Test.YtcofenimejmoeaaGreatDoorAiC1
import Derived.Test.YtcofenimejmoeaaGreatDoorChecked
set_option maxRecDepth 100000
set_option linter.unusedSimpArgs false
set_option linter.unusedVariables false
set_option linter.unusedSectionVars false
namespace Go.Ai.Z
open Go.Proofs
set_option maxRecDepth 100000
def okB (P:Program) (rf:Func) (fn:bM):Bool:=!(rf.name == "runtime.NumGoroutine") && (match rf.body with|some c=>xE P (.std rf.ntmps) c fn.code && decide (fn.np≤rf.ntmps) && zk P rf.results.toList fn.res|none=>false)
theorem okF {P:Program} {f:FuncId} {rf:Func} {fn:bM} (h:P.funcs[f]?=some rf) (h2:okB P rf fn=true):aZ P f fn:=by
 unfold okB at h2
 cases hb:rf.body with
 | none=>rw [hb] at h2;simp at h2
 | some c=>
  rw [hb] at h2;simp only [Bool.and_eq_true,Bool.not_eq_true',decide_eq_true_eq] at h2;obtain ⟨h3,⟨h4,h5⟩,h6⟩:=h2;exact ⟨rf,c,h,h3,hb,h4,h5,h6⟩
theorem Qb:aZ Tryz.prog yK nD:=okF Tryz.func6 (by kernel_rfl)
theorem UB:aZ Tryz.prog yJ Je:=okF Tryz.func9 (by kernel_rfl)
theorem NP:aZ Tryz.prog tY vT:=okF Tryz.func32 (by kernel_rfl)
theorem BN:aZ Tryz.prog gV aA:=okF Tryz.func60 (by kernel_rfl)
theorem NM:aZ Tryz.prog bK qV:=okF Tryz.func75 (by kernel_rfl)
theorem JF:aZ Tryz.prog aP kG:=okF Tryz.func80 (by kernel_rfl)
theorem JD:aZ Tryz.prog qf oK:=okF Tryz.func116 (by kernel_rfl)
theorem Ye:aZ Tryz.prog xH CG:=okF Tryz.func144 (by kernel_rfl)
theorem Gq:aZ Tryz.prog lG pW:=okF Tryz.func145 (by kernel_rfl)
theorem RI:aZ Tryz.prog wP iO:=okF Tryz.func117 (by kernel_rfl)
theorem Qa:aZ Tryz.prog rH o9:=okF Tryz.func146 (by kernel_rfl)
theorem WQ:aZ Tryz.prog vH nV:=okF Tryz.func20 (by kernel_rfl)
theorem P9:aZ Tryz.prog rG nC:=okF Tryz.func147 (by kernel_rfl)
theorem UA:aZ Tryz.prog vX jZ:=okF Tryz.func148 (by kernel_rfl)
theorem P8:aZ Tryz.prog rF wX:=okF Tryz.func115 (by kernel_rfl)
theorem JK:aZ Tryz.prog bV lT:=okF Tryz.func77 (by kernel_rfl)
theorem JG:aZ Tryz.prog aN sO:=okF Tryz.func78 (by kernel_rfl)
theorem JB:aZ Tryz.prog aH lS:=okF Tryz.func79 (by kernel_rfl)
theorem JH:aZ Tryz.prog aQ dQ:=okF Tryz.func107 (by kernel_rfl)
theorem RG:aZ Tryz.prog qC uX:=okF Tryz.func46 (by kernel_rfl)
theorem Ak:aZ Tryz.prog jy jg:=okF Tryz.func93 (by kernel_rfl)
theorem Ir:aZ Tryz.prog lX nJ:=okF Tryz.func97 (by kernel_rfl)
theorem NK:aZ Tryz.prog pF vP:=okF Tryz.func114 (by kernel_rfl)
theorem FP:aZ Tryz.prog kP oQ:=okF Tryz.func142 (by kernel_rfl)
theorem xq:aZ Tryz.prog fG dH:=okF Tryz.func167 (by kernel_rfl)
theorem xX:aZ Tryz.prog gm fE:=okF Tryz.func173 (by kernel_rfl)
theorem Ls:aZ Tryz.prog lY lg:=okF Tryz.func61 (by kernel_rfl)
theorem Iw:aZ Tryz.prog dS nK:=okF Tryz.func108 (by kernel_rfl)
theorem FT:aZ Tryz.prog aV dP:=okF Tryz.func109 (by kernel_rfl)
theorem Dj:aZ Tryz.prog iq iV:=okF Tryz.func62 (by kernel_rfl)
theorem DT:aZ Tryz.prog iK kL:=okF Tryz.func110 (by kernel_rfl)
theorem EL:aZ Tryz.prog ja jD:=okF Tryz.func63 (by kernel_rfl)
theorem Gt:aZ Tryz.prog jL jq:=okF Tryz.func64 (by kernel_rfl)
theorem JE:aZ Tryz.prog lC dF:=okF Tryz.func65 (by kernel_rfl)
theorem JM:aZ Tryz.prog qj oL:=okF Tryz.func111 (by kernel_rfl)
theorem DR:aZ Tryz.prog iJ jh:=okF Tryz.func66 (by kernel_rfl)
theorem Gp:aZ Tryz.prog jK jl:=okF Tryz.func67 (by kernel_rfl)
theorem JI:aZ Tryz.prog lD jo:=okF Tryz.func68 (by kernel_rfl)
theorem Lr:aZ Tryz.prog kQ pV:=okF Tryz.func69 (by kernel_rfl)
theorem Iy:aZ Tryz.prog gU dX:=okF Tryz.func112 (by kernel_rfl)
theorem Gu:aZ Tryz.prog iY mP:=okF Tryz.func70 (by kernel_rfl)
theorem Lu:aZ Tryz.prog kR lm:=okF Tryz.func71 (by kernel_rfl)
theorem JC:aZ Tryz.prog jR jm:=okF Tryz.func72 (by kernel_rfl)
theorem FQ:aZ Tryz.prog iE iZ:=okF Tryz.func73 (by kernel_rfl)
theorem JL:aZ Tryz.prog jS aT:=okF Tryz.func74 (by kernel_rfl)
theorem Iz:aZ Tryz.prog lZ dh:=okF Tryz.func113 (by kernel_rfl)
theorem RJ:aZ Tryz.prog wQ iP:=okF Tryz.func143 (by kernel_rfl)
theorem EK:aZ Tryz.prog lQ aY:=okF Tryz.func33 (by kernel_rfl)
theorem Gs:aZ Tryz.prog nO ay:=okF Tryz.func76 (by kernel_rfl)
theorem JJ:aZ Tryz.prog qg dG:=okF Tryz.func81 (by kernel_rfl)
theorem Iq:aZ Tryz.prog jw lF:=okF Tryz.func15 (by kernel_rfl)
theorem Lj:aZ Tryz.prog rC mX:=okF Tryz.func34 (by kernel_rfl)
theorem NJ:aZ Tryz.prog pz vO:=okF Tryz.func82 (by kernel_rfl)
theorem NI:aZ Tryz.prog tX qR:=okF Tryz.func35 (by kernel_rfl)
theorem NH:aZ Tryz.prog lI nZ:=okF Tryz.func83 (by kernel_rfl)
theorem P5:aZ Tryz.prog qZ tJ:=okF Tryz.func118 (by kernel_rfl)
theorem Ll:aZ Tryz.prog oq uF:=okF Tryz.func149 (by kernel_rfl)
theorem P6:aZ Tryz.prog rq wV:=okF Tryz.func120 (by kernel_rfl)
theorem NQ:aZ Tryz.prog tZ vU:=okF Tryz.func150 (by kernel_rfl)
theorem Jy:aZ Tryz.prog jQ sJ:=okF Tryz.func84 (by kernel_rfl)
theorem Io:aZ Tryz.prog lV nH:=okF Tryz.func88 (by kernel_rfl)
theorem FO:aZ Tryz.prog kN jW:=okF Tryz.func17 (by kernel_rfl)
theorem Uy:aZ Tryz.prog tq uh:=okF Tryz.func37 (by kernel_rfl)
theorem Ux:aZ Tryz.prog vW zx:=okF Tryz.func38 (by kernel_rfl)
theorem PZ:aZ Tryz.prog jv tH:=okF Tryz.func86 (by kernel_rfl)
theorem RF:aZ Tryz.prog mJ oI:=okF Tryz.func87 (by kernel_rfl)
theorem Gn:aZ Tryz.prog nN kK:=okF Tryz.func39 (by kernel_rfl)
theorem P7:aZ Tryz.prog fZ o8:=okF Tryz.func36 (by kernel_rfl)
theorem qy:aZ Tryz.prog bU dJ:=okF Tryz.func85 (by kernel_rfl)
theorem rJ:aZ Tryz.prog cO dW:=okF Tryz.func119 (by kernel_rfl)
theorem WT:aZ Tryz.prog xR mG:=okF Tryz.func11 (by kernel_rfl)
theorem Ip:aZ Tryz.prog lW nI:=okF Tryz.func21 (by kernel_rfl)
theorem RN:aZ Tryz.prog wR vg:=okF Tryz.func22 (by kernel_rfl)
theorem yY:aZ Tryz.prog iD ig:=okF Tryz.func45 (by kernel_rfl)
theorem zV:aZ Tryz.prog gX iM:=okF Tryz.func92 (by kernel_rfl)
theorem yM:aZ Tryz.prog eH bJ:=okF Tryz.func48 (by kernel_rfl)
theorem yg:aZ Tryz.prog dY fU:=okF Tryz.func23 (by kernel_rfl)
theorem zJ:aZ Tryz.prog iR fB:=okF Tryz.func49 (by kernel_rfl)
theorem WS:aZ Tryz.prog jT dK:=okF Tryz.func24 (by kernel_rfl)
theorem RP:aZ Tryz.prog fD kz:=okF Tryz.func50 (by kernel_rfl)
theorem Yf:aZ Tryz.prog jb CJ:=okF Tryz.func51 (by kernel_rfl)
theorem Yg:aZ Tryz.prog oP CP:=okF Tryz.func52 (by kernel_rfl)
theorem WR:aZ Tryz.prog xQ AA:=okF Tryz.func96 (by kernel_rfl)
theorem JA:aZ Tryz.prog qc oJ:=okF Tryz.func10 (by kernel_rfl)
theorem Lp:aZ Tryz.prog rE uH:=okF Tryz.func19 (by kernel_rfl)
theorem WO:aZ Tryz.prog xP Az:=okF Tryz.func42 (by kernel_rfl)
theorem RH:aZ Tryz.prog qE uY:=okF Tryz.func89 (by kernel_rfl)
theorem Iu:aZ Tryz.prog oO qL:=okF Tryz.func14 (by kernel_rfl)
theorem Jz:aZ Tryz.prog pX sK:=okF Tryz.func18 (by kernel_rfl)
theorem Uz:aZ Tryz.prog pY zy:=okF Tryz.func40 (by kernel_rfl)
theorem Lm:aZ Tryz.prog rD uG:=okF Tryz.func41 (by kernel_rfl)
theorem ajE:∀p∈Tv,aZ Tryz.prog p.1 p.2:=by
 simp only [Tv,List.forall_mem_cons];exact ⟨Qb,UB,NP,BN,NM,JF,JD,Ye,Gq,RI,Qa,WQ,P9,UA,P8,JK,JG,JB,JH,RG,Ak,Ir,NK,FP,xq,xX,Ls,Iw,FT,Dj,DT,EL,Gt,JE,JM,DR,Gp,JI,Lr,Iy,Gu,Lu,JC,FQ,JL,Iz,RJ,EK,Gs,JJ,Iq,Lj,NJ,NI,NH,P5,Ll,P6,NQ,Jy,Io,FO,Uy,Ux,PZ,RF,Gn,P7,qy,rJ,WT,Ip,RN,yY,zV,yM,yg,zJ,WS,RP,Yf,Yg,WR,JA,Lp,WO,RH,Iu,Jz,Uz,Lm,fun p hp=>by cases hp⟩
theorem mixed:Tryz.prog.follows .mixedOrders=true:=by kernel_rfl
end Go.Ai.Z
