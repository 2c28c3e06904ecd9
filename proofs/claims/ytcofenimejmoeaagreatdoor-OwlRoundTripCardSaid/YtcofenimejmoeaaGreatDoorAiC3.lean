/-
 Each function in the small language is a faithful copy: written by program.
-/
import Derived.Test.YtcofenimejmoeaaGreatDoorAiRn5
import Derived.Test.YtcofenimejmoeaaGreatDoorAiC2
import Derived.Test.YtcofenimejmoeaaGreatDoorChecked
set_option maxRecDepth 100000
set_option linter.unusedSimpArgs false
set_option linter.unusedVariables false
set_option linter.unusedSectionVars false
namespace Go.Ai.Z
open Go.Proofs
set_option maxRecDepth 100000
def okB (P:Program) (rf:Func) (fn:bM):Bool:=!(rf.name == "runtime.NumGoroutine") && (match rf.body with|some c=>wY P (.std rf.ntmps) c fn.code && decide (fn.np≤rf.ntmps) && yV P rf.results.toList fn.res|none=>false)
theorem okF {P:Program} {f:FuncId} {rf:Func} {fn:bM} (h:P.funcs[f]?=some rf) (h2:okB P rf fn=true):aZ P f fn:=by
 unfold okB at h2
 cases hb:rf.body with
 | none=>rw [hb] at h2;simp at h2
 | some c=>
  rw [hb] at h2;simp only [Bool.and_eq_true,Bool.not_eq_true',decide_eq_true_eq] at h2;obtain ⟨h3,⟨h4,h5⟩,h6⟩:=h2;exact ⟨rf,c,h,h3,hb,h4,h5,h6⟩
theorem ES:aZ Tryz.prog pO iW:=okF Tryz.func4 (by kernel_rfl)
theorem Td:aZ Tryz.prog yh Iz:=okF Tryz.func9 (by kernel_rfl)
theorem MH:aZ Tryz.prog sZ vC:=okF Tryz.func32 (by kernel_rfl)
theorem Bq:aZ Tryz.prog gG aA:=okF Tryz.func60 (by kernel_rfl)
theorem MG:aZ Tryz.prog bK qI:=okF Tryz.func75 (by kernel_rfl)
theorem Je:aZ Tryz.prog aO kD:=okF Tryz.func80 (by kernel_rfl)
theorem Jc:aZ Tryz.prog pI ou:=okF Tryz.func116 (by kernel_rfl)
theorem Xj:aZ Tryz.prog xg BN:=okF Tryz.func144 (by kernel_rfl)
theorem FI:aZ Tryz.prog lm o9:=okF Tryz.func145 (by kernel_rfl)
theorem Qx:aZ Tryz.prog wB iJ:=okF Tryz.func117 (by kernel_rfl)
theorem O4:aZ Tryz.prog qY oN:=okF Tryz.func146 (by kernel_rfl)
theorem VG:aZ Tryz.prog uU nN:=okF Tryz.func20 (by kernel_rfl)
theorem O3:aZ Tryz.prog qX mZ:=okF Tryz.func147 (by kernel_rfl)
theorem Tc:aZ Tryz.prog vK jW:=okF Tryz.func148 (by kernel_rfl)
theorem O1:aZ Tryz.prog qW wK:=okF Tryz.func115 (by kernel_rfl)
theorem Jj:aZ Tryz.prog bU lQ:=okF Tryz.func77 (by kernel_rfl)
theorem Jf:aZ Tryz.prog aN rZ:=okF Tryz.func78 (by kernel_rfl)
theorem Ja:aZ Tryz.prog aH lN:=okF Tryz.func79 (by kernel_rfl)
theorem Jg:aZ Tryz.prog aP dO:=okF Tryz.func107 (by kernel_rfl)
theorem Qv:aZ Tryz.prog qc uH:=okF Tryz.func46 (by kernel_rfl)
theorem zW:aZ Tryz.prog jr jc:=okF Tryz.func93 (by kernel_rfl)
theorem Hr:aZ Tryz.prog lV nC:=okF Tryz.func97 (by kernel_rfl)
theorem MF:aZ Tryz.prog oP vw:=okF Tryz.func114 (by kernel_rfl)
theorem EP:aZ Tryz.prog kK oI:=okF Tryz.func142 (by kernel_rfl)
theorem wR:aZ Tryz.prog fD dH:=okF Tryz.func167 (by kernel_rfl)
theorem xG:aZ Tryz.prog fO fB:=okF Tryz.func173 (by kernel_rfl)
theorem KA:aZ Tryz.prog lW kV:=okF Tryz.func61 (by kernel_rfl)
theorem Hu:aZ Tryz.prog dP nD:=okF Tryz.func108 (by kernel_rfl)
theorem ER:aZ Tryz.prog aU dN:=okF Tryz.func109 (by kernel_rfl)
theorem Cm:aZ Tryz.prog gW iT:=okF Tryz.func62 (by kernel_rfl)
theorem Dk:aZ Tryz.prog iF kH:=okF Tryz.func110 (by kernel_rfl)
theorem Ea:aZ Tryz.prog iY jy:=okF Tryz.func63 (by kernel_rfl)
theorem FM:aZ Tryz.prog jG jl:=okF Tryz.func64 (by kernel_rfl)
theorem Jd:aZ Tryz.prog kX dF:=okF Tryz.func65 (by kernel_rfl)
theorem Jl:aZ Tryz.prog pK oz:=okF Tryz.func111 (by kernel_rfl)
theorem Dj:aZ Tryz.prog iE jd:=okF Tryz.func66 (by kernel_rfl)
theorem FH:aZ Tryz.prog jF jh:=okF Tryz.func67 (by kernel_rfl)
theorem Jh:aZ Tryz.prog kY jk:=okF Tryz.func68 (by kernel_rfl)
theorem Kz:aZ Tryz.prog kL o8:=okF Tryz.func69 (by kernel_rfl)
theorem Hw:aZ Tryz.prog gB dS:=okF Tryz.func112 (by kernel_rfl)
theorem FN:aZ Tryz.prog iU mG:=okF Tryz.func70 (by kernel_rfl)
theorem KC:aZ Tryz.prog kM kW:=okF Tryz.func71 (by kernel_rfl)
theorem Jb:aZ Tryz.prog jL ji:=okF Tryz.func72 (by kernel_rfl)
theorem EQ:aZ Tryz.prog ig iV:=okF Tryz.func73 (by kernel_rfl)
theorem Jk:aZ Tryz.prog jM aS:=okF Tryz.func74 (by kernel_rfl)
theorem Hy:aZ Tryz.prog lX dh:=okF Tryz.func113 (by kernel_rfl)
theorem Qy:aZ Tryz.prog wE iK:=okF Tryz.func143 (by kernel_rfl)
theorem D9:aZ Tryz.prog lM aY:=okF Tryz.func33 (by kernel_rfl)
theorem FK:aZ Tryz.prog nH ay:=okF Tryz.func76 (by kernel_rfl)
theorem Ji:aZ Tryz.prog pJ dG:=okF Tryz.func81 (by kernel_rfl)
theorem Hq:aZ Tryz.prog jq kZ:=okF Tryz.func15 (by kernel_rfl)
theorem Ku:aZ Tryz.prog qR mO:=okF Tryz.func34 (by kernel_rfl)
theorem MC:aZ Tryz.prog oO vk:=okF Tryz.func82 (by kernel_rfl)
theorem MB:aZ Tryz.prog sW qG:=okF Tryz.func35 (by kernel_rfl)
theorem Me:aZ Tryz.prog lD nR:=okF Tryz.func83 (by kernel_rfl)
theorem OY:aZ Tryz.prog qP sS:=okF Tryz.func118 (by kernel_rfl)
theorem Kv:aZ Tryz.prog nT ug:=okF Tryz.func149 (by kernel_rfl)
theorem OZ:aZ Tryz.prog qQ wJ:=okF Tryz.func120 (by kernel_rfl)
theorem MI:aZ Tryz.prog tq vG:=okF Tryz.func150 (by kernel_rfl)
theorem I7:aZ Tryz.prog jK rX:=okF Tryz.func84 (by kernel_rfl)
theorem Hl:aZ Tryz.prog lT ng:=okF Tryz.func88 (by kernel_rfl)
theorem EO:aZ Tryz.prog kJ jS:=okF Tryz.func17 (by kernel_rfl)
theorem SY:aZ Tryz.prog sK tJ:=okF Tryz.func37 (by kernel_rfl)
theorem SX:aZ Tryz.prog vJ y9:=okF Tryz.func38 (by kernel_rfl)
theorem OX:aZ Tryz.prog jo sQ:=okF Tryz.func86 (by kernel_rfl)
theorem Qu:aZ Tryz.prog mg oh:=okF Tryz.func87 (by kernel_rfl)
theorem FD:aZ Tryz.prog nG kG:=okF Tryz.func39 (by kernel_rfl)
theorem O0:aZ Tryz.prog fM oM:=okF Tryz.func36 (by kernel_rfl)
theorem pW:aZ Tryz.prog bQ dI:=okF Tryz.func85 (by kernel_rfl)
theorem qZ:aZ Tryz.prog cO dR:=okF Tryz.func119 (by kernel_rfl)
theorem VJ:aZ Tryz.prog uV l9:=okF Tryz.func11 (by kernel_rfl)
theorem Ho:aZ Tryz.prog lU ny:=okF Tryz.func21 (by kernel_rfl)
theorem Qz:aZ Tryz.prog wF uM:=okF Tryz.func22 (by kernel_rfl)
theorem yM:aZ Tryz.prog gZ gV:=okF Tryz.func45 (by kernel_rfl)
theorem zI:aZ Tryz.prog gK iI:=okF Tryz.func92 (by kernel_rfl)
theorem yt:aZ Tryz.prog eu bJ:=okF Tryz.func48 (by kernel_rfl)
theorem xJ:aZ Tryz.prog dU fK:=okF Tryz.func23 (by kernel_rfl)
theorem zq:aZ Tryz.prog iM eX:=okF Tryz.func49 (by kernel_rfl)
theorem VI:aZ Tryz.prog jO dJ:=okF Tryz.func24 (by kernel_rfl)
theorem QA:aZ Tryz.prog fA jX:=okF Tryz.func50 (by kernel_rfl)
theorem Xk:aZ Tryz.prog iZ BO:=okF Tryz.func51 (by kernel_rfl)
theorem Xl:aZ Tryz.prog oG BP:=okF Tryz.func52 (by kernel_rfl)
theorem VH:aZ Tryz.prog xC Af:=okF Tryz.func96 (by kernel_rfl)
theorem I9:aZ Tryz.prog pG oq:=okF Tryz.func10 (by kernel_rfl)
theorem Ky:aZ Tryz.prog qV uj:=okF Tryz.func19 (by kernel_rfl)
theorem VF:aZ Tryz.prog xB Ae:=okF Tryz.func42 (by kernel_rfl)
theorem Qw:aZ Tryz.prog qf uJ:=okF Tryz.func89 (by kernel_rfl)
theorem Ht:aZ Tryz.prog oD qy:=okF Tryz.func14 (by kernel_rfl)
theorem I8:aZ Tryz.prog pz rY:=okF Tryz.func18 (by kernel_rfl)
theorem S9:aZ Tryz.prog pF zf:=okF Tryz.func40 (by kernel_rfl)
theorem Kw:aZ Tryz.prog qU uh:=okF Tryz.func41 (by kernel_rfl)
theorem ais:∀p∈Ru,aZ Tryz.prog p.1 p.2:=by
 simp only [Ru,List.forall_mem_cons];exact ⟨ES,Td,MH,Bq,MG,Je,Jc,Xj,FI,Qx,O4,VG,O3,Tc,O1,Jj,Jf,Ja,Jg,Qv,zW,Hr,MF,EP,wR,xG,KA,Hu,ER,Cm,Dk,Ea,FM,Jd,Jl,Dj,FH,Jh,Kz,Hw,FN,KC,Jb,EQ,Jk,Hy,Qy,D9,FK,Ji,Hq,Ku,MC,MB,Me,OY,Kv,OZ,MI,I7,Hl,EO,SY,SX,OX,Qu,FD,O0,pW,qZ,VJ,Ho,Qz,yM,zI,yt,xJ,zq,VI,QA,Xk,Xl,VH,I9,Ky,VF,Qw,Ht,I8,S9,Kw,fun p hp=>by cases hp⟩
theorem mixed:Tryz.prog.follows .mixedOrders=true:=by kernel_rfl
end Go.Ai.Z
