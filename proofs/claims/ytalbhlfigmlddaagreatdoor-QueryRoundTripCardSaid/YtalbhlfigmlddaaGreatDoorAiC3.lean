/-
 Each function in the small language is a faithful copy: written by program.
-/
import Derived.Test.YtalbhlfigmlddaaGreatDoorAiRn5
import Derived.Test.YtalbhlfigmlddaaGreatDoorAiC2
import Derived.Test.YtalbhlfigmlddaaGreatDoorChecked
set_option maxRecDepth 100000
set_option linter.unusedSimpArgs false
set_option linter.unusedVariables false
set_option linter.unusedSectionVars false
namespace Go.Ai.Z
open Go.Proofs
set_option maxRecDepth 100000
def okB (P:Program) (rf:Func) (fn:aV):Bool:=!(rf.name == "runtime.NumGoroutine") && (match rf.body with|some c=>wX P rf.ntmps c fn.code && decide (fn.np≤rf.ntmps) && zG P rf.results.toList fn.res|none=>false)
theorem okF {P:Program} {f:FuncId} {rf:Func} {fn:aV} (h:P.funcs[f]?=some rf) (h2:okB P rf fn=true):aP P f fn:=by
 unfold okB at h2
 cases hb:rf.body with
 | none=>rw [hb] at h2;simp at h2
 | some c=>
  rw [hb] at h2
  simp only [Bool.and_eq_true,Bool.not_eq_true',decide_eq_true_eq] at h2
  obtain ⟨h3,⟨h4,h5⟩,h6⟩:=h2
  exact ⟨rf,c,h,h3,hb,h4,h5,h6⟩
theorem AZ:aP Tryz.prog lM fB:=okF Tryz.func3 (by kernel_rfl)
theorem RH:aP Tryz.prog vU xq:=okF Tryz.func8 (by kernel_rfl)
theorem PK:aP Tryz.prog gU lZ:=okF Tryz.func10 (by kernel_rfl)
theorem NM:aP Tryz.prog pG fK:=okF Tryz.func26 (by kernel_rfl)
theorem KN:aP Tryz.prog qL jh:=okF Tryz.func54 (by kernel_rfl)
theorem Jd:aP Tryz.prog lV jr:=okF Tryz.func55 (by kernel_rfl)
theorem RG:aP Tryz.prog sW cO:=okF Tryz.func56 (by kernel_rfl)
theorem Ut:aP Tryz.prog pU yL:=okF Tryz.func87 (by kernel_rfl)
theorem KL:aP Tryz.prog qK aQ:=okF Tryz.func88 (by kernel_rfl)
theorem PL:aP Tryz.prog iR kT:=okF Tryz.func12 (by kernel_rfl)
theorem FU:aP Tryz.prog mJ fU:=okF Tryz.func31 (by kernel_rfl)
theorem Ht:aP Tryz.prog nY aI:=okF Tryz.func32 (by kernel_rfl)
theorem PG:aP Tryz.prog uj vJ:=okF Tryz.func63 (by kernel_rfl)
theorem Du:aP Tryz.prog gI jM:=okF Tryz.func42 (by kernel_rfl)
theorem Hl:aP Tryz.prog fD qc:=okF Tryz.func77 (by kernel_rfl)
theorem KA:aP Tryz.prog jJ lS:=okF Tryz.func81 (by kernel_rfl)
theorem Pz:aP Tryz.prog ug rJ:=okF Tryz.func122 (by kernel_rfl)
theorem yI:aP Tryz.prog gJ gq:=okF Tryz.func146 (by kernel_rfl)
theorem NC:aP Tryz.prog o6 qE:=okF Tryz.func123 (by kernel_rfl)
theorem I9:aP Tryz.prog lU qV:=okF Tryz.func147 (by kernel_rfl)
theorem ND:aP Tryz.prog o7 uq:=okF Tryz.func142 (by kernel_rfl)
theorem KO:aP Tryz.prog mZ sS:=okF Tryz.func148 (by kernel_rfl)
theorem FO:aP Tryz.prog kD lD:=okF Tryz.func111 (by kernel_rfl)
theorem D6:aP Tryz.prog jD nG:=okF Tryz.func78 (by kernel_rfl)
theorem vg:aP Tryz.prog dZ dQ:=okF Tryz.func112 (by kernel_rfl)
theorem KG:aP Tryz.prog qJ oU:=okF Tryz.func64 (by kernel_rfl)
theorem NJ:aP Tryz.prog rZ qF:=okF Tryz.func65 (by kernel_rfl)
theorem FT:aP Tryz.prog kF dN:=okF Tryz.func66 (by kernel_rfl)
theorem NI:aP Tryz.prog mG uw:=okF Tryz.func96 (by kernel_rfl)
theorem Hr:aP Tryz.prog nX jW:=okF Tryz.func33 (by kernel_rfl)
theorem vH:aP Tryz.prog bH dV:=okF Tryz.func67 (by kernel_rfl)
theorem xA:aP Tryz.prog fP dM:=okF Tryz.func97 (by kernel_rfl)
theorem Hu:aP Tryz.prog iF jX:=okF Tryz.func20 (by kernel_rfl)
theorem BP:aP Tryz.prog iL lJ:=okF Tryz.func44 (by kernel_rfl)
theorem vX:aP Tryz.prog dI aY:=okF Tryz.func46 (by kernel_rfl)
theorem FV:aP Tryz.prog mM jA:=okF Tryz.func34 (by kernel_rfl)
theorem FP:aP Tryz.prog kE jy:=okF Tryz.func23 (by kernel_rfl)
theorem I8:aP Tryz.prog o8 kW:=okF Tryz.func47 (by kernel_rfl)
theorem KD:aP Tryz.prog mY sJ:=okF Tryz.func80 (by kernel_rfl)
theorem KC:aP Tryz.prog qG oO:=okF Tryz.func48 (by kernel_rfl)
theorem Dq:aP Tryz.prog ji iH:=okF Tryz.func49 (by kernel_rfl)
theorem Ry:aP Tryz.prog qB qM:=okF Tryz.func82 (by kernel_rfl)
theorem Rx:aP Tryz.prog vO xk:=okF Tryz.func83 (by kernel_rfl)
theorem Nz:aP Tryz.prog kU uo:=okF Tryz.func124 (by kernel_rfl)
theorem Py:aP Tryz.prog oG oN:=okF Tryz.func125 (by kernel_rfl)
theorem D5:aP Tryz.prog lH ja:=okF Tryz.func84 (by kernel_rfl)
theorem NE:aP Tryz.prog dX mQ:=okF Tryz.func50 (by kernel_rfl)
theorem oz:aP Tryz.prog bf bU:=okF Tryz.func85 (by kernel_rfl)
theorem pI:aP Tryz.prog bG dw:=okF Tryz.func126 (by kernel_rfl)
theorem Dv:aP Tryz.prog kV iJ:=okF Tryz.func68 (by kernel_rfl)
theorem NG:aP Tryz.prog rY lm:=okF Tryz.func24 (by kernel_rfl)
theorem Ja:aP Tryz.prog pq kX:=okF Tryz.func51 (by kernel_rfl)
theorem PD:aP Tryz.prog uh vI:=okF Tryz.func86 (by kernel_rfl)
theorem KF:aP Tryz.prog qI sN:=okF Tryz.func52 (by kernel_rfl)
theorem PI:aP Tryz.prog kM rP:=okF Tryz.func11 (by kernel_rfl)
theorem RD:aP Tryz.prog vS qQ:=okF Tryz.func28 (by kernel_rfl)
theorem wQ:aP Tryz.prog bF dG:=okF Tryz.func30 (by kernel_rfl)
theorem xY:aP Tryz.prog gu iT:=okF Tryz.func62 (by kernel_rfl)
theorem NK:aP Tryz.prog vT Di:=okF Tryz.func18 (by kernel_rfl)
theorem RF:aP Tryz.prog yP Gy:=okF Tryz.func14 (by kernel_rfl)
theorem ve:aP Tryz.prog jw mP:=okF Tryz.func35 (by kernel_rfl)
theorem KJ:aP Tryz.prog lC sQ:=okF Tryz.func37 (by kernel_rfl)
theorem Hw:aP Tryz.prog gy eH:=okF Tryz.func72 (by kernel_rfl)
theorem KP:aP Tryz.prog jK lT:=okF Tryz.func108 (by kernel_rfl)
theorem Dw:aP Tryz.prog eu dh:=okF Tryz.func73 (by kernel_rfl)
theorem FW:aP Tryz.prog gK jC:=okF Tryz.func109 (by kernel_rfl)
theorem RI:aP Tryz.prog vV tX:=okF Tryz.func71 (by kernel_rfl)
theorem tN:aP Tryz.prog iZ lQ:=okF Tryz.func38 (by kernel_rfl)
theorem PE:aP Tryz.prog Ar Em:=okF Tryz.func41 (by kernel_rfl)
theorem KI:aP Tryz.prog yw Bd:=okF Tryz.func75 (by kernel_rfl)
theorem KH:aP Tryz.prog uz Bc:=okF Tryz.func43 (by kernel_rfl)
theorem kH:aP Tryz.prog bW fC:=okF Tryz.func76 (by kernel_rfl)
theorem Jc:aP Tryz.prog sV zX:=okF Tryz.func19 (by kernel_rfl)
theorem Uu:aP Tryz.prog xQ qi:=okF Tryz.func9 (by kernel_rfl)
theorem Ho:aP Tryz.prog nU qf:=okF Tryz.func25 (by kernel_rfl)
theorem NH:aP Tryz.prog pz gQ:=okF Tryz.func53 (by kernel_rfl)
theorem VN:aP Tryz.prog zS uV:=okF Tryz.func21 (by kernel_rfl)
theorem Rz:aP Tryz.prog vP qP:=okF Tryz.func13 (by kernel_rfl)
theorem Jb:aP Tryz.prog pF qW:=okF Tryz.func16 (by kernel_rfl)
theorem Dt:aP Tryz.prog dY cu:=okF Tryz.func58 (by kernel_rfl)
theorem D7:aP Tryz.prog dO kQ:=okF Tryz.func89 (by kernel_rfl)
theorem D9:aP Tryz.prog bP kS:=okF Tryz.func90 (by kernel_rfl)
theorem Hq:aP Tryz.prog nV qg:=okF Tryz.func127 (by kernel_rfl)
theorem Eb:aP Tryz.prog fV nJ:=okF Tryz.func128 (by kernel_rfl)
theorem Ed:aP Tryz.prog dP nK:=okF Tryz.func93 (by kernel_rfl)
theorem Ah:aP Tryz.prog gB dB:=okF Tryz.func91 (by kernel_rfl)
theorem FQ:aP Tryz.prog mF lF:=okF Tryz.func129 (by kernel_rfl)
theorem KE:aP Tryz.prog qH sK:=okF Tryz.func149 (by kernel_rfl)
theorem Ea:aP Tryz.prog jF jd:=okF Tryz.func92 (by kernel_rfl)
theorem Ee:aP Tryz.prog jH aS:=okF Tryz.func130 (by kernel_rfl)
theorem Ec:aP Tryz.prog jG je:=okF Tryz.func150 (by kernel_rfl)
theorem D8:aP Tryz.prog jE kR:=okF Tryz.func151 (by kernel_rfl)
theorem AY:aP Tryz.prog iC jg:=okF Tryz.func152 (by kernel_rfl)
theorem agi:∀p∈Iu,aP Tryz.prog p.1 p.2:=by
 simp only [Iu,List.forall_mem_cons]
 exact ⟨AZ,RH,PK,NM,KN,Jd,RG,Ut,KL,PL,FU,Ht,PG,Du,Hl,KA,Pz,yI,NC,I9,ND,KO,FO,D6,vg,KG,NJ,FT,NI,Hr,vH,xA,Hu,BP,vX,FV,FP,I8,KD,KC,Dq,Ry,Rx,Nz,Py,D5,NE,oz,pI,Dv,NG,Ja,PD,KF,PI,RD,wQ,xY,NK,RF,ve,KJ,Hw,KP,Dw,FW,RI,tN,PE,KI,KH,kH,Jc,Uu,Ho,NH,VN,Rz,Jb,Dt,D7,D9,Hq,Eb,Ed,Ah,FQ,KE,Ea,Ee,Ec,D8,AY,fun p hp=>by cases hp⟩
theorem mixed:Tryz.prog.follows .mixedOrders=true:=by kernel_rfl
end Go.Ai.Z
