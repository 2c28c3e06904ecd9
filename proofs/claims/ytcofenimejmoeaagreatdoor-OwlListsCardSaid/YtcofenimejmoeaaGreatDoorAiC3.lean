/-
 Each function in the small language is a faithful copy: written by program.
-/
import Derived.Test.YtcofenimejmoeaaGreatDoorAiRn5
import Derived.Test.YtcofenimejmoeaaGreatDoorAiC2
import Derived.Test.YtcofenimejmoeaaGreatDoorChecked
set_option maxRecDepth 100000
set_option linter.unusedSimpArgs false
set_option linter.unusedVariables false
set_option linter.unusedSectionVars false
namespace Go.Ai.Z
open Go.Proofs
set_option maxRecDepth 100000
def okB (P:Program) (rf:Func) (fn:bJ):Bool:=!(rf.name == "runtime.NumGoroutine") && (match rf.body with|some c=>tH P (.std rf.ntmps) c fn.code && decide (fn.np≤rf.ntmps) && vT P rf.results.toList fn.res|none=>false)
theorem okF {P:Program} {f:FuncId} {rf:Func} {fn:bJ} (h:P.funcs[f]?=some rf) (h2:okB P rf fn=true):bg P f fn:=by
 unfold okB at h2
 cases hb:rf.body with
 | none=>rw [hb] at h2;simp at h2
 | some c=>
  rw [hb] at h2;simp only [Bool.and_eq_true,Bool.not_eq_true',decide_eq_true_eq] at h2;obtain ⟨h3,⟨h4,h5⟩,h6⟩:=h2;exact ⟨rf,c,h,h3,hb,h4,h5,h6⟩
theorem Gu:bg Tryz.prog rJ jC:=okF Tryz.func8 (by kernel_rfl)
theorem Oq:bg Tryz.prog uU Eo:=okF Tryz.func9 (by kernel_rfl)
theorem IE:bg Tryz.prog pV rD:=okF Tryz.func32 (by kernel_rfl)
theorem yj:bg Tryz.prog eX au:=okF Tryz.func60 (by kernel_rfl)
theorem IC:bg Tryz.prog bG nX:=okF Tryz.func75 (by kernel_rfl)
theorem ES:bg Tryz.prog aO jd:=okF Tryz.func80 (by kernel_rfl)
theorem EQ:bg Tryz.prog mV lK:=okF Tryz.func116 (by kernel_rfl)
theorem SA:bg Tryz.prog tN yH:=okF Tryz.func144 (by kernel_rfl)
theorem BU:bg Tryz.prog jJ mM:=okF Tryz.func145 (by kernel_rfl)
theorem MC:bg Tryz.prog sD fU:=okF Tryz.func117 (by kernel_rfl)
theorem Kv:bg Tryz.prog oI lY:=okF Tryz.func146 (by kernel_rfl)
theorem Qs:bg Tryz.prog qU lm:=okF Tryz.func20 (by kernel_rfl)
theorem Ku:bg Tryz.prog oH kU:=okF Tryz.func147 (by kernel_rfl)
theorem Oo:bg Tryz.prog rH ja:=okF Tryz.func148 (by kernel_rfl)
theorem Kt:bg Tryz.prog oG sK:=okF Tryz.func115 (by kernel_rfl)
theorem EY:bg Tryz.prog bI jT:=okF Tryz.func77 (by kernel_rfl)
theorem ET:bg Tryz.prog aN o7:=okF Tryz.func78 (by kernel_rfl)
theorem EO:bg Tryz.prog aH jS:=okF Tryz.func79 (by kernel_rfl)
theorem EU:bg Tryz.prog aP dH:=okF Tryz.func107 (by kernel_rfl)
theorem MB:bg Tryz.prog nI qL:=okF Tryz.func46 (by kernel_rfl)
theorem wX:bg Tryz.prog iq gI:=okF Tryz.func93 (by kernel_rfl)
theorem DU:bg Tryz.prog jW kX:=okF Tryz.func97 (by kernel_rfl)
theorem IB:bg Tryz.prog l7 rq:=okF Tryz.func114 (by kernel_rfl)
theorem Bq:bg Tryz.prog ji lV:=okF Tryz.func142 (by kernel_rfl)
theorem sQ:bg Tryz.prog dV dn:=okF Tryz.func167 (by kernel_rfl)
theorem uh:bg Tryz.prog dZ dR:=okF Tryz.func173 (by kernel_rfl)
theorem Gs:bg Tryz.prog jY jA:=okF Tryz.func61 (by kernel_rfl)
theorem DV:bg Tryz.prog dI kY:=okF Tryz.func108 (by kernel_rfl)
theorem Bz:bg Tryz.prog aT dG:=okF Tryz.func109 (by kernel_rfl)
theorem yS:bg Tryz.prog fC gu:=okF Tryz.func62 (by kernel_rfl)
theorem zn:bg Tryz.prog fO jh:=okF Tryz.func110 (by kernel_rfl)
theorem Ac:bg Tryz.prog gG iE:=okF Tryz.func63 (by kernel_rfl)
theorem BX:bg Tryz.prog iK gY:=okF Tryz.func64 (by kernel_rfl)
theorem ER:bg Tryz.prog jG cO:=okF Tryz.func65 (by kernel_rfl)
theorem E5:bg Tryz.prog mX lM:=okF Tryz.func111 (by kernel_rfl)
theorem zl:bg Tryz.prog fM gJ:=okF Tryz.func66 (by kernel_rfl)
theorem BR:bg Tryz.prog iJ gV:=okF Tryz.func67 (by kernel_rfl)
theorem EW:bg Tryz.prog jH gX:=okF Tryz.func68 (by kernel_rfl)
theorem Gq:bg Tryz.prog jk mJ:=okF Tryz.func69 (by kernel_rfl)
theorem DW:bg Tryz.prog eU dK:=okF Tryz.func112 (by kernel_rfl)
theorem BZ:bg Tryz.prog gy kF:=okF Tryz.func70 (by kernel_rfl)
theorem Gt:bg Tryz.prog jl jB:=okF Tryz.func71 (by kernel_rfl)
theorem EP:bg Tryz.prog iQ gW:=okF Tryz.func72 (by kernel_rfl)
theorem Bv:bg Tryz.prog fG gB:=okF Tryz.func73 (by kernel_rfl)
theorem EZ:bg Tryz.prog iR aQ:=okF Tryz.func74 (by kernel_rfl)
theorem DX:bg Tryz.prog jZ bM:=okF Tryz.func113 (by kernel_rfl)
theorem MF:bg Tryz.prog sF fV:=okF Tryz.func143 (by kernel_rfl)
theorem Aa:bg Tryz.prog jR aX:=okF Tryz.func33 (by kernel_rfl)
theorem BV:bg Tryz.prog lg ak:=okF Tryz.func76 (by kernel_rfl)
theorem EX:bg Tryz.prog mW dh:=okF Tryz.func81 (by kernel_rfl)
theorem DT:bg Tryz.prog jV jI:=okF Tryz.func15 (by kernel_rfl)
theorem Gm:bg Tryz.prog oC kN:=okF Tryz.func34 (by kernel_rfl)
theorem IA:bg Tryz.prog lZ qZ:=okF Tryz.func82 (by kernel_rfl)
theorem Iz:bg Tryz.prog pU nT:=okF Tryz.func35 (by kernel_rfl)
theorem Iy:bg Tryz.prog jL lF:=okF Tryz.func83 (by kernel_rfl)
theorem Ko:bg Tryz.prog ou pK:=okF Tryz.func118 (by kernel_rfl)
theorem Gn:bg Tryz.prog lH qA:=okF Tryz.func149 (by kernel_rfl)
theorem Kq:bg Tryz.prog oz sJ:=okF Tryz.func120 (by kernel_rfl)
theorem IG:bg Tryz.prog pW rE:=okF Tryz.func150 (by kernel_rfl)
theorem EM:bg Tryz.prog iP o5:=okF Tryz.func84 (by kernel_rfl)
theorem DN:bg Tryz.prog jU kW:=okF Tryz.func88 (by kernel_rfl)
theorem Bo:bg Tryz.prog fF iV:=okF Tryz.func17 (by kernel_rfl)
theorem Ol:bg Tryz.prog pG pY:=okF Tryz.func37 (by kernel_rfl)
theorem Oj:bg Tryz.prog rG vY:=okF Tryz.func38 (by kernel_rfl)
theorem J9:bg Tryz.prog kL sH:=okF Tryz.func86 (by kernel_rfl)
theorem Me:bg Tryz.prog nH nS:=okF Tryz.func87 (by kernel_rfl)
theorem BQ:bg Tryz.prog kZ jg:=okF Tryz.func39 (by kernel_rfl)
theorem Kr:bg Tryz.prog dY lX:=okF Tryz.func36 (by kernel_rfl)
theorem ny:bg Tryz.prog bH dA:=okF Tryz.func85 (by kernel_rfl)
theorem oK:bg Tryz.prog bK dJ:=okF Tryz.func119 (by kernel_rfl)
theorem Qw:bg Tryz.prog Dq G5:=okF Tryz.func11 (by kernel_rfl)
theorem DR:bg Tryz.prog tK wS:=okF Tryz.func21 (by kernel_rfl)
theorem MG:bg Tryz.prog y5 Cm:=okF Tryz.func22 (by kernel_rfl)
theorem vH:bg Tryz.prog kM nV:=okF Tryz.func45 (by kernel_rfl)
theorem wO:bg Tryz.prog lC pO:=okF Tryz.func92 (by kernel_rfl)
theorem uV:bg Tryz.prog jX nM:=okF Tryz.func48 (by kernel_rfl)
theorem uy:bg Tryz.prog gQ mF:=okF Tryz.func23 (by kernel_rfl)
theorem wB:bg Tryz.prog kV oM:=okF Tryz.func49 (by kernel_rfl)
theorem Qv:bg Tryz.prog Dp GZ:=okF Tryz.func24 (by kernel_rfl)
theorem MH:bg Tryz.prog iw CB:=okF Tryz.func50 (by kernel_rfl)
theorem SC:bg Tryz.prog iL JJ:=okF Tryz.func51 (by kernel_rfl)
theorem SE:bg Tryz.prog pI JK:=okF Tryz.func52 (by kernel_rfl)
theorem Qu:bg Tryz.prog yO GX:=okF Tryz.func96 (by kernel_rfl)
theorem EN:bg Tryz.prog jF o6:=okF Tryz.func18 (by kernel_rfl)
theorem Om:bg Tryz.prog mQ vZ:=okF Tryz.func40 (by kernel_rfl)
theorem Gp:bg Tryz.prog oD qB:=okF Tryz.func41 (by kernel_rfl)
theorem adl:∀p∈NC,bg Tryz.prog p.1 p.2:=by
 simp only [NC,List.forall_mem_cons];exact ⟨Gu,Oq,IE,yj,IC,ES,EQ,SA,BU,MC,Kv,Qs,Ku,Oo,Kt,EY,ET,EO,EU,MB,wX,DU,IB,Bq,sQ,uh,Gs,DV,Bz,yS,zn,Ac,BX,ER,E5,zl,BR,EW,Gq,DW,BZ,Gt,EP,Bv,EZ,DX,MF,Aa,BV,EX,DT,Gm,IA,Iz,Iy,Ko,Gn,Kq,IG,EM,DN,Bo,Ol,Oj,J9,Me,BQ,Kr,ny,oK,Qw,DR,MG,vH,wO,uV,uy,wB,Qv,MH,SC,SE,Qu,EN,Om,Gp,fun p hp=>by cases hp⟩
theorem mixed:Tryz.prog.follows .mixedOrders=true:=by kernel_rfl
end Go.Ai.Z
