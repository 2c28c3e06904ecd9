/-
 Each function in the small language is a faithful copy: written by program.
-/
import Derived.Test.YtalbhlfigmlddaaGreatDoorAiRn5
import Derived.Test.YtalbhlfigmlddaaGreatDoorAiC2
import Derived.Test.YtalbhlfigmlddaaGreatDoorChecked
set_option maxRecDepth 100000
set_option linter.unusedSimpArgs false
set_option linter.unusedVariables false
set_option linter.unusedSectionVars false
namespace Go.Ai.Z
open Go.Proofs
set_option maxRecDepth 100000
def okB (P:Program) (rf:Func) (fn:aP):Bool:=!(rf.name == "runtime.NumGoroutine") && (match rf.body with|some c=>tH P rf.ntmps c fn.code && decide (fn.np≤rf.ntmps) && wU P rf.results.toList fn.res|none=>false)
theorem okF {P:Program} {f:FuncId} {rf:Func} {fn:aP} (h:P.funcs[f]?=some rf) (h2:okB P rf fn=true):aK P f fn:=by
 unfold okB at h2
 cases hb:rf.body with
 | none=>rw [hb] at h2;simp at h2
 | some c=>
  rw [hb] at h2
  simp only [Bool.and_eq_true,Bool.not_eq_true',decide_eq_true_eq] at h2
  obtain ⟨h3,⟨h4,h5⟩,h6⟩:=h2
  exact ⟨rf,c,h,h3,hb,h4,h5,h6⟩
theorem AU:aK Tryz.prog lS dU:=okF Tryz.func7 (by kernel_rfl)
theorem NJ:aK Tryz.prog sD tZ:=okF Tryz.func8 (by kernel_rfl)
theorem La:aK Tryz.prog jR Ba:=okF Tryz.func10 (by kernel_rfl)
theorem JA:aK Tryz.prog xw zM:=okF Tryz.func26 (by kernel_rfl)
theorem Hl:aK Tryz.prog vF yG:=okF Tryz.func54 (by kernel_rfl)
theorem Fg:aK Tryz.prog tV xH:=okF Tryz.func55 (by kernel_rfl)
theorem NI:aK Tryz.prog vX Dy:=okF Tryz.func56 (by kernel_rfl)
theorem O7:aK Tryz.prog qZ FH:=okF Tryz.func87 (by kernel_rfl)
theorem Hg:aK Tryz.prog vC yF:=okF Tryz.func88 (by kernel_rfl)
theorem Lc:aK Tryz.prog eG jq:=okF Tryz.func12 (by kernel_rfl)
theorem CG:aK Tryz.prog kz eH:=okF Tryz.func31 (by kernel_rfl)
theorem D9:aK Tryz.prog kZ aC:=okF Tryz.func32 (by kernel_rfl)
theorem KY:aK Tryz.prog qE rU:=okF Tryz.func63 (by kernel_rfl)
theorem zV:aK Tryz.prog fE iU:=okF Tryz.func42 (by kernel_rfl)
theorem D5:aK Tryz.prog dP nD:=okF Tryz.func77 (by kernel_rfl)
theorem GY:aK Tryz.prog iQ jS:=okF Tryz.func81 (by kernel_rfl)
theorem KU:aK Tryz.prog qB oQ:=okF Tryz.func122 (by kernel_rfl)
theorem vN:aK Tryz.prog fF fA:=okF Tryz.func146 (by kernel_rfl)
theorem Jr:aK Tryz.prog mF nT:=okF Tryz.func123 (by kernel_rfl)
theorem Fa:aK Tryz.prog jU oG:=okF Tryz.func147 (by kernel_rfl)
theorem Js:aK Tryz.prog mG qH:=okF Tryz.func142 (by kernel_rfl)
theorem Ho:aK Tryz.prog kL pV:=okF Tryz.func148 (by kernel_rfl)
theorem Ci:aK Tryz.prog jd jH:=okF Tryz.func111 (by kernel_rfl)
theorem Au:aK Tryz.prog iL kQ:=okF Tryz.func78 (by kernel_rfl)
theorem rC:aK Tryz.prog dD cu:=okF Tryz.func112 (by kernel_rfl)
theorem G8:aK Tryz.prog nZ l7:=okF Tryz.func64 (by kernel_rfl)
theorem Jy:aK Tryz.prog pF nV:=okF Tryz.func65 (by kernel_rfl)
theorem CB:aK Tryz.prog je bY:=okF Tryz.func66 (by kernel_rfl)
theorem Jw:aK Tryz.prog jZ qI:=okF Tryz.func96 (by kernel_rfl)
theorem D8:aK Tryz.prog kY ja:=okF Tryz.func33 (by kernel_rfl)
theorem rP:aK Tryz.prog aY dw:=okF Tryz.func67 (by kernel_rfl)
theorem uh:aK Tryz.prog eF bV:=okF Tryz.func97 (by kernel_rfl)
theorem Ea:aK Tryz.prog fV jb:=okF Tryz.func20 (by kernel_rfl)
theorem yY:aK Tryz.prog gB jL:=okF Tryz.func44 (by kernel_rfl)
theorem sG:aK Tryz.prog bK aQ:=okF Tryz.func46 (by kernel_rfl)
theorem CJ:aK Tryz.prog kC iJ:=okF Tryz.func34 (by kernel_rfl)
theorem Cj:aK Tryz.prog gQ iI:=okF Tryz.func23 (by kernel_rfl)
theorem E8:aK Tryz.prog mJ jy:=okF Tryz.func47 (by kernel_rfl)
theorem G5:aK Tryz.prog kK pO:=okF Tryz.func80 (by kernel_rfl)
theorem GZ:aK Tryz.prog nX lW:=okF Tryz.func48 (by kernel_rfl)
theorem zT:aK Tryz.prog gY gm:=okF Tryz.func49 (by kernel_rfl)
theorem NE:aK Tryz.prog nR oq:=okF Tryz.func82 (by kernel_rfl)
theorem ND:aK Tryz.prog rX tY:=okF Tryz.func83 (by kernel_rfl)
theorem Jq:aK Tryz.prog jr qG:=okF Tryz.func124 (by kernel_rfl)
theorem KT:aK Tryz.prog lG lV:=okF Tryz.func125 (by kernel_rfl)
theorem Ar:aK Tryz.prog jJ gV:=okF Tryz.func84 (by kernel_rfl)
theorem Jt:aK Tryz.prog dB kG:=okF Tryz.func50 (by kernel_rfl)
theorem lC:aK Tryz.prog aT bn:=okF Tryz.func85 (by kernel_rfl)
theorem mQ:aK Tryz.prog aX bJ:=okF Tryz.func126 (by kernel_rfl)
theorem zW:aK Tryz.prog jw gu:=okF Tryz.func68 (by kernel_rfl)
theorem Ju:aK Tryz.prog mO jF:=okF Tryz.func24 (by kernel_rfl)
theorem Fb:aK Tryz.prog mM jA:=okF Tryz.func51 (by kernel_rfl)
theorem KW:aK Tryz.prog qC rQ:=okF Tryz.func86 (by kernel_rfl)
theorem G7:aK Tryz.prog nY pR:=okF Tryz.func52 (by kernel_rfl)
theorem KZ:aK Tryz.prog oC A8:=okF Tryz.func11 (by kernel_rfl)
theorem NG:aK Tryz.prog zF Dw:=okF Tryz.func28 (by kernel_rfl)
theorem sW:aK Tryz.prog jv lY:=okF Tryz.func30 (by kernel_rfl)
theorem uY:aK Tryz.prog jM nU:=okF Tryz.func62 (by kernel_rfl)
theorem Jz:aK Tryz.prog su zL:=okF Tryz.func18 (by kernel_rfl)
theorem NH:aK Tryz.prog vW Dx:=okF Tryz.func14 (by kernel_rfl)
theorem rq:aK Tryz.prog iH kF:=okF Tryz.func35 (by kernel_rfl)
theorem Hf:aK Tryz.prog jG pU:=okF Tryz.func37 (by kernel_rfl)
theorem Eb:aK Tryz.prog fB dG:=okF Tryz.func72 (by kernel_rfl)
theorem Hq:aK Tryz.prog iR jT:=okF Tryz.func108 (by kernel_rfl)
theorem zX:aK Tryz.prog dF bG:=okF Tryz.func73 (by kernel_rfl)
theorem CP:aK Tryz.prog fG iK:=okF Tryz.func109 (by kernel_rfl)
theorem NK:aK Tryz.prog sF qy:=okF Tryz.func71 (by kernel_rfl)
theorem qw:aK Tryz.prog gU jQ:=okF Tryz.func38 (by kernel_rfl)
theorem KX:aK Tryz.prog xZ A7:=okF Tryz.func41 (by kernel_rfl)
theorem He:aK Tryz.prog vz yE:=okF Tryz.func75 (by kernel_rfl)
theorem G9:aK Tryz.prog qK yC:=okF Tryz.func43 (by kernel_rfl)
theorem jh:aK Tryz.prog bD dO:=okF Tryz.func76 (by kernel_rfl)
theorem Fe:aK Tryz.prog pX xG:=okF Tryz.func19 (by kernel_rfl)
theorem O8:aK Tryz.prog uP nH:=okF Tryz.func9 (by kernel_rfl)
theorem D6:aK Tryz.prog kX nG:=okF Tryz.func25 (by kernel_rfl)
theorem Jv:aK Tryz.prog mP fH:=okF Tryz.func53 (by kernel_rfl)
theorem Qu:aK Tryz.prog tN qV:=okF Tryz.func21 (by kernel_rfl)
theorem zU:aK Tryz.prog pz sK:=okF Tryz.func58 (by kernel_rfl)
theorem Aw:aK Tryz.prog eU uo:=okF Tryz.func89 (by kernel_rfl)
theorem AA:aK Tryz.prog dL uw:=okF Tryz.func90 (by kernel_rfl)
theorem D7:aK Tryz.prog rZ wR:=okF Tryz.func127 (by kernel_rfl)
theorem AL:aK Tryz.prog iM uD:=okF Tryz.func128 (by kernel_rfl)
theorem AP:aK Tryz.prog eX uG:=okF Tryz.func93 (by kernel_rfl)
theorem xP:aK Tryz.prog jC qx:=okF Tryz.func91 (by kernel_rfl)
theorem Cm:aK Tryz.prog qP vH:=okF Tryz.func129 (by kernel_rfl)
theorem G6:aK Tryz.prog vw yB:=okF Tryz.func149 (by kernel_rfl)
theorem AB:aK Tryz.prog lM uz:=okF Tryz.func92 (by kernel_rfl)
theorem AQ:aK Tryz.prog lQ uH:=okF Tryz.func130 (by kernel_rfl)
theorem AO:aK Tryz.prog lN uF:=okF Tryz.func150 (by kernel_rfl)
theorem Az:aK Tryz.prog lK uq:=okF Tryz.func151 (by kernel_rfl)
theorem yw:aK Tryz.prog jO qW:=okF Tryz.func152 (by kernel_rfl)
theorem aaH:∀p∈EG,aK Tryz.prog p.1 p.2:=by
 simp only [EG,List.forall_mem_cons]
 exact ⟨AU,NJ,La,JA,Hl,Fg,NI,O7,Hg,Lc,CG,D9,KY,zV,D5,GY,KU,vN,Jr,Fa,Js,Ho,Ci,Au,rC,G8,Jy,CB,Jw,D8,rP,uh,Ea,yY,sG,CJ,Cj,E8,G5,GZ,zT,NE,ND,Jq,KT,Ar,Jt,lC,mQ,zW,Ju,Fb,KW,G7,KZ,NG,sW,uY,Jz,NH,rq,Hf,Eb,Hq,zX,CP,NK,qw,KX,He,G9,jh,Fe,O8,D6,Jv,Qu,zU,Aw,AA,D7,AL,AP,xP,Cm,G6,AB,AQ,AO,Az,yw,fun p hp=>by cases hp⟩
theorem mixed:Tryz.prog.follows .mixedOrders=true:=by kernel_rfl
end Go.Ai.Z
