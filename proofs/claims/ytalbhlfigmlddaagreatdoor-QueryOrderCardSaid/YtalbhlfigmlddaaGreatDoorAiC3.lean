/-
 Each function in the small language is a faithful copy: written by program.
-/
import Derived.Test.YtalbhlfigmlddaaGreatDoorAiRn5
import Derived.Test.YtalbhlfigmlddaaGreatDoorAiC2
import Derived.Test.YtalbhlfigmlddaaGreatDoorChecked
set_option maxRecDepth 100000
set_option linter.unusedSimpArgs false
set_option linter.unusedVariables false
set_option linter.unusedSectionVars false
namespace Go.Ai.Z
open Go.Proofs
set_option maxRecDepth 100000
def okB (P:Program) (rf:Func) (fn:aO):Bool:=!(rf.name == "runtime.NumGoroutine") && (match rf.body with|some c=>oI P rf.ntmps c fn.code && decide (fn.np≤rf.ntmps) && sG P rf.results.toList fn.res|none=>false)
theorem okF {P:Program} {f:FuncId} {rf:Func} {fn:aO} (h:P.funcs[f]?=some rf) (h2:okB P rf fn=true):aI P f fn:=by
 unfold okB at h2
 cases hb:rf.body with
 | none=>rw [hb] at h2;simp at h2
 | some c=>
  rw [hb] at h2
  simp only [Bool.and_eq_true,Bool.not_eq_true',decide_eq_true_eq] at h2
  obtain ⟨h3,⟨h4,h5⟩,h6⟩:=h2
  exact ⟨rf,c,h,h3,hb,h4,h5,h6⟩
theorem zH:aI Tryz.prog eU dI:=okF Tryz.func4 (by kernel_rfl)
theorem Jt:aI Tryz.prog iZ oV:=okF Tryz.func8 (by kernel_rfl)
theorem Hy:aI Tryz.prog iw yN:=okF Tryz.func10 (by kernel_rfl)
theorem F5:aI Tryz.prog sS xw:=okF Tryz.func26 (by kernel_rfl)
theorem Eg:aI Tryz.prog qB vw:=okF Tryz.func54 (by kernel_rfl)
theorem Cm:aI Tryz.prog oO tV:=okF Tryz.func55 (by kernel_rfl)
theorem Js:aI Tryz.prog qX Ag:=okF Tryz.func56 (by kernel_rfl)
theorem KT:aI Tryz.prog mW CY:=okF Tryz.func87 (by kernel_rfl)
theorem Ef:aI Tryz.prog qA vk:=okF Tryz.func88 (by kernel_rfl)
theorem Hz:aI Tryz.prog ku yP:=okF Tryz.func12 (by kernel_rfl)
theorem zF:aI Tryz.prog mG qH:=okF Tryz.func31 (by kernel_rfl)
theorem AU:aI Tryz.prog nP rZ:=okF Tryz.func32 (by kernel_rfl)
theorem Hu:aI Tryz.prog uD yL:=okF Tryz.func63 (by kernel_rfl)
theorem xE:aI Tryz.prog gB nV:=okF Tryz.func42 (by kernel_rfl)
theorem AO:aI Tryz.prog gI rW:=okF Tryz.func77 (by kernel_rfl)
theorem D5:aI Tryz.prog fK iC:=okF Tryz.func81 (by kernel_rfl)
theorem Hq:aI Tryz.prog lS kM:=okF Tryz.func122 (by kernel_rfl)
theorem qM:aI Tryz.prog dP dN:=okF Tryz.func146 (by kernel_rfl)
theorem FT:aI Tryz.prog jA jU:=okF Tryz.func123 (by kernel_rfl)
theorem Cc:aI Tryz.prog iF kz:=okF Tryz.func147 (by kernel_rfl)
theorem FU:aI Tryz.prog jB lU:=okF Tryz.func142 (by kernel_rfl)
theorem Eh:aI Tryz.prog iO lg:=okF Tryz.func148 (by kernel_rfl)
theorem zA:aI Tryz.prog jP qC:=okF Tryz.func111 (by kernel_rfl)
theorem yj:aI Tryz.prog jh pz:=okF Tryz.func78 (by kernel_rfl)
theorem mY:aI Tryz.prog fG iL:=okF Tryz.func112 (by kernel_rfl)
theorem Eb:aI Tryz.prog qx uX:=okF Tryz.func64 (by kernel_rfl)
theorem FY:aI Tryz.prog sQ xq:=okF Tryz.func65 (by kernel_rfl)
theorem zD:aI Tryz.prog jR qG:=okF Tryz.func66 (by kernel_rfl)
theorem FX:aI Tryz.prog kU xk:=okF Tryz.func96 (by kernel_rfl)
theorem AQ:aI Tryz.prog nO rY:=okF Tryz.func33 (by kernel_rfl)
theorem nG:aI Tryz.prog bY iR:=okF Tryz.func67 (by kernel_rfl)
theorem o7:aI Tryz.prog gU jF:=okF Tryz.func97 (by kernel_rfl)
theorem AX:aI Tryz.prog iY su:=okF Tryz.func20 (by kernel_rfl)
theorem vV:aI Tryz.prog iK nI:=okF Tryz.func44 (by kernel_rfl)
theorem nS:aI Tryz.prog fU jg:=okF Tryz.func46 (by kernel_rfl)
theorem zG:aI Tryz.prog mJ qI:=okF Tryz.func34 (by kernel_rfl)
theorem zB:aI Tryz.prog jQ qE:=okF Tryz.func23 (by kernel_rfl)
theorem Cb:aI Tryz.prog oM tJ:=okF Tryz.func47 (by kernel_rfl)
theorem D7:aI Tryz.prog lV uP:=okF Tryz.func80 (by kernel_rfl)
theorem D6:aI Tryz.prog ql uO:=okF Tryz.func48 (by kernel_rfl)
theorem xB:aI Tryz.prog iW nT:=okF Tryz.func49 (by kernel_rfl)
theorem Jo:aI Tryz.prog qW Ae:=okF Tryz.func82 (by kernel_rfl)
theorem Jm:aI Tryz.prog nK oQ:=okF Tryz.func83 (by kernel_rfl)
theorem FQ:aI Tryz.prog nJ wY:=okF Tryz.func124 (by kernel_rfl)
theorem Ho:aI Tryz.prog oZ yH:=okF Tryz.func125 (by kernel_rfl)
theorem yh:aI Tryz.prog lI pq:=okF Tryz.func84 (by kernel_rfl)
theorem FV:aI Tryz.prog jC wZ:=okF Tryz.func50 (by kernel_rfl)
theorem jd:aI Tryz.prog bZ eF:=okF Tryz.func85 (by kernel_rfl)
theorem jD:aI Tryz.prog dB fA:=okF Tryz.func126 (by kernel_rfl)
theorem xG:aI Tryz.prog kV nX:=okF Tryz.func68 (by kernel_rfl)
theorem FW:aI Tryz.prog sO xg:=okF Tryz.func24 (by kernel_rfl)
theorem Ce:aI Tryz.prog oN tK:=okF Tryz.func51 (by kernel_rfl)
theorem Hr:aI Tryz.prog uw yJ:=okF Tryz.func86 (by kernel_rfl)
theorem D9:aI Tryz.prog qw uV:=okF Tryz.func52 (by kernel_rfl)
theorem Hw:aI Tryz.prog jZ yM:=okF Tryz.func11 (by kernel_rfl)
theorem Jq:aI Tryz.prog wV Af:=okF Tryz.func28 (by kernel_rfl)
theorem oz:aI Tryz.prog gy jq:=okF Tryz.func30 (by kernel_rfl)
theorem qi:aI Tryz.prog gY jV:=okF Tryz.func62 (by kernel_rfl)
theorem FZ:aI Tryz.prog nR xu:=okF Tryz.func18 (by kernel_rfl)
theorem Jr:aI Tryz.prog fF jX:=okF Tryz.func14 (by kernel_rfl)
theorem mX:aI Tryz.prog aV aZ:=okF Tryz.func35 (by kernel_rfl)
theorem Ee:aI Tryz.prog bG iD:=okF Tryz.func37 (by kernel_rfl)
theorem AY:aI Tryz.prog dO bQ:=okF Tryz.func72 (by kernel_rfl)
theorem Ei:aI Tryz.prog fM iE:=okF Tryz.func108 (by kernel_rfl)
theorem xH:aI Tryz.prog bP bF:=okF Tryz.func73 (by kernel_rfl)
theorem zI:aI Tryz.prog dQ fH:=okF Tryz.func109 (by kernel_rfl)
theorem Ju:aI Tryz.prog jS iq:=okF Tryz.func71 (by kernel_rfl)
theorem lM:aI Tryz.prog aQ aB:=okF Tryz.func38 (by kernel_rfl)
theorem Ht:aI Tryz.prog uz yK:=okF Tryz.func41 (by kernel_rfl)
theorem Ed:aI Tryz.prog qy vg:=okF Tryz.func75 (by kernel_rfl)
theorem Ec:aI Tryz.prog lW uY:=okF Tryz.func43 (by kernel_rfl)
theorem fZ:aI Tryz.prog bC dh:=okF Tryz.func76 (by kernel_rfl)
theorem Cj:aI Tryz.prog lu tN:=okF Tryz.func19 (by kernel_rfl)
theorem Ea:aI Tryz.prog jW dG:=okF Tryz.func15 (by kernel_rfl)
theorem Jp:aI Tryz.prog gq oU:=okF Tryz.func39 (by kernel_rfl)
theorem Ci:aI Tryz.prog iG kC:=okF Tryz.func16 (by kernel_rfl)
theorem xC:aI Tryz.prog kT nU:=okF Tryz.func58 (by kernel_rfl)
theorem yt:aI Tryz.prog dK pF:=okF Tryz.func89 (by kernel_rfl)
theorem yw:aI Tryz.prog cO pI:=okF Tryz.func90 (by kernel_rfl)
theorem AP:aI Tryz.prog nN rX:=okF Tryz.func127 (by kernel_rfl)
theorem yA:aI Tryz.prog fJ pK:=okF Tryz.func128 (by kernel_rfl)
theorem yC:aI Tryz.prog dL pR:=okF Tryz.func93 (by kernel_rfl)
theorem tY:aI Tryz.prog gJ lN:=okF Tryz.func91 (by kernel_rfl)
theorem zC:aI Tryz.prog mF qF:=okF Tryz.func129 (by kernel_rfl)
theorem D8:aI Tryz.prog qm uU:=okF Tryz.func149 (by kernel_rfl)
theorem yx:aI Tryz.prog jk pJ:=okF Tryz.func92 (by kernel_rfl)
theorem yD:aI Tryz.prog jm pU:=okF Tryz.func130 (by kernel_rfl)
theorem yB:aI Tryz.prog jl pO:=okF Tryz.func150 (by kernel_rfl)
theorem yu:aI Tryz.prog ji pG:=okF Tryz.func151 (by kernel_rfl)
theorem uN:aI Tryz.prog gZ mP:=okF Tryz.func152 (by kernel_rfl)
theorem Wh:∀p∈BB,aI Tryz.prog p.1 p.2:=by
 simp only [BB,List.forall_mem_cons]
 exact ⟨zH,Jt,Hy,F5,Eg,Cm,Js,KT,Ef,Hz,zF,AU,Hu,xE,AO,D5,Hq,qM,FT,Cc,FU,Eh,zA,yj,mY,Eb,FY,zD,FX,AQ,nG,o7,AX,vV,nS,zG,zB,Cb,D7,D6,xB,Jo,Jm,FQ,Ho,yh,FV,jd,jD,xG,FW,Ce,Hr,D9,Hw,Jq,oz,qi,FZ,Jr,mX,Ee,AY,Ei,xH,zI,Ju,lM,Ht,Ed,Ec,fZ,Cj,Ea,Jp,Ci,xC,yt,yw,AP,yA,yC,tY,zC,D8,yx,yD,yB,yu,uN,fun p hp=>by cases hp⟩
theorem mixed:Tryz.prog.follows .mixedOrders=true:=by kernel_rfl
end Go.Ai.Z
