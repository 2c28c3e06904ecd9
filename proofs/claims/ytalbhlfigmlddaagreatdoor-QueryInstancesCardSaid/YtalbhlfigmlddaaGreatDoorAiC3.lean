/-
 Each function in the small language is a faithful copy: written by program.
-/
import Derived.Test.YtalbhlfigmlddaaGreatDoorAiRn5
import Derived.Test.YtalbhlfigmlddaaGreatDoorAiC2
import Derived.Test.YtalbhlfigmlddaaGreatDoorChecked
set_option maxRecDepth 100000
set_option linter.unusedSimpArgs false
set_option linter.unusedVariables false
set_option linter.unusedSectionVars false
namespace Go.Ai.Z
open Go.Proofs
set_option maxRecDepth 100000
def okB (P:Program) (rf:Func) (fn:aQ):Bool:=!(rf.name == "runtime.NumGoroutine") && (match rf.body with|some c=>uM P rf.ntmps c fn.code && decide (fn.np≤rf.ntmps) && xY P rf.results.toList fn.res|none=>false)
theorem okF {P:Program} {f:FuncId} {rf:Func} {fn:aQ} (h:P.funcs[f]?=some rf) (h2:okB P rf fn=true):aN P f fn:=by
 unfold okB at h2
 cases hb:rf.body with
 | none=>rw [hb] at h2;simp at h2
 | some c=>
  rw [hb] at h2
  simp only [Bool.and_eq_true,Bool.not_eq_true',decide_eq_true_eq] at h2
  obtain ⟨h3,⟨h4,h5⟩,h6⟩:=h2
  exact ⟨rf,c,h,h3,hb,h4,h5,h6⟩
theorem y9:aN Tryz.prog kE bV:=okF Tryz.func6 (by kernel_rfl)
theorem OY:aN Tryz.prog tZ ve:=okF Tryz.func8 (by kernel_rfl)
theorem MR:aN Tryz.prog kH BR:=okF Tryz.func10 (by kernel_rfl)
theorem KE:aN Tryz.prog yw AA:=okF Tryz.func26 (by kernel_rfl)
theorem IG:aN Tryz.prog wE zo:=okF Tryz.func54 (by kernel_rfl)
theorem Gf:aN Tryz.prog uU yF:=okF Tryz.func55 (by kernel_rfl)
theorem OX:aN Tryz.prog wZ Ee:=okF Tryz.func56 (by kernel_rfl)
theorem QF:aN Tryz.prog su Gs:=okF Tryz.func87 (by kernel_rfl)
theorem IE:aN Tryz.prog wB zn:=okF Tryz.func88 (by kernel_rfl)
theorem MS:aN Tryz.prog gu jI:=okF Tryz.func12 (by kernel_rfl)
theorem Dy:aN Tryz.prog kT fD:=okF Tryz.func31 (by kernel_rfl)
theorem EJ:aN Tryz.prog lU aC:=okF Tryz.func32 (by kernel_rfl)
theorem MP:aN Tryz.prog rq sZ:=okF Tryz.func63 (by kernel_rfl)
theorem AX:aN Tryz.prog fV jh:=okF Tryz.func42 (by kernel_rfl)
theorem EF:aN Tryz.prog eH oh:=okF Tryz.func77 (by kernel_rfl)
theorem Ip:aN Tryz.prog jd kJ:=okF Tryz.func81 (by kernel_rfl)
theorem ML:aN Tryz.prog qY pY:=okF Tryz.func122 (by kernel_rfl)
theorem wS:aN Tryz.prog fZ fK:=okF Tryz.func146 (by kernel_rfl)
theorem Ku:aN Tryz.prog nH oO:=okF Tryz.func123 (by kernel_rfl)
theorem F7:aN Tryz.prog kM pI:=okF Tryz.func147 (by kernel_rfl)
theorem Kv:aN Tryz.prog nI rE:=okF Tryz.func142 (by kernel_rfl)
theorem II:aN Tryz.prog lm qI:=okF Tryz.func148 (by kernel_rfl)
theorem Du:aN Tryz.prog jv jU:=okF Tryz.func111 (by kernel_rfl)
theorem BA:aN Tryz.prog jb lG:=okF Tryz.func78 (by kernel_rfl)
theorem sF:aN Tryz.prog dP dH:=okF Tryz.func112 (by kernel_rfl)
theorem Iz:aN Tryz.prog o8 ng:=okF Tryz.func64 (by kernel_rfl)
theorem KC:aN Tryz.prog qx oQ:=okF Tryz.func65 (by kernel_rfl)
theorem Dx:aN Tryz.prog jy dG:=okF Tryz.func66 (by kernel_rfl)
theorem KA:aN Tryz.prog kS rF:=okF Tryz.func96 (by kernel_rfl)
theorem EI:aN Tryz.prog lT jo:=okF Tryz.func33 (by kernel_rfl)
theorem sU:aN Tryz.prog bn dL:=okF Tryz.func67 (by kernel_rfl)
theorem vw:aN Tryz.prog fB dD:=okF Tryz.func97 (by kernel_rfl)
theorem EK:aN Tryz.prog fM jq:=okF Tryz.func20 (by kernel_rfl)
theorem zO:aN Tryz.prog iC jZ:=okF Tryz.func44 (by kernel_rfl)
theorem uf:aN Tryz.prog cO aU:=okF Tryz.func46 (by kernel_rfl)
theorem Dz:aN Tryz.prog kU iZ:=okF Tryz.func34 (by kernel_rfl)
theorem Dv:aN Tryz.prog jw iY:=okF Tryz.func23 (by kernel_rfl)
theorem F6:aN Tryz.prog nJ jM:=okF Tryz.func47 (by kernel_rfl)
theorem Ir:aN Tryz.prog kZ qE:=okF Tryz.func80 (by kernel_rfl)
theorem Iq:aN Tryz.prog oV mW:=okF Tryz.func48 (by kernel_rfl)
theorem AQ:aN Tryz.prog iH gZ:=okF Tryz.func49 (by kernel_rfl)
theorem OU:aN Tryz.prog oL o9:=okF Tryz.func82 (by kernel_rfl)
theorem OT:aN Tryz.prog tN uX:=okF Tryz.func83 (by kernel_rfl)
theorem Kt:aN Tryz.prog jJ rD:=okF Tryz.func124 (by kernel_rfl)
theorem MK:aN Tryz.prog l9 mV:=okF Tryz.func125 (by kernel_rfl)
theorem Bz:aN Tryz.prog jX iG:=okF Tryz.func84 (by kernel_rfl)
theorem Kw:aN Tryz.prog dN kW:=okF Tryz.func50 (by kernel_rfl)
theorem lZ:aN Tryz.prog aW bH:=okF Tryz.func85 (by kernel_rfl)
theorem nO:aN Tryz.prog bf cu:=okF Tryz.func126 (by kernel_rfl)
theorem AY:aN Tryz.prog jL iq:=okF Tryz.func68 (by kernel_rfl)
theorem Ky:aN Tryz.prog qm jT:=okF Tryz.func24 (by kernel_rfl)
theorem F8:aN Tryz.prog nK jO:=okF Tryz.func51 (by kernel_rfl)
theorem MN:aN Tryz.prog qZ sW:=okF Tryz.func86 (by kernel_rfl)
theorem Iw:aN Tryz.prog oW qF:=okF Tryz.func52 (by kernel_rfl)
theorem MQ:aN Tryz.prog pz BQ:=okF Tryz.func11 (by kernel_rfl)
theorem OV:aN Tryz.prog Ap Ed:=okF Tryz.func28 (by kernel_rfl)
theorem uG:aN Tryz.prog jK mY:=okF Tryz.func30 (by kernel_rfl)
theorem vX:aN Tryz.prog kC oP:=okF Tryz.func62 (by kernel_rfl)
theorem KD:aN Tryz.prog tY Az:=okF Tryz.func18 (by kernel_rfl)
theorem OW:aN Tryz.prog qK uY:=okF Tryz.func14 (by kernel_rfl)
theorem sD:aN Tryz.prog dO fC:=okF Tryz.func35 (by kernel_rfl)
theorem IC:aN Tryz.prog dh kK:=okF Tryz.func37 (by kernel_rfl)
theorem EL:aN Tryz.prog fO dR:=okF Tryz.func72 (by kernel_rfl)
theorem IJ:aN Tryz.prog je kL:=okF Tryz.func108 (by kernel_rfl)
theorem AZ:aN Tryz.prog dQ bW:=okF Tryz.func73 (by kernel_rfl)
theorem DC:aN Tryz.prog gm ja:=okF Tryz.func109 (by kernel_rfl)
theorem OZ:aN Tryz.prog oM kG:=okF Tryz.func71 (by kernel_rfl)
theorem qU:aN Tryz.prog dB aT:=okF Tryz.func38 (by kernel_rfl)
theorem MO:aN Tryz.prog yS BP:=okF Tryz.func41 (by kernel_rfl)
theorem IB:aN Tryz.prog wz zk:=okF Tryz.func75 (by kernel_rfl)
theorem IA:aN Tryz.prog lg qH:=okF Tryz.func43 (by kernel_rfl)
theorem jB:aN Tryz.prog bM eG:=okF Tryz.func76 (by kernel_rfl)
theorem F9:aN Tryz.prog iI fJ:=okF Tryz.func19 (by kernel_rfl)
theorem QG:aN Tryz.prog vU oz:=okF Tryz.func9 (by kernel_rfl)
theorem EG:aN Tryz.prog lS oq:=okF Tryz.func25 (by kernel_rfl)
theorem Kz:aN Tryz.prog nM gq:=okF Tryz.func53 (by kernel_rfl)
theorem Sl:aN Tryz.prog uP rW:=okF Tryz.func21 (by kernel_rfl)
theorem Iy:aN Tryz.prog oZ qG:=okF Tryz.func22 (by kernel_rfl)
theorem AU:aN Tryz.prog qw uh:=okF Tryz.func58 (by kernel_rfl)
theorem BB:aN Tryz.prog fF vG:=okF Tryz.func89 (by kernel_rfl)
theorem BF:aN Tryz.prog eF vI:=okF Tryz.func90 (by kernel_rfl)
theorem EH:aN Tryz.prog tX xR:=okF Tryz.func127 (by kernel_rfl)
theorem BH:aN Tryz.prog jc vK:=okF Tryz.func128 (by kernel_rfl)
theorem BJ:aN Tryz.prog fG vN:=okF Tryz.func93 (by kernel_rfl)
theorem yK:aN Tryz.prog jQ qV:=okF Tryz.func91 (by kernel_rfl)
theorem Dw:aN Tryz.prog rQ wK:=okF Tryz.func129 (by kernel_rfl)
theorem Iu:aN Tryz.prog wu zh:=okF Tryz.func149 (by kernel_rfl)
theorem BG:aN Tryz.prog mM vJ:=okF Tryz.func92 (by kernel_rfl)
theorem BK:aN Tryz.prog mP vO:=okF Tryz.func130 (by kernel_rfl)
theorem BI:aN Tryz.prog mO vM:=okF Tryz.func150 (by kernel_rfl)
theorem BD:aN Tryz.prog mJ vH:=okF Tryz.func151 (by kernel_rfl)
theorem y8:aN Tryz.prog kD rX:=okF Tryz.func152 (by kernel_rfl)
theorem acB:∀p∈Fp,aN Tryz.prog p.1 p.2:=by
 simp only [Fp,List.forall_mem_cons]
 exact ⟨y9,OY,MR,KE,IG,Gf,OX,QF,IE,MS,Dy,EJ,MP,AX,EF,Ip,ML,wS,Ku,F7,Kv,II,Du,BA,sF,Iz,KC,Dx,KA,EI,sU,vw,EK,zO,uf,Dz,Dv,F6,Ir,Iq,AQ,OU,OT,Kt,MK,Bz,Kw,lZ,nO,AY,Ky,F8,MN,Iw,MQ,OV,uG,vX,KD,OW,sD,IC,EL,IJ,AZ,DC,OZ,qU,MO,IB,IA,jB,F9,QG,EG,Kz,Sl,Iy,AU,BB,BF,EH,BH,BJ,yK,Dw,Iu,BG,BK,BI,BD,y8,fun p hp=>by cases hp⟩
theorem mixed:Tryz.prog.follows .mixedOrders=true:=by kernel_rfl
end Go.Ai.Z
