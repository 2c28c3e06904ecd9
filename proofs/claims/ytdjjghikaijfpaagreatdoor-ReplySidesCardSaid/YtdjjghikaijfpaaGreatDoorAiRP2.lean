/-
 What one list of answers has and another lacks.
-/
import Derived.Test.YtdjjghikaijfpaaGreatDoorAiRP1
set_option maxRecDepth 100000
set_option linter.unusedSimpArgs false
set_option linter.unusedVariables false
set_option linter.unusedSectionVars false
namespace Go.Ai.Z
def wo (A B:List Td):List Td:=A.filter fun a=>decide (a ∉ B)
theorem TR (n:Nat):∀L:List Td,dD n (L.map eTd)=true
 | []=>rfl
 | a::r=>by
  have h:dD n (a.2.map AV.s)=true:=by
   induction a.2 with
   | nil=>rfl
   | cons x l ih=>simp [ih]
  simp [eTd,TR n r,h]
theorem aah (S:St) (n:Nat) (L:List Td):frz S n (.sl (L.map eTd))=some (.sl (L.map eTd)):=by
 unfold frz
 rw [if_pos (by simp [TR])]
theorem Ov (A B:List Td) (hA:A.length≤100000) (hB:B.length≤100000) (hS:∀a∈A,SmT a) (cx:Ctx):∀(r:List Td) (i:Nat) (acc:List Td) (S:St),A.drop i=r→acc.length≤i→cx.base≤S.length→cx.lim≤S.length→
  ∃(j:Int) (s2:St),AZ (aC P0.glob (dX P0) cx false jr) [1,4,8,9,10] [(1,.v (.sl (B.map eTd))),(4,.own false kS 2 (acc.map eTd)),(8,.v (.sl (A.map eTd))),(9,.v (.i .i64 A.length)),(10,.v (.i .i64 i))] S=
    .exit 0 [(1,.v (.sl (B.map eTd))),(4,.own false kS 2 ((acc++wo r B).map eTd)),(8,.v (.sl (A.map eTd))),(9,.v (.i .i64 A.length)),(10,.v (.i .i64 j)),(11,.v (.b false))] s2
 | [],i,acc,S,h,hacc,hcx,hlm=>by
  have h1:¬i<A.length:=Nat.not_lt.2 (drop_nil h)
  refine ⟨i,S,gI fun K hK=>?_⟩
  simp [jr,h1,wo]
 | p::r,i,acc,S,h,hacc,hcx,hlm=>by
  obtain ⟨h1,h2,h3,h4⟩:=drop_cons h
  have h5:=h4 h3
  have hwi:=wI (i:=i) (by omega)
  have hp:SmT p:=hS p (h5 ▸ List.getElem_mem h3)
  have e:=Xc p hp B (by omega) S.length (S++[.cells [.i .i64 p.1,.sl (p.2.map .s)]]) (by simp)
  by_cases hm:p∈B
  ·obtain ⟨j,s2,ih⟩:=Ov A B hA hB hS cx r (i+1) acc (S++[.cells [.i .i64 p.1,.sl (p.2.map .s)]]) h2 (by omega) (by simp;omega) (by simp;omega)
   have hw:wo (p::r) B=wo r B:=by simp [wo,hm]
   rw [hw]
   refine ⟨j,s2,gI fun K hK=>?_⟩
   rw [←hK] at ih
   clear hK h4
   simp at ih
   simp [hm] at e
   simp [jr,h3,h5,hwi,eTd,e,ih,hcx,hlm]
  ·obtain ⟨j,s2,ih⟩:=Ov A B hA hB hS cx r (i+1) (acc++[p]) (S++[.cells [.i .i64 p.1,.sl (p.2.map .s)]]) h2 (by simp;omega) (by simp;omega) (by simp;omega)
   have hw:acc++wo (p::r) B=(acc++[p])++wo r B:=by simp [wo,hm]
   rw [hw]
   refine ⟨j,s2,gI fun K hK=>?_⟩
   rw [←hK] at ih
   clear hK h4
   simp [eTd] at ih
   simp [hm] at e
   have hmx:acc.length+1≤dU:=by unfold dU;omega
   simp [jr,h3,h5,hwi,eTd,e,ih,hcx,hlm,hmx]
theorem Ut (A B:List Td) (hA:A.length≤100000) (hB:B.length≤100000) (hS:∀a∈A,SmT a) (s:St) (cx:Ctx):dX P0 (.fn (.func kL) [] []) [.sl (A.map eTd),.sl (B.map eTd)] s cx=.ret (.sl ((wo A B).map eTd)) s:=by
 refine OM (by simp) ?_
 obtain ⟨j,s2,h⟩:=Ov A B hA hB hS ⟨s.length,s.length⟩ A 0 [] s rfl (by simp) (Nat.le_refl _) (Nat.le_refl _)
 simp at h
 simp [eF,qZ,h,aah]
theorem c_split (A B:List Td) (hA:A.length≤100000) (hB:B.length≤100000) (hS:∀a∈A,SmT a) (hT:∀a∈B,SmT a) (s:St) (cx:Ctx):
  dX P0 (.fn (.func lD) [] []) [.sl (A.map eTd),.sl (B.map eTd)] s cx=.ret (.tu [.sl ((wo A B).map eTd),.sl ((wo B A).map eTd)]) s:=by
 refine RN (by simp) ?_
 simp [eF,vV,Ut A B hA hB hS,Ut B A hB hA hT]
end Go.Ai.Z
