/-
 What one list of answers has and another lacks.
-/
import Derived.Test.YtdjjghikaijfpaaGreatDoorAiRP1
set_option maxRecDepth 100000
set_option linter.unusedSimpArgs false
set_option linter.unusedVariables false
set_option linter.unusedSectionVars false
namespace Go.Ai.Z
def wo (A B:List Td):List Td:=A.filter fun a=>decide (a ∉ B)
theorem Ub (n:Nat):∀L:List Td,dD n (L.map eTd)=true
 | []=>rfl
 | a::r=>by
  have h:dD n (a.2.map AV.s)=true:=by
   induction a.2 with
   | nil=>rfl
   | cons x l ih=>simp [ih]
  simp [eTd,Ub n r,h]
theorem Xz (S:St) (n:Nat) (L:List Td):frz S n (.sl (L.map eTd))=some (.sl (L.map eTd)):=by
 unfold frz
 rw [if_pos (by simp [Ub])]
theorem OB (A B:List Td) (hA:A.length≤100000) (hB:B.length≤100000) (hS:∀a∈A,SmT a) (cx:Ctx):∀(r:List Td) (i:Nat) (acc:List Td) (S:St),A.drop i=r→acc.length≤i→cx.base≤S.length→cx.lim≤S.length→
  ∃(j:Int) (s2:St),Bc (aC P0.glob (dN P0) cx false jq) [1,4,8,9,10] [(1,.v (.sl (B.map eTd))),(4,.own false dO 2 (acc.map eTd)),(8,.v (.sl (A.map eTd))),(9,.v (.i .i64 A.length)),(10,.v (.i .i64 i))] S=
    .exit 0 [(1,.v (.sl (B.map eTd))),(4,.own false dO 2 ((acc++wo r B).map eTd)),(8,.v (.sl (A.map eTd))),(9,.v (.i .i64 A.length)),(10,.v (.i .i64 j)),(11,.v (.b false))] s2
 | [],i,acc,S,h,hacc,hcx,hlm=>by
  have h1:¬i<A.length:=Nat.not_lt.2 (drop_nil h)
  refine ⟨i,S,gK fun K hK=>?_⟩
  simp [jq,h1,wo]
 | p::r,i,acc,S,h,hacc,hcx,hlm=>by
  obtain ⟨h1,h2,h3,h4⟩:=drop_cons h
  have h5:=h4 h3
  have hwi:=wI (i:=i) (by omega)
  have hp:SmT p:=hS p (h5 ▸ List.getElem_mem h3)
  have e:=Xj p hp B (by omega) S.length (S++[.cells [.i .i64 p.1,.sl (p.2.map .s)]]) (by simp)
  by_cases hm:p∈B
  ·obtain ⟨j,s2,ih⟩:=OB A B hA hB hS cx r (i+1) acc (S++[.cells [.i .i64 p.1,.sl (p.2.map .s)]]) h2 (by omega) (by simp;omega) (by simp;omega)
   have hw:wo (p::r) B=wo r B:=by simp [wo,hm]
   rw [hw]
   refine ⟨j,s2,gK fun K hK=>?_⟩
   rw [←hK] at ih
   clear hK h4
   simp at ih
   simp [hm] at e
   simp [jq,h3,h5,hwi,eTd,e,ih,hcx,hlm]
  ·obtain ⟨j,s2,ih⟩:=OB A B hA hB hS cx r (i+1) (acc++[p]) (S++[.cells [.i .i64 p.1,.sl (p.2.map .s)]]) h2 (by simp;omega) (by simp;omega) (by simp;omega)
   have hw:acc++wo (p::r) B=(acc++[p])++wo r B:=by simp [wo,hm]
   rw [hw]
   refine ⟨j,s2,gK fun K hK=>?_⟩
   rw [←hK] at ih
   clear hK h4
   simp [eTd] at ih
   simp [hm] at e
   have hmx:acc.length+1≤dS:=by unfold dS;omega
   simp [jq,h3,h5,hwi,eTd,e,ih,hcx,hlm,hmx]
theorem UC (A B:List Td) (hA:A.length≤100000) (hB:B.length≤100000) (hS:∀a∈A,SmT a) (s:St) (cx:Ctx):dN P0 (.fn (.func kN) [] []) [.sl (A.map eTd),.sl (B.map eTd)] s cx=.ret (.sl ((wo A B).map eTd)) s:=by
 refine OV (by simp) ?_
 obtain ⟨j,s2,h⟩:=OB A B hA hB hS ⟨s.length,s.length⟩ A 0 [] s rfl (by simp) (Nat.le_refl _) (Nat.le_refl _)
 simp at h
 simp [dM,qZ,h,Xz]
theorem c_split (A B:List Td) (hA:A.length≤100000) (hB:B.length≤100000) (hS:∀a∈A,SmT a) (hT:∀a∈B,SmT a) (s:St) (cx:Ctx):
  dN P0 (.fn (.func sS) [] []) [.sl (A.map eTd),.sl (B.map eTd)] s cx=.ret (.tu [.sl ((wo A B).map eTd),.sl ((wo B A).map eTd)]) s:=by
 refine RZ (by simp) ?_
 simp [dM,vY,UC A B hA hB hS,UC B A hB hA hT]
theorem Zh (A B:List Td) (a:Td) (ha:SmT a) (hB:B.length≤100000) (k:Nat) (hk:k<A.length) (hka:A[k]=a) (acc:List Td) (s:St) (cx:Ctx):∀(r:List Td) (i:Nat) (b:Bool),B.drop i=r→
  ∃j:Int,Bc (aC P0.glob (dN P0) cx false jr) [0,1,5,6,7,8] [(0,.v (.sl (A.map eTd))),(1,.v (.sl (B.map eTd))),(5,.own false dO 2 (acc.map eTd)),(6,.v (.i .i64 k)),(7,.v (.b b)),(8,.v (.i .i64 i))] s=
   .exit 2 [(0,.v (.sl (A.map eTd))),(1,.v (.sl (B.map eTd))),(5,.own false dO 2 (acc.map eTd)),(6,.v (.i .i64 k)),(7,.v (.b (b || decide (a∈r)))),(8,.v (.i .i64 j)),(19,.v (.b false))] s
 | [],i,b,h=>by
  have h1:¬i<B.length:=Nat.not_lt.2 (drop_nil h)
  refine ⟨i,gK fun K hK=>?_⟩
  simp [jr,h1]
 | p::r,i,b,h=>by
  obtain ⟨h1,h2,h3,h4⟩:=drop_cons h
  have h5:=h4 h3
  have hwi:=wI (i:=i) (by omega)
  have e:=V5 a p ha
  cases b with
  | true=>
   obtain ⟨j,ih⟩:=Zh A B a ha hB k hk hka acc s cx r (i+1) true h2
   refine ⟨j,gK fun K hK=>?_⟩
   rw [←hK] at ih
   clear hK h4
   simp at ih
   simp [jr,h3,h5,hk,hka,hwi,ih]
  | false=>
   obtain ⟨j,ih⟩:=Zh A B a ha hB k hk hka acc s cx r (i+1) (decide (a=p)) h2
   refine ⟨j,gK fun K hK=>?_⟩
   rw [←hK] at ih
   clear hK h4
   unfold eTd at e
   have hb:(decide (a=p) || decide (a∈r))=decide (a∈p::r):=by by_cases h1:a=p<;>by_cases h2:a∈r<;>simp [h1,h2]
   rw [hb] at ih
   simp only [Bool.false_or]
   generalize decide (a∈p::r)=bb at ih ⊢
   simp at ih
   simp [jr,h3,h5,hk,hka,hwi,e,eTd,ih]
theorem Zg (A B:List Td) (hA:A.length≤100000) (hB:B.length≤100000) (hS:∀a∈A,SmT a) (s:St) (cx:Ctx):∀(r:List Td) (i:Nat) (acc:List Td),A.drop i=r→acc.length≤i→
  ∃j:Int,Bc (aC P0.glob (dN P0) cx false jv) [0,1,5,6] [(0,.v (.sl (A.map eTd))),(1,.v (.sl (B.map eTd))),(5,.own false dO 2 (acc.map eTd)),(6,.v (.i .i64 i))] s=
   .exit 0 [(0,.v (.sl (A.map eTd))),(1,.v (.sl (B.map eTd))),(5,.own false dO 2 ((acc++wo r B).map eTd)),(6,.v (.i .i64 j)),(13,.v (.b false))] s
 | [],i,acc,h,hacc=>by
  have h1:¬i<A.length:=Nat.not_lt.2 (drop_nil h)
  refine ⟨i,gK fun K hK=>?_⟩
  simp [jv,h1,wo]
 | p::r,i,acc,h,hacc=>by
  obtain ⟨h1,h2,h3,h4⟩:=drop_cons h
  have h5:=h4 h3
  have hwi:=wI (i:=i) (by omega)
  have hp:SmT p:=hS p (h5 ▸ List.getElem_mem h3)
  obtain ⟨j0,e⟩:=Zh A B p hp hB i h3 h5 acc s cx B 0 false rfl
  by_cases hm:p∈B
  ·obtain ⟨j,ih⟩:=Zg A B hA hB hS s cx r (i+1) acc h2 (by omega)
   have hw:wo (p::r) B=wo r B:=by simp [wo,hm]
   rw [hw]
   refine ⟨j,gK fun K hK=>?_⟩
   rw [←hK] at ih
   clear hK h4
   simp at ih
   simp [hm] at e
   simp [jv,h3,h5,hwi,e,ih]
  ·obtain ⟨j,ih⟩:=Zg A B hA hB hS s cx r (i+1) (acc++[p]) h2 (by simp;omega)
   have hw:acc++wo (p::r) B=(acc++[p])++wo r B:=by simp [wo,hm]
   rw [hw]
   have hmx:acc.length+1≤dS:=by unfold dS;omega
   refine ⟨j,gK fun K hK=>?_⟩
   rw [←hK] at ih
   clear hK h4
   simp [eTd] at ih
   simp [hm] at e
   simp [jv,h3,h5,hwi,e,ih,hmx,eTd]
theorem SG (A B:List Td) (hA:A.length≤100000) (hB:B.length≤100000) (hS:∀a∈A,SmT a) (s:St) (cx:Ctx):dN P0 (.fn (.func kP) [] []) [.sl (A.map eTd),.sl (B.map eTd)] s cx=.ret (.sl ((wo A B).map eTd)) s:=by
 refine OW (by simp) ?_
 obtain ⟨j,h⟩:=Zg A B hA hB hS s ⟨s.length,s.length⟩ A 0 [] rfl (by simp)
 simp at h
 simp [dM,rq,h,Xz]
theorem ZU (A B:List Td) (hA:A.length≤100000) (hB:B.length≤100000) (hS:∀a∈A,SmT a) (hT:∀a∈B,SmT a) (s:St) (cx:Ctx):
  dN P0 (.fn (.func sU) [] []) [.sl (A.map eTd),.sl (B.map eTd)] s cx=.ret (.tu [.sl ((wo A B).map eTd),.sl ((wo B A).map eTd)]) s:=by
 refine Si (by simp) ?_
 simp [dM,vZ,SG A B hA hB hS,SG B A hB hA hT]
end Go.Ai.Z
