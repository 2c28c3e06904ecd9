/-
 The laws on the split of answers.
-/
import Derived.Test.YtdjjghikaijfpaaGreatDoorAiRP2
import Derived.Test.YtdjjghikaijfpaaGreatDoorAiRS
import Derived.Test.YtdjjghikaijfpaaGreatDoorAiB1
set_option maxRecDepth 100000
set_option linter.unusedSimpArgs false
set_option linter.unusedVariables false
set_option linter.unusedSectionVars false
namespace Go.Ai.Z
theorem QC:dX P0 (.fn (.func wW) [] []) [] [] ⟨0,0⟩=.ret (.b true) []:=ZO P0 300 _ _ _ _ _ aa2 (by simp)
theorem WE (A B X:List Td) (a:Td) (ha:SmT a) (hB:B.length≤100000) (n k:Int) (m:Int) (s:St) (cx:Ctx):∀(r:List Td) (i:Nat) (b:Bool),B.drop i=r→
  ∃j:Int,AZ (aC P0.glob (dX P0) cx false ig) [1,5,11,13,14,65,66,67,71,72,73] [(1,.v (.sl (B.map eTd))),(5,.v (.sl (X.map eTd))),(11,.v (.i .i64 n)),(13,.bx [.i .i64 a.1,.sl (a.2.map .s)]),(14,.v (.b b)),(65,.v (.sl (A.map eTd))),(66,.v (.i .i64 m)),(67,.v (.i .i64 k)),(71,.v (.sl (B.map eTd))),(72,.v (.i .i64 B.length)),(73,.v (.i .i64 i))] s=
   .exit 2 [(1,.v (.sl (B.map eTd))),(5,.v (.sl (X.map eTd))),(11,.v (.i .i64 n)),(13,.bx [.i .i64 a.1,.sl (a.2.map .s)]),(14,.v (.b (b || decide (a∈r)))),(65,.v (.sl (A.map eTd))),(66,.v (.i .i64 m)),(67,.v (.i .i64 k)),(71,.v (.sl (B.map eTd))),(72,.v (.i .i64 B.length)),(73,.v (.i .i64 j)),(74,.v (.b false))] s
 | [],i,b,h=>by
  have h1:¬i<B.length:=Nat.not_lt.2 (drop_nil h)
  refine ⟨i,gI fun K hK=>?_⟩
  simp [ig,h1]
 | p::r,i,b,h=>by
  obtain ⟨h1,h2,h3,h4⟩:=drop_cons h
  have h5:=h4 h3
  have hwi:=wI (i:=i) (by omega)
  have e:=Sm a p ha
  cases b with
  | true=>
   obtain ⟨j,ih⟩:=WE A B X a ha hB n k m s cx r (i+1) true h2
   refine ⟨j,gI fun K hK=>?_⟩
   rw [←hK] at ih
   clear hK h4
   simp at ih
   simp [ig,h3,h5,hwi,ih,eTd]
  | false=>
   obtain ⟨j,ih⟩:=WE A B X a ha hB n k m s cx r (i+1) (decide (a=p)) h2
   refine ⟨j,gI fun K hK=>?_⟩
   rw [←hK] at ih
   clear hK h4
   unfold eTd at e
   have hb:(decide (a=p) || decide (a∈r))=decide (a∈p::r):=by by_cases h1:a=p<;>by_cases h2:a∈r<;>simp [h1,h2]
   rw [hb] at ih
   simp only [Bool.false_or]
   generalize decide (a∈p::r)=bb at ih ⊢
   simp at ih
   simp [ig,h3,h5,hwi,e,eTd,ih]
theorem UO (A B:List Td) (hA:A.length≤100000) (hB:B.length≤100000) (hS:∀a∈A,SmT a) (s:St) (cx:Ctx):∀(r:List Td) (i n:Nat),A.drop i=r→(wo A B).drop n=wo r B→n≤(wo A B).length→
  ∃j:Int,AZ (aC P0.glob (dX P0) cx false iq) [1,5,11,65,66,67] [(1,.v (.sl (B.map eTd))),(5,.v (.sl ((wo A B).map eTd))),(11,.v (.i .i64 n)),(65,.v (.sl (A.map eTd))),(66,.v (.i .i64 A.length)),(67,.v (.i .i64 i))] s=
   .exit 0 [(1,.v (.sl (B.map eTd))),(5,.v (.sl ((wo A B).map eTd))),(11,.v (.i .i64 (wo A B).length)),(65,.v (.sl (A.map eTd))),(66,.v (.i .i64 A.length)),(67,.v (.i .i64 j)),(68,.v (.b false))] s
 | [],i,n,h,hx,hn=>by
  have h1:¬i<A.length:=Nat.not_lt.2 (drop_nil h)
  have hn2:n=(wo A B).length:=Nat.le_antisymm hn (drop_nil hx)
  subst hn2
  refine ⟨i,gI fun K hK=>?_⟩
  simp [iq,h1]
 | p::r,i,n,h,hx,hn=>by
  obtain ⟨h1,h2,h3,h4⟩:=drop_cons h
  have h5:=h4 h3
  have hwi:=wI (i:=i) (by omega)
  have hp:SmT p:=hS p (h5 ▸ List.getElem_mem h3)
  obtain ⟨j0,e⟩:=WE A B (wo A B) p hp hB n i A.length s cx B 0 false rfl
  by_cases hm:p∈B
  ·have hw:wo (p::r) B=wo r B:=by simp [wo,hm]
   rw [hw] at hx
   obtain ⟨j,ih⟩:=UO A B hA hB hS s cx r (i+1) n h2 hx hn
   refine ⟨j,gI fun K hK=>?_⟩
   rw [←hK] at ih
   clear hK h4
   simp at ih
   simp [hm] at e
   simp [iq,h3,h5,hwi,e,ih,eTd]
  ·have hw:wo (p::r) B=p::wo r B:=by simp [wo,hm]
   rw [hw] at hx
   obtain ⟨g1,g2,g3,g4⟩:=drop_cons hx
   have g5:=g4 g3
   have hwl:(wo A B).length≤A.length:=List.length_filter_le _ _
   have hwn:=wI (i:=n) (by omega)
   have e2:=Sm p p hp
   simp [eTd] at e2
   obtain ⟨j,ih⟩:=UO A B hA hB hS s cx r (i+1) (n+1) h2 g2 g3
   refine ⟨j,gI fun K hK=>?_⟩
   rw [←hK] at ih
   clear hK h4 g4
   simp at ih
   simp [hm] at e
   have g6:¬(wo A B).length≤n:=by omega
   have g7:¬((wo A B).length:Int)≤n:=by omega
   simp [iq,h3,h5,hwi,hwn,e,e2,ih,eTd,g3,g5,g6,g7]
theorem VU (A B:List Td) (hS:∀a∈A,SmT a) (hT:∀a∈B,SmT a) (cx:Ctx):dX P0 (.fn (.func oh) [] []) [.sl (A.map eTd),.sl (B.map eTd)] [] cx=.ret (.b true) []:=by
 refine JW (by simp) ?_
 by_cases hA:A.length≤40
 ·have hA':¬(40:Int)<A.length:=by omega
  have hA2:¬40<A.length:=by omega
  by_cases hB:B.length≤40
  ·have hB':¬(40:Int)<B.length:=by omega
   have hB2:¬40<B.length:=by omega
   have e1:=c_split A B (by omega) (by omega) hS hT
   have e2:=c_split B A (by omega) (by omega) hT hS
   have e5:=c_split A A (by omega) (by omega) hS hS
   have haa:wo A A=[]:=by simp [wo]
   rw [haa] at e5
   have w1:∀L M:List Td,(wo L M).length≤L.length:=fun L M=>List.length_filter_le _ _
   have e3:=Sl (wo A B) (wo A B) (by have:=w1 A B;omega) (fun a ha=>hS a ((List.mem_filter.1 ha).1))
   have e4:=Sl (wo B A) (wo B A) (by have:=w1 B A;omega) (fun a ha=>hT a ((List.mem_filter.1 ha).1))
   simp at e3 e4 e5
   obtain ⟨j,h⟩:=UO A B (by omega) (by omega) hS [] ⟨0,0⟩ A 0 0 rfl rfl (Nat.zero_le _)
   simp at h
   simp [eF,iG,QC,hA',hB',hA2,hB2,e1,e2,e3,e4,e5,h]
  ·have hB':(40:Int)<B.length:=by omega
   have hB2:40<B.length:=by omega
   simp [eF,iG,QC,hA',hB',hA2,hB2]
 ·have hA':(40:Int)<A.length:=by omega
  have hA2:40<A.length:=by omega
  simp [eF,iG,QC,hA',hA2]
end Go.Ai.Z
