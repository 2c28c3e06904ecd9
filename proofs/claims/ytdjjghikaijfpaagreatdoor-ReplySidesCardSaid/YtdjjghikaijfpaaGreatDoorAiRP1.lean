/-
 Answers (a part's number and a tuple): when two are equal, which a list lacks.
-/
import Derived.Test.YtdjjghikaijfpaaGreatDoorAiC2
import Derived.Test.YtdjjghikaijfpaaGreatDoorAiSxD
set_option maxRecDepth 100000
set_option linter.unusedSimpArgs false
set_option linter.unusedVariables false
set_option linter.unusedSectionVars false
namespace Go.Ai.Z
abbrev Td:=Int×List (List UInt8)
def eTd (a:Td):AV:=.ag [.i .i64 a.1,.sl (a.2.map .s)]
@[simp] theorem ab6 (a:Td):(eTd a).cells=[.i .i64 a.1,.sl (a.2.map .s)]:=rfl
@[simp] theorem abR (a:Td):(eTd a).plain=eTd a:=rfl
def SmT (a:Td):Prop:=a.2.length≤1125899906842624
theorem RY {α:Type} {U V:List α} (hl:U.length=V.length) {i:Nat} {u:α} {r:List α} (h:U.drop i=u::r):∃v r',V.drop i=v::r'∧r'.length=r.length:=by
 have h1:=congrArg List.length h
 simp at h1
 cases hv:V.drop i with
 | nil=>have h2:=congrArg List.length hv;simp at h2;omega
 | cons v r'=>exact ⟨v,r',rfl,by have h2:=congrArg List.length hv;simp at h2;omega⟩
theorem adk (U V:List (List UInt8)) (hl:U.length=V.length) (hU:U.length≤1125899906842624) (s:St) (cx:Ctx):∀(r r':List (List UInt8)) (i:Nat),U.drop i=r→V.drop i=r'→
  ∃j:Int,AZ (aC P0.glob (dX P0) cx false iQ) [0,1,5] [(0,.v (.sl (U.map .s))),(1,.v (.sl (V.map .s))),(5,.v (.i .i64 i))] s=
   if r=r' then .exit 0 [(0,.v (.sl (U.map .s))),(1,.v (.sl (V.map .s))),(5,.v (.i .i64 j)),(14,.v (.b false))] s else .ret [(4,.v (.b false))] s
 | [],r',i,h,h'=>by
  have h1:¬i<U.length:=Nat.not_lt.2 (drop_nil h)
  obtain rfl:r'=[]:=by rw [←h'];exact List.drop_eq_nil_of_le (by omega)
  refine ⟨i,gI fun K hK=>?_⟩
  simp [iQ,h1]
 | p::r,r',i,h,h'=>by
  obtain ⟨q,r2,e,_⟩:=RY hl h
  rw [h'] at e;subst e
  obtain ⟨h1,h2,h3,h4⟩:=drop_cons h
  have h5:=h4 h3
  obtain ⟨g1,g2,g3,g4⟩:=drop_cons h'
  have g5:=g4 g3
  have hwi:=wI (i:=i) (by omega)
  obtain ⟨j,ih⟩:=adk U V hl hU s cx r r2 (i+1) h2 g2
  refine ⟨j,gI fun K hK=>?_⟩
  rw [←hK] at ih
  clear hK h4 g4
  simp at ih
  by_cases hpq:p=q
  ·subst hpq
   simp [iQ,h3,g3,h5,g5,hwi,ih]
  ·simp [iQ,h3,g3,h5,g5,hwi,hpq]
theorem VT (U V:List (List UInt8)) (hU:U.length≤1125899906842624) (s:St) (cx:Ctx):dX P0 (.fn (.func kW) [] []) [.sl (U.map .s),.sl (V.map .s)] s cx=.ret (.b (decide (U=V))) s:=by
 refine LU (by simp) ?_
 by_cases hl:U.length=V.length
 ·obtain ⟨j,h⟩:=adk U V hl hU s ⟨s.length,s.length⟩ U V 0 rfl rfl
  simp at h
  by_cases he:U=V
  ·subst he;simp at h;simp [eF,iT,h]
  ·rw [if_neg he] at h;simp [eF,iT,h,hl,he]
 ·have he:¬U=V:=fun h=>hl (congrArg List.length h)
  have hl':¬(U.length:Int)=(V.length:Int):=by omega
  simp [eF,iT,hl,hl',he]
theorem adl (U V:List (List UInt8)) (hl:U.length=V.length) (hU:U.length≤1125899906842624) (s:St) (cx:Ctx):∀(r r':List (List UInt8)) (i:Nat),U.drop i=r→V.drop i=r'→
  ∃j:Int,AZ (aC P0.glob (dX P0) cx false bY) [0,1,12,13] [(0,.v (.sl (U.map .s))),(1,.v (.sl (V.map .s))),(12,.v (.i .i64 U.length)),(13,.v (.i .i64 i))] s=
   if r=r' then .exit 0 [(0,.v (.sl (U.map .s))),(1,.v (.sl (V.map .s))),(12,.v (.i .i64 U.length)),(13,.v (.i .i64 j)),(14,.v (.b false))] s else .ret [(4,.v (.b false))] s
 | [],r',i,h,h'=>by
  have h1:¬i<U.length:=Nat.not_lt.2 (drop_nil h)
  obtain rfl:r'=[]:=by rw [←h'];exact List.drop_eq_nil_of_le (by omega)
  refine ⟨i,gI fun K hK=>?_⟩
  simp [bY,h1]
 | p::r,r',i,h,h'=>by
  obtain ⟨q,r2,e,_⟩:=RY hl h
  rw [h'] at e;subst e
  obtain ⟨h1,h2,h3,h4⟩:=drop_cons h
  have h5:=h4 h3
  obtain ⟨g1,g2,g3,g4⟩:=drop_cons h'
  have g5:=g4 g3
  have hwi:=wI (i:=i) (by omega)
  obtain ⟨j,ih⟩:=adl U V hl hU s cx r r2 (i+1) h2 g2
  refine ⟨j,gI fun K hK=>?_⟩
  rw [←hK] at ih
  clear hK h4 g4
  simp at ih
  by_cases hpq:p=q
  ·subst hpq
   simp [bY,h3,g3,h5,g5,hwi,ih]
  ·simp [bY,h3,g3,h5,g5,hwi,hpq]
theorem YF (U V:List (List UInt8)) (hU:U.length≤1125899906842624) (s:St) (cx:Ctx):dX P0 (.fn (.func dQ) [] []) [.sl (U.map .s),.sl (V.map .s)] s cx=.ret (.b (decide (U=V))) s:=by
 refine zi (by simp) ?_
 by_cases hl:U.length=V.length
 ·obtain ⟨j,h⟩:=adl U V hl hU s ⟨s.length,s.length⟩ U V 0 rfl rfl
  simp at h
  by_cases he:U=V
  ·subst he;simp at h;simp [eF,bP,h]
  ·rw [if_neg he,hl] at h;simp [eF,bP,h,hl,he]
 ·have he:¬U=V:=fun h=>hl (congrArg List.length h)
  have hl':¬(U.length:Int)=(V.length:Int):=by omega
  simp [eF,bP,hl,hl',he]
theorem Sm (a b:Td) (ha:SmT a) (s:St) (cx:Ctx):dX P0 (.fn (.func lF) [] []) [eTd a,eTd b] s cx=.ret (.b (decide (a=b))) s:=by
 refine RP (by simp) ?_
 obtain ⟨k,U⟩:=a
 obtain ⟨k',V⟩:=b
 have e:=VT U V ha
 by_cases h1:k=k'
 ·subst h1;simp [eF,qB,eTd,e]
 ·simp [eF,qB,eTd,h1]
theorem ZJ (a b:Td) (ha:SmT a) (l:Nat) (s:St) (hs:s[l]?=some (.cells [.i .i64 a.1,.sl (a.2.map .s)])) (cx:Ctx):dX P0 (.fn (.func eH) [] [.pt l 0]) [eTd b] s cx=.ret (.b (decide (a=b))) s:=by
 refine LQ (by simp) ?_
 obtain ⟨k,U⟩:=a
 obtain ⟨k',V⟩:=b
 have e:=YF U V ha
 by_cases h1:k=k'
 ·subst h1;simp [eF,jS,eTd,hs,e]
 ·simp [eF,jS,eTd,hs,h1]
theorem RF (A B:List Td) (hl:A.length=B.length) (hA:A.length≤1125899906842624) (hS:∀a∈A,SmT a) (s:St) (cx:Ctx):∀(r r':List Td) (i:Nat),A.drop i=r→B.drop i=r'→
  ∃j:Int,AZ (aC P0.glob (dX P0) cx false ja) [0,1,5] [(0,.v (.sl (A.map eTd))),(1,.v (.sl (B.map eTd))),(5,.v (.i .i64 i))] s=
   if r=r' then .exit 0 [(0,.v (.sl (A.map eTd))),(1,.v (.sl (B.map eTd))),(5,.v (.i .i64 j)),(14,.v (.b false))] s else .ret [(4,.v (.b false))] s
 | [],r',i,h,h'=>by
  have h1:¬i<A.length:=Nat.not_lt.2 (drop_nil h)
  obtain rfl:r'=[]:=by rw [←h'];exact List.drop_eq_nil_of_le (by omega)
  refine ⟨i,gI fun K hK=>?_⟩
  simp [ja,h1]
 | p::r,r',i,h,h'=>by
  obtain ⟨q,r2,e,_⟩:=RY hl h
  rw [h'] at e;subst e
  obtain ⟨h1,h2,h3,h4⟩:=drop_cons h
  have h5:=h4 h3
  obtain ⟨g1,g2,g3,g4⟩:=drop_cons h'
  have g5:=g4 g3
  have hwi:=wI (i:=i) (by omega)
  obtain ⟨j,ih⟩:=RF A B hl hA hS s cx r r2 (i+1) h2 g2
  have hp:SmT p:=hS p (h5 ▸ List.getElem_mem h3)
  have e:=Sm p q hp
  refine ⟨j,gI fun K hK=>?_⟩
  rw [←hK] at ih
  clear hK h4 g4
  simp at ih
  unfold eTd at e
  by_cases hpq:p=q
  ·subst hpq
   simp at e
   simp [ja,h3,g3,h5,g5,hwi,ih,e,eTd]
  ·simp [ja,h3,g3,h5,g5,hwi,hpq,e,eTd]
theorem Sl (A B:List Td) (hA:A.length≤1125899906842624) (hS:∀a∈A,SmT a) (s:St) (cx:Ctx):dX P0 (.fn (.func jL) [] []) [.sl (A.map eTd),.sl (B.map eTd)] s cx=.ret (.b (decide (A=B))) s:=by
 refine Ns (by simp) ?_
 by_cases hl:A.length=B.length
 ·obtain ⟨j,h⟩:=RF A B hl hA hS s ⟨s.length,s.length⟩ A B 0 rfl rfl
  simp at h
  by_cases he:A=B
  ·subst he;simp at h;simp [eF,je,h]
  ·rw [if_neg he] at h;simp [eF,je,h,hl,he]
 ·have he:¬A=B:=fun h=>hl (congrArg List.length h)
  have hl':¬(A.length:Int)=(B.length:Int):=by omega
  simp [eF,je,hl,hl',he]
def OI (a:Td):List Td→Nat→Int
 | [],_=>-1
 | b::r,i=>if a=b then i else OI a r (i+1)
theorem Ug (a:Td):∀(l:List Td) (i:Nat),(0≤OI a l i)=(a∈l)
 | [],i=>by simp [OI]
 | b::r,i=>by
  unfold OI
  by_cases h:a=b
  ·subst h;simp
  ·rw [if_neg h,Ug a r (i+1)];simp [h]
theorem Xo (a:Td) (ha:SmT a) (B:List Td) (hB:B.length≤1125899906842624) (l:Nat) (s:St) (hs:s[l]?=some (.cells [.i .i64 a.1,.sl (a.2.map .s)])) (cx:Ctx):∀(r:List Td) (i:Nat),B.drop i=r→
  ∃j:Int,AZ (aC P0.glob (dX P0) cx false aY) [0,1,7,8] [(0,.v (.sl (B.map eTd))),(1,.v (.fn (.func eH) [] [.pt l 0])),(7,.v (.i .i64 B.length)),(8,.v (.i .i64 i))] s=
   if a∈r then .ret [(4,.v (.i .i64 (OI a r i)))] s else .exit 0 [(0,.v (.sl (B.map eTd))),(1,.v (.fn (.func eH) [] [.pt l 0])),(7,.v (.i .i64 B.length)),(8,.v (.i .i64 j)),(9,.v (.b false))] s
 | [],i,h=>by
  have h1:¬i<B.length:=Nat.not_lt.2 (drop_nil h)
  refine ⟨i,gI fun K hK=>?_⟩
  simp [aY,h1]
 | p::r,i,h=>by
  obtain ⟨h1,h2,h3,h4⟩:=drop_cons h
  have h5:=h4 h3
  have hwi:=wI (i:=i) (by omega)
  obtain ⟨j,ih⟩:=Xo a ha B hB l s hs cx r (i+1) h2
  have e:=ZJ a p ha l s hs
  refine ⟨j,gI fun K hK=>?_⟩
  rw [←hK] at ih
  clear hK h4
  simp at ih
  unfold eTd at e
  by_cases hpq:a=p
  ·subst hpq
   simp at e
   simp [aY,h3,h5,hwi,e,eTd,OI]
  ·simp [aY,h3,h5,hwi,hpq,e,eTd,ih,OI]
theorem Xc (a:Td) (ha:SmT a) (B:List Td) (hB:B.length≤1125899906842624) (l:Nat) (s:St) (hs:s[l]?=some (.cells [.i .i64 a.1,.sl (a.2.map .s)])) (cx:Ctx):
  dX P0 (.fn (.func bf) [] []) [.sl (B.map eTd),.fn (.func eH) [] [.pt l 0]] s cx=.ret (.b (decide (a∈B))) s:=by
 have e:∀cx,dX P0 (.fn (.func bI) [] []) [.sl (B.map eTd),.fn (.func eH) [] [.pt l 0]] s cx=.ret (.i .i64 (OI a B 0)) s:=by
  intro cx
  refine rq (by simp) ?_
  obtain ⟨j,h⟩:=Xo a ha B hB l s hs ⟨cx.lim,s.length⟩ B 0 rfl
  simp at h
  by_cases hm:a∈B
  ·rw [if_pos hm] at h;simp [eF,bG,h]
  ·rw [if_neg hm] at h
   have hi:OI a B 0=-1:=by
    have:∀(l:List Td) (i:Nat),a ∉ l→OI a l i=-1:=by
     intro l
     induction l with
     | nil=>intro i _;rfl
     | cons b r ih=>intro i h;simp only [List.mem_cons,not_or] at h;unfold OI;rw [if_neg h.1];exact ih _ h.2
    exact this B 0 hm
   simp [eF,bG,h,hi]
 refine o8 (by simp) ?_
 have hsp:=Ug a B 0
 by_cases hm:a∈B
 ·have:0≤OI a B 0:=by rw [hsp];exact hm
  simp [eF,aZ,e,hm,this]
 ·have:¬0≤OI a B 0:=by rw [hsp];exact hm
  simp [eF,aZ,e,hm,this]
end Go.Ai.Z
