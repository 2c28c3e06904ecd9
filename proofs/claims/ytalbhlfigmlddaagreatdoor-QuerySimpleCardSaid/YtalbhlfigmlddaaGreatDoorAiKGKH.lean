/-
 terms.Compare: the order of concepts.
-/
import Derived.Test.YtalbhlfigmlddaaGreatDoorAiK4
set_option maxRecDepth 100000
set_option linter.unusedSimpArgs false
set_option linter.unusedVariables false
set_option linter.unusedSectionVars false
namespace Go.Ai.Z
open Go.Lib (compareBytes)
mutual
def EK:C→AV
 | .mk k n l h z ps=>.ag [.i .i64 k,.s n,.i .i64 l,.i .i64 h,slf z (F6 ps),.i .i64 ((1+EU ps:Nat):Int),slf true (Je ps)]
def Je:List C→List AV
 | []=>[]
 | a::r=>EK a::Je r
end
theorem MF:∀ps:List C,Je ps=ps.map EK
 | []=>by simp [Je]
 | a::r=>by simp [Je,MF r]
theorem Py (c:C):EK c=.ag [.i .i64 c.kind,.s c.name,.i .i64 c.lo,.i .i64 c.hi,slf c.z (c.parts.map ig),.i .i64 (vG c:Int),slf true (c.parts.map EK)]:=by
 cases c;simp [EK,F5,MF,vG]
@[simp] theorem aad (c:C):(EK c).plain=EK c:=by rw [Py];simp
@[simp] theorem aay (c:C):(EK c).cells=[.i .i64 c.kind,.s c.name,.i .i64 c.lo,.i .i64 c.hi,slf c.z (c.parts.map ig),.i .i64 (vG c:Int),slf true (c.parts.map EK)]:=by rw [Py];rfl
@[simp] theorem aa7 (c:C):AV.ag [.i .i64 c.kind,.s c.name,.i .i64 c.lo,.i .i64 c.hi,slf c.z (c.parts.map ig),.i .i64 (vG c:Int),slf true (c.parts.map EK)]=EK c:=(Py c).symm
mutual
theorem Iy (n:Nat):∀c:C,(EK c).under n=true
 | .mk k nm l h z ps=>by simp [EK,vI n ps,yP n ps]
theorem yP (n:Nat):∀ps:List C,bM n (Je ps)=true
 | []=>by simp [Je]
 | a::r=>by simp [Je,Iy n a,yP n r]
end
@[simp] theorem ZH (n:Nat) (c:C):(EK c).under n=true:=Iy n c
@[simp] theorem Zg (n:Nat) (ps:List C):bM n (ps.map EK)=true:=by rw [←MF];exact yP n ps
end Go.Ai.Z
namespace Go.Ai.Z
open Go.Lib (compareBytes)
def vU (a b:Int):Int:=if a<b then -1 else if b<a then 1 else 0
@[simp] theorem V6 (a:Int) (s:St) (cx:Ctx):aj P0 (.fn (.func iR) [] []) [.i .i64 a] s cx=.ret (.b false) s:=by
 refine Ic (by simp) ?_
 simp [ah,jT]
@[simp] theorem Ur (a b:Int) (s:St) (cx:Ctx):aj P0 (.fn (.func fB) [] []) [.i .i64 a,.i .i64 b] s cx=.ret (.i .i64 (vU a b)) s:=by
 refine EF (by simp) ?_
 unfold vU
 by_cases h1:a<b
 ·simp [ah,dG,h1]
 ·by_cases h2:b<a
  ·simp [ah,dG,h1,h2]
  ·simp [ah,dG,h1,h2]
def orI:List Int→Int
 | []=>0
 | a::r=>if a=0 then orI r else a
theorem QF (l:List Int) (hl:l.length≤100000) (s:St) (cx:Ctx):∀(rest:List Int) (i:Nat),l.drop i=rest→
  ∃j:Int,dZ (ak P0.glob (aj P0) cx false l9) [3,6,7,8] [(3,.v (.i .i64 0)),(6,.v (.sl (l.map (AV.i .i64)))),(7,.v (.i .i64 l.length)),(8,.v (.i .i64 i))] s=
   if orI rest=0 then .exit 0 [(3,.v (.i .i64 0)),(6,.v (.sl (l.map (AV.i .i64)))),(7,.v (.i .i64 l.length)),(8,.v (.i .i64 j)),(9,.v (.b false))] s
   else .ret [(2,.v (.i .i64 (orI rest)))] s
 | [],i,h=>by
  have h1:¬i<l.length:=Nat.not_lt.2 (drop_nil h)
  refine ⟨i,ai fun K hK=>?_⟩
  simp [l9,h1,orI]
 | p::r,i,h=>by
  obtain ⟨h1,h2,h3,h4⟩:=drop_cons h
  have h5:=h4 h3
  have hwi:=wI (i:=i) (by omega)
  obtain ⟨j,ih⟩:=QF l hl s cx r (i+1) h2
  refine ⟨j,ai fun K hK=>?_⟩
  rw [←hK] at ih
  clear hK h4
  simp at ih
  by_cases hp:p=0
  ·simp [l9,h3,h5,hwi,ih,orI,hp]
  ·simp [l9,h3,h5,hwi,orI,hp]
theorem PL (l:List Int) (hl:l.length≤100000) (s:St) (cx:Ctx):aj P0 (.fn (.func sF) [] []) [.sl (l.map (AV.i .i64))] s cx=.ret (.i .i64 (orI l)) s:=by
 refine NT (by simp) ?_
 obtain ⟨j,h⟩:=QF l hl s ⟨s.length,s.length⟩ l 0 rfl
 simp at h
 by_cases h0:orI l=0
 ·simp [h0] at h
  simp [ah,qy,h,h0]
 ·simp [h0] at h
  simp [ah,qy,h]
mutual
def acT:C→C→Int
 | .mk k n l h z ps,d=>
  let x:=orI [vU ((1+EU ps:Nat):Int) (vG d:Int),vU k d.kind,compareBytes n d.name,vU l d.lo,vU h d.hi]
  if x=0 then Zx ps d.parts else x
def Zx:List C→List C→Int
 | [],[]=>0
 | [],_::_=>-1
 | _::_,[]=>1
 | a::r,b::q=>if acT a b=0 then Zx r q else acT a b
end
end Go.Ai.Z
