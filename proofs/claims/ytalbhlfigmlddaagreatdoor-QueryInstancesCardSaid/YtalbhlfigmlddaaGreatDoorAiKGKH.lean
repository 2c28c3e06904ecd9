/-
 terms.Compare: the order of concepts.
-/
import Derived.Test.YtalbhlfigmlddaaGreatDoorAiK4
set_option maxRecDepth 100000
set_option linter.unusedSimpArgs false
set_option linter.unusedVariables false
set_option linter.unusedSectionVars false
namespace Go.Ai.Z
open Go.Lib (compareBytes)
mutual
def FB:C→AV
 | .mk k n l h z ps=>.ag [.i .i64 k,.s n,.i .i64 l,.i .i64 h,slf z (G6 ps),.i .i64 ((1+FT ps:Nat):Int),slf true (JZ ps)]
def JZ:List C→List AV
 | []=>[]
 | a::r=>FB a::JZ r
end
theorem NZ:∀ps:List C,JZ ps=ps.map FB
 | []=>by simp [JZ]
 | a::r=>by simp [JZ,NZ r]
theorem QX (c:C):FB c=.ag [.i .i64 c.kind,.s c.name,.i .i64 c.lo,.i .i64 c.hi,slf c.z (c.parts.map iM),.i .i64 (wH c:Int),slf true (c.parts.map FB)]:=by
 cases c;simp [FB,G5,NZ,wH]
@[simp] theorem abY (c:C):(FB c).plain=FB c:=by rw [QX];simp
@[simp] theorem aco (c:C):(FB c).cells=[.i .i64 c.kind,.s c.name,.i .i64 c.lo,.i .i64 c.hi,slf c.z (c.parts.map iM),.i .i64 (wH c:Int),slf true (c.parts.map FB)]:=by rw [QX];rfl
@[simp] theorem ac1 (c:C):AV.ag [.i .i64 c.kind,.s c.name,.i .i64 c.lo,.i .i64 c.hi,slf c.z (c.parts.map iM),.i .i64 (wH c:Int),slf true (c.parts.map FB)]=FB c:=(QX c).symm
mutual
theorem Jv (n:Nat):∀c:C,(FB c).under n=true
 | .mk k nm l h z ps=>by simp [FB,wO n ps,zG n ps]
theorem zG (n:Nat):∀ps:List C,bP n (JZ ps)=true
 | []=>by simp [JZ]
 | a::r=>by simp [JZ,Jv n a,zG n r]
end
@[simp] theorem abz (n:Nat) (c:C):(FB c).under n=true:=Jv n c
@[simp] theorem aa9 (n:Nat) (ps:List C):bP n (ps.map FB)=true:=by rw [←NZ];exact zG n ps
end Go.Ai.Z
namespace Go.Ai.Z
open Go.Lib (compareBytes)
def tJ (a b:Int):Int:=if a<b then -1 else if b<a then 1 else 0
theorem XH {a b:Int}:tJ a b=0 ↔ a=b:=by unfold tJ;(repeat' split)<;>simp<;>omega
@[simp] theorem X4 (a:Int) (s:St) (cx:Ctx):aj P0 (.fn (.func je) [] []) [.i .i64 a] s cx=.ret (.b false) s:=by
 refine Jd (by simp) ?_
 simp [ah,kL]
@[simp] theorem VP (a b:Int) (s:St) (cx:Ctx):aj P0 (.fn (.func fO) [] []) [.i .i64 a,.i .i64 b] s cx=.ret (.i .i64 (tJ a b)) s:=by
 refine Fj (by simp) ?_
 unfold tJ
 by_cases h1:a<b
 ·simp [ah,dR,h1]
 ·by_cases h2:b<a
  ·simp [ah,dR,h1,h2]
  ·simp [ah,dR,h1,h2]
def orI:List Int→Int
 | []=>0
 | a::r=>if a=0 then orI r else a
theorem SI (l:List Int) (hl:l.length≤100000) (s:St) (cx:Ctx):∀(rest:List Int) (i:Nat),l.drop i=rest→
  ∃j:Int,dZ (ak P0.glob (aj P0) cx false gI) [3,6,7,8] [(3,.v (.i .i64 0)),(6,.v (.sl (l.map (AV.i .i64)))),(7,.v (.i .i64 l.length)),(8,.v (.i .i64 i))] s=
   if orI rest=0 then .exit 0 [(3,.v (.i .i64 0)),(6,.v (.sl (l.map (AV.i .i64)))),(7,.v (.i .i64 l.length)),(8,.v (.i .i64 j)),(9,.v (.b false))] s
   else .ret [(2,.v (.i .i64 (orI rest)))] s
 | [],i,h=>by
  have h1:¬i<l.length:=Nat.not_lt.2 (drop_nil h)
  refine ⟨i,ai fun K hK=>?_⟩
  simp [gI,h1,orI]
 | p::r,i,h=>by
  obtain ⟨h1,h2,h3,h4⟩:=drop_cons h
  have h5:=h4 h3
  have hwi:=wI (i:=i) (by omega)
  obtain ⟨j,ih⟩:=SI l hl s cx r (i+1) h2
  refine ⟨j,ai fun K hK=>?_⟩
  rw [←hK] at ih
  clear hK h4
  simp at ih
  by_cases hp:p=0
  ·simp [gI,h3,h5,hwi,ih,orI,hp]
  ·simp [gI,h3,h5,hwi,orI,hp]
theorem Q8 (l:List Int) (hl:l.length≤100000) (s:St) (cx:Ctx):aj P0 (.fn (.func oM) [] []) [.sl (l.map (AV.i .i64))] s cx=.ret (.i .i64 (orI l)) s:=by
 refine O7 (by simp) ?_
 obtain ⟨j,h⟩:=SI l hl s ⟨s.length,s.length⟩ l 0 rfl
 simp at h
 by_cases h0:orI l=0
 ·simp [h0] at h
  simp [ah,kG,h,h0]
 ·simp [h0] at h
  simp [ah,kG,h]
mutual
def aeE:C→C→Int
 | .mk k n l h z ps,d=>
  let x:=orI [tJ ((1+FT ps:Nat):Int) (wH d:Int),tJ k d.kind,compareBytes n d.name,tJ l d.lo,tJ h d.hi]
  if x=0 then abq ps d.parts else x
def abq:List C→List C→Int
 | [],[]=>0
 | [],_::_=>-1
 | _::_,[]=>1
 | a::r,b::q=>if aeE a b=0 then abq r q else aeE a b
end
end Go.Ai.Z
