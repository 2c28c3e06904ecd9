/-
 terms.Compare: the order of concepts.
-/
import Derived.Test.YtalbhlfigmlddaaGreatDoorAiK4
set_option maxRecDepth 100000
set_option linter.unusedSimpArgs false
set_option linter.unusedVariables false
set_option linter.unusedSectionVars false
namespace Go.Ai.Z
open Go.Lib (compareBytes)
mutual
def BH:C→AV
 | .mk k n l h z ps=>.ag [.i .i64 k,.s n,.i .i64 l,.i .i64 h,slf z (Dy ps),.i .i64 ((1+OW ps:Nat):Int),slf true (Fz ps)]
def Fz:List C→List AV
 | []=>[]
 | a::r=>BH a::Fz r
end
theorem IG:∀ps:List C,Fz ps=ps.map BH
 | []=>by simp [Fz]
 | a::r=>by simp [Fz,IG r]
theorem Lc (c:C):BH c=.ag [.i .i64 c.kind,.s c.name,.i .i64 c.lo,.i .i64 c.hi,slf c.z (c.parts.map vC),.i .i64 (JR c:Int),slf true (c.parts.map BH)]:=by
 cases c;simp [BH,Dx,IG,JR]
@[simp] theorem VJ (c:C):(BH c).plain=BH c:=by rw [Lc];simp
@[simp] theorem V3 (c:C):(BH c).cells=[.i .i64 c.kind,.s c.name,.i .i64 c.lo,.i .i64 c.hi,slf c.z (c.parts.map vC),.i .i64 (JR c:Int),slf true (c.parts.map BH)]:=by rw [Lc];rfl
@[simp] theorem WO (c:C):AV.ag [.i .i64 c.kind,.s c.name,.i .i64 c.lo,.i .i64 c.hi,slf c.z (c.parts.map vC),.i .i64 (JR c:Int),slf true (c.parts.map BH)]=BH c:=(Lc c).symm
mutual
theorem EP (n:Nat):∀c:C,(BH c).under n=true
 | .mk k nm l h z ps=>by simp [BH,qJ n ps,vM n ps]
theorem vM (n:Nat):∀ps:List C,bH n (Fz ps)=true
 | []=>by simp [Fz]
 | a::r=>by simp [Fz,EP n a,vM n r]
end
@[simp] theorem Vk (n:Nat) (c:C):(BH c).under n=true:=EP n c
@[simp] theorem U5 (n:Nat) (ps:List C):bH n (ps.map BH)=true:=by rw [←IG];exact vM n ps
end Go.Ai.Z
namespace Go.Ai.Z
open Go.Lib (compareBytes)
def lQ (a b:Int):Int:=if a<b then -1 else if b<a then 1 else 0
theorem Kv {a b:Int}:lQ a b=0 ↔ a=b:=by unfold lQ;(repeat' split)<;>simp<;>omega
@[simp] theorem Rf (a:Int) (s:St) (cx:Ctx):aH P0 (.fn (.func fM) [] []) [.i .i64 a] s cx=.ret (.b false) s:=by
 refine ED (by simp) ?_
 simp [au,iE]
@[simp] theorem Ph (a b:Int) (s:St) (cx:Ctx):aH P0 (.fn (.func dO) [] []) [.i .i64 a,.i .i64 b] s cx=.ret (.i .i64 (lQ a b)) s:=by
 refine BA (by simp) ?_
 unfold lQ
 by_cases h1:a<b
 ·simp [au,bQ,h1]
 ·by_cases h2:b<a
  ·simp [au,bQ,h1,h2]
  ·simp [au,bQ,h1,h2]
def orI:List Int→Int
 | []=>0
 | a::r=>if a=0 then orI r else a
theorem MS (l:List Int) (hl:l.length≤100000) (s:St) (cx:Ctx):∀(rest:List Int) (i:Nat),l.drop i=rest→
  ∃j:Int,rQ (aA P0.glob (aH P0) cx false dS) [3,6,7,8] [(3,.v (.i .i64 0)),(6,.v (.sl (l.map (AV.i .i64)))),(7,.v (.i .i64 l.length)),(8,.v (.i .i64 i))] s=
   if orI rest=0 then .exit 0 [(3,.v (.i .i64 0)),(6,.v (.sl (l.map (AV.i .i64)))),(7,.v (.i .i64 l.length)),(8,.v (.i .i64 j)),(9,.v (.b false))] s
   else .ret [(2,.v (.i .i64 (orI rest)))] s
 | [],i,h=>by
  have h1:¬i<l.length:=Nat.not_lt.2 (drop_nil h)
  refine ⟨i,gG fun K hK=>?_⟩
  simp [dS,h1,orI]
 | p::r,i,h=>by
  obtain ⟨h1,h2,h3,h4⟩:=drop_cons h
  have h5:=h4 h3
  have hwi:=wI (i:=i) (by omega)
  obtain ⟨j,ih⟩:=MS l hl s cx r (i+1) h2
  refine ⟨j,gG fun K hK=>?_⟩
  rw [←hK] at ih
  clear hK h4
  simp at ih
  by_cases hp:p=0
  ·simp [dS,h3,h5,hwi,ih,orI,hp]
  ·simp [dS,h3,h5,hwi,orI,hp]
theorem Lu (l:List Int) (hl:l.length≤100000) (s:St) (cx:Ctx):aH P0 (.fn (.func jS) [] []) [.sl (l.map (AV.i .i64))] s cx=.ret (.i .i64 (orI l)) s:=by
 refine JB (by simp) ?_
 obtain ⟨j,h⟩:=MS l hl s ⟨s.length,s.length⟩ l 0 rfl
 simp at h
 by_cases h0:orI l=0
 ·simp [h0] at h
  simp [au,iq,h,h0]
 ·simp [h0] at h
  simp [au,iq,h]
mutual
def Yy:C→C→Int
 | .mk k n l h z ps,d=>
  let x:=orI [lQ ((1+OW ps:Nat):Int) (JR d:Int),lQ k d.kind,compareBytes n d.name,lQ l d.lo,lQ h d.hi]
  if x=0 then Vd ps d.parts else x
def Vd:List C→List C→Int
 | [],[]=>0
 | [],_::_=>-1
 | _::_,[]=>1
 | a::r,b::q=>if Yy a b=0 then Vd r q else Yy a b
end
end Go.Ai.Z
