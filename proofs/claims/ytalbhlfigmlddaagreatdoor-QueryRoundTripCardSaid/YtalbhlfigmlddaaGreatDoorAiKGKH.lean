/-
 terms.Compare: the order of concepts.
-/
import Derived.Test.YtalbhlfigmlddaaGreatDoorAiK3K4
set_option maxRecDepth 100000
set_option linter.unusedSimpArgs false
set_option linter.unusedVariables false
set_option linter.unusedSectionVars false
namespace Go.Ai.Z
open Go.Lib (compareBytes)
mutual
def IA:C→AV
 | .mk k n l h z ps=>.ag [.i .i64 k,.s n,.i .i64 l,.i .i64 h,slf z (JE ps),.i .i64 ((1+IV ps:Nat):Int),slf true (Nh ps)]
def Nh:List C→List AV
 | []=>[]
 | a::r=>IA a::Nh r
end
theorem QB:∀ps:List C,Nh ps=ps.map IA
 | []=>by simp [Nh]
 | a::r=>by simp [Nh,QB r]
theorem UL (c:C):IA c=.ag [.i .i64 c.kind,.s c.name,.i .i64 c.lo,.i .i64 c.hi,slf c.z (c.parts.map jZ),.i .i64 (yA c:Int),slf true (c.parts.map IA)]:=by
 cases c;simp [IA,JD,QB,yA]
@[simp] theorem afE (c:C):(IA c).plain=IA c:=by rw [UL];simp
@[simp] theorem af4 (c:C):(IA c).cells=[.i .i64 c.kind,.s c.name,.i .i64 c.lo,.i .i64 c.hi,slf c.z (c.parts.map jZ),.i .i64 (yA c:Int),slf true (c.parts.map IA)]:=by rw [UL];rfl
@[simp] theorem agK (c:C):AV.ag [.i .i64 c.kind,.s c.name,.i .i64 c.lo,.i .i64 c.hi,slf c.z (c.parts.map jZ),.i .i64 (yA c:Int),slf true (c.parts.map IA)]=IA c:=(UL c).symm
mutual
theorem LZ (n:Nat):∀c:C,(IA c).under n=true
 | .mk k nm l h z ps=>by simp [IA,yE n ps,BA n ps]
theorem BA (n:Nat):∀ps:List C,bM n (Nh ps)=true
 | []=>by simp [Nh]
 | a::r=>by simp [Nh,LZ n a,BA n r]
end
@[simp] theorem afa (n:Nat) (c:C):(IA c).under n=true:=LZ n c
@[simp] theorem aeJ (n:Nat) (ps:List C):bM n (ps.map IA)=true:=by rw [←QB];exact BA n ps
end Go.Ai.Z
namespace Go.Ai.Z
open Go.Lib (compareBytes)
def xI (a b:Int):Int:=if a<b then -1 else if b<a then 1 else 0
theorem aaV {a b:Int}:xI a b=0 ↔ a=b:=by unfold xI;(repeat' split)<;>simp<;>omega
@[simp] theorem abj (a:Int) (s:St) (cx:Ctx):aj P0 (.fn (.func jK) [] []) [.i .i64 a] s cx=.ret (.b false) s:=by
 refine Ls (by simp) ?_
 simp [af,lT]
@[simp] theorem Zl (a b:Int) (s:St) (cx:Ctx):aj P0 (.fn (.func gy) [] []) [.i .i64 a,.i .i64 b] s cx=.ret (.i .i64 (xI a b)) s:=by
 refine Ir (by simp) ?_
 unfold xI
 by_cases h1:a<b
 ·simp [af,eH,h1]
 ·by_cases h2:b<a
  ·simp [af,eH,h1,h2]
  ·simp [af,eH,h1,h2]
def orI:List Int→Int
 | []=>0
 | a::r=>if a=0 then orI r else a
theorem V6 (l:List Int) (hl:l.length≤100000) (s:St) (cx:Ctx):∀(rest:List Int) (i:Nat),l.drop i=rest→
  ∃j:Int,bg (au P0.glob (aj P0) cx false oV) [3,6,7,8] [(3,.v (.i .i64 0)),(6,.v (.sl (l.map (AV.i .i64)))),(7,.v (.i .i64 l.length)),(8,.v (.i .i64 i))] s=
   if orI rest=0 then .exit 0 [(3,.v (.i .i64 0)),(6,.v (.sl (l.map (AV.i .i64)))),(7,.v (.i .i64 l.length)),(8,.v (.i .i64 j)),(9,.v (.b false))] s
   else .ret [(2,.v (.i .i64 (orI rest)))] s
 | [],i,h=>by
  have h1:¬i<l.length:=Nat.not_lt.2 (drop_nil h)
  refine ⟨i,ai fun K hK=>?_⟩
  simp [oV,h1,orI]
 | p::r,i,h=>by
  obtain ⟨h1,h2,h3,h4⟩:=drop_cons h
  have h5:=h4 h3
  have hwi:=wI (i:=i) (by omega)
  obtain ⟨j,ih⟩:=V6 l hl s cx r (i+1) h2
  refine ⟨j,ai fun K hK=>?_⟩
  rw [←hK] at ih
  clear hK h4
  simp at ih
  by_cases hp:p=0
  ·simp [oV,h3,h5,hwi,ih,orI,hp]
  ·simp [oV,h3,h5,hwi,orI,hp]
theorem U3 (l:List Int) (hl:l.length≤100000) (s:St) (cx:Ctx):aj P0 (.fn (.func vV) [] []) [.sl (l.map (AV.i .i64))] s cx=.ret (.i .i64 (orI l)) s:=by
 refine RZ (by simp) ?_
 obtain ⟨j,h⟩:=V6 l hl s ⟨s.length,s.length⟩ l 0 rfl
 simp at h
 by_cases h0:orI l=0
 ·simp [h0] at h
  simp [af,tX,h,h0]
 ·simp [h0] at h
  simp [af,tX,h]
mutual
def aiy:C→C→Int
 | .mk k n l h z ps,d=>
  let x:=orI [xI ((1+IV ps:Nat):Int) (yA d:Int),xI k d.kind,compareBytes n d.name,xI l d.lo,xI h d.hi]
  if x=0 then ae2 ps d.parts else x
def ae2:List C→List C→Int
 | [],[]=>0
 | [],_::_=>-1
 | _::_,[]=>1
 | a::r,b::q=>if aiy a b=0 then ae2 r q else aiy a b
end
end Go.Ai.Z
