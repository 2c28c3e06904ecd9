/-
 The reference's comparison of atoms and of parts.
-/
import Derived.Test.YtalbhlfigmlddaaGreatDoorAiQA4
import Derived.Test.YtalbhlfigmlddaaGreatDoorAiQS
import Derived.Test.YtalbhlfigmlddaaGreatDoorAiK8
set_option maxRecDepth 100000
set_option linter.unusedSimpArgs false
set_option linter.unusedVariables false
set_option linter.unusedSectionVars false
namespace Go.Ai.Z
open Go.Lib (compareBytes)
end Go.Ai.Z
namespace Go.Ai.Z
end Go.Ai.Z
namespace Go.Ai.Z
end Go.Ai.Z
namespace Go.Ai.Z
def UO (k:Int):Bool:=(decide (97≤k) && decide (k≤122)) || (decide (65≤k) && decide (k≤90))
@[simp] theorem XZ (k:Int) (s:St) (cx:Ctx):aj P0 (.fn (.func jZ) [] []) [.i .u8 k] s cx=.ret (.b (UO k)) s:=by
 refine JK (by simp) ?_
 simp [ah,qI,UO]
 repeat' (split<;>simp only [dQ,dR,dS]<;>simp [*])
def headB (b:UInt8):List UInt8→Bool
 | []=>false
 | c::_=>decide (c=b)
theorem Gj (l:List UInt8) (b:UInt8) (s:St) (cx:Ctx):aj P0 (.fn (.func iL) [] []) [.s l,.s [b]] s cx=.ret (.b (headB b l)) s:=by
 have e1:aj P0 (.fn (.func dD) [] []) [.s l,.s [b]] s ⟨s.length,s.length⟩=.ret (.b (headB b l)) s:=by
  refine rF (by simp) ?_
  cases l with
  | nil=>simp [ah,cu,headB]
  | cons c r=>
   have h1:(1:Int)≤(r.length:Int)+1:=by omega
   by_cases h:c=b<;>simp [ah,cu,headB,h,h1]
 refine Bj (by simp) ?_
 simp [ah,kQ,e1]
@[simp] theorem PY (l:List UInt8) (s:St) (cx:Ctx):aj P0 (.fn (.func gB) [] []) [.s l] s cx=.ret (.b (headB 63 l)) s:=by
 refine zf (by simp) ?_
 simp [ah,jL,Gj]
def LU (l:List UInt8):Bool:=(lU l || GL l) && !headB 95 l
theorem uO (l:List UInt8) (hl:l.length≤1152921504606846976) (s:St) (cx:Ctx):aj P0 (.fn (.func fE) [] []) [.s l] s cx=.ret (.b (LU l)) s:=by
 have e1:=oI l hl
 refine Aa (by simp) ?_
 cases h:(lU l || GL l)
 ·rw [h] at e1
  simp at e1
  simp [ah,iU,e1,LU,h]
 ·rw [h] at e1
  simp at e1
  simp [ah,iU,e1,LU,h,Gj]
def Uz (k:Int):Bool:=UO k || (decide (48≤k) && decide (k≤57)) || decide (k=95)
def Ny:List UInt8→Bool
 | []=>true
 | b::r=>Uz b.toNat && Ny r
def EQ:List UInt8→Bool
 | a::b::r=>decide (r.length≤15) && decide (a=63) && UO b.toNat && Ny r
 | _=>false
theorem Fv (s:St) (cx:Ctx) (l:List UInt8) (hl:l.length≤100):∀(rest:List UInt8) (i:Nat),l.drop i=rest→
  ∃j:Int,dZ (ak P0.glob (aj P0) cx false dA) [0,3] [(0,.v (.s l)),(3,.v (.i .i64 i))] s=
   if Ny rest=true then .exit 0 [(0,.v (.s l)),(3,.v (.i .i64 j)),(27,.v (.b false))] s else .ret [(2,.v (.b false))] s
 | [],i,h=>by
  have h1:¬i<l.length:=Nat.not_lt.2 (drop_nil h)
  refine ⟨i,ai fun K hK=>?_⟩
  simp [dA,h1,Ny]
 | b::r,i,h=>by
  obtain ⟨h1,h2,h3,h4⟩:=drop_cons h
  have h5:=h4 h3
  have hw:=wI (i:=i) (by omega)
  obtain ⟨j,ih⟩:=Fv s cx l hl r (i+1) h2
  refine ⟨j,ai fun K hK=>?_⟩
  rw [←hK,show ((i+1:Nat):Int)=(i:Int)+1 from rfl] at ih
  clear hK
  cases hv:UO b.toNat
  ·by_cases q1:(b.toNat:Int)<48
   ·have q1':¬(48≤(b.toNat:Int)):=by omega
    by_cases q2:(b.toNat:Int)=95
    ·omega
    ·simp [dA,h3,h5,Ny,Uz,hv,hw,ih,q1,q1',q2]
     repeat' (first | (split<;>(try simp only [dQ,dR,dS,iO,iP])<;>(try simp [*])) | (simp only [dQ,dR,dS,iO,iP]<;>(try simp [*]))|omega)
   ·have q1':48≤(b.toNat:Int):=by omega
    by_cases q3:(b.toNat:Int)≤57
    ·have q3':¬(57<(b.toNat:Int)):=by omega
     simp [dA,h3,h5,Ny,Uz,hv,hw,ih,q1,q1',q3,q3']
     repeat' (first | (split<;>(try simp only [dQ,dR,dS,iO,iP])<;>(try simp [*])) | (simp only [dQ,dR,dS,iO,iP]<;>(try simp [*]))|omega)
    ·have q3':57<(b.toNat:Int):=by omega
     by_cases q2:(b.toNat:Int)=95
     ·simp [dA,h3,h5,Ny,Uz,hv,hw,ih,q1,q1',q3,q3',q2]
      repeat' (first | (split<;>(try simp only [dQ,dR,dS,iO,iP])<;>(try simp [*])) | (simp only [dQ,dR,dS,iO,iP]<;>(try simp [*]))|omega)
     ·simp [dA,h3,h5,Ny,Uz,hv,hw,ih,q1,q1',q3,q3',q2]
      repeat' (first | (split<;>(try simp only [dQ,dR,dS,iO,iP])<;>(try simp [*])) | (simp only [dQ,dR,dS,iO,iP]<;>(try simp [*]))|omega)
  ·simp [dA,h3,h5,Ny,Uz,hv,hw,ih]
theorem wY (l:List UInt8) (s:St) (cx:Ctx):aj P0 (.fn (.func je) [] []) [.s l] s cx=.ret (.b (EQ l)) s:=by
 refine Dh (by simp) ?_
 match l with
 | []=>simp [ah,bY,EQ]
 | [a]=>simp [ah,bY,EQ]
 | a::b::r=>
  have h1:¬((r.length:Int)+1+1<2):=by omega
  by_cases h2:r.length≤15
  ·have h2':¬((17:Int)<(r.length:Int)+1+1):=by omega
   obtain ⟨j,h⟩:=Fv s ⟨s.length,s.length⟩ (a::b::r) (by simp;omega) r 2 rfl
   simp at h
   by_cases h3:a=63
   ·subst h3
    cases h4:UO b.toNat
    ·simp [ah,bY,EQ,h1,h2,h2',h4]
    ·cases h5:Ny r
     ·simp [h5] at h
      simp [ah,bY,EQ,h1,h2,h2',h4,h5,h]
     ·simp [h5] at h
      simp [ah,bY,EQ,h1,h2,h2',h4,h5,h]
   ·have h3':¬((a.toNat:Int)=63):=by
     intro h6
     have h7:a.toNat=63:=by omega
     exact h3 (UInt8.toNat_inj.1 h7)
    simp [ah,bY,EQ,h1,h2,h2',h3,h3']
  ·have h2':(17:Int)<(r.length:Int)+1+1:=by omega
   simp [ah,bY,EQ,h1,h2,h2']
def zG (l:List UInt8):Bool:=EQ l || LU l
theorem MV (l:List UInt8) (hl:l.length≤1152921504606846976) (s:St) (cx:Ctx):aj P0 (.fn (.func pF) [] []) [.s l] s cx=.ret (.b (zG l)) s:=by
 have e1:=wY l
 have e2:=uO l hl
 refine JL (by simp) ?_
 cases h:EQ l
 ·simp [ah,nV,e1,e2,zG,h]
 ·simp [ah,nV,e1,e2,zG,h]
end Go.Ai.Z
