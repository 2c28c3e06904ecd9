/-
 The reference's comparison of atoms and of parts.
-/
import Derived.Test.YtalbhlfigmlddaaGreatDoorAiQA1QA0QA2QA3QA4
import Derived.Test.YtalbhlfigmlddaaGreatDoorAiQSP3QSPR1QSPR2QS
import Derived.Test.YtalbhlfigmlddaaGreatDoorAiK8
set_option maxRecDepth 100000
set_option linter.unusedSimpArgs false
set_option linter.unusedVariables false
set_option linter.unusedSectionVars false
namespace Go.Ai.Z
open Go.Lib (compareBytes)
theorem acr (M:List At) (hM:M.length≤100000) (s:St) (cx:Ctx):∀(rest:List At) (i:Nat),M.drop i=rest→
  ∃j:Int,bg (au P0.glob (aj P0) cx false nI) [2,3,5] [(2,.bx [.sl (M.map aX)]),(3,.bx [.sl (M.map aX)]),(5,.v (.i .i64 i))] s=
   .exit 0 [(2,.bx [.sl (M.map aX)]),(3,.bx [.sl (M.map aX)]),(5,.v (.i .i64 j)),(17,.v (.b false))] s
 | [],i,h=>by
  have h1:¬i<M.length:=Nat.not_lt.2 (drop_nil h)
  refine ⟨i,ai fun K hK=>?_⟩
  simp [nI,h1]
 | p::r,i,h=>by
  obtain ⟨h1,h2,h3,h4⟩:=drop_cons h
  have h5:=h4 h3
  have hwi:=wI (i:=i) (by omega)
  obtain ⟨j,ih⟩:=acr M hM s cx r (i+1) h2
  refine ⟨j,ai fun K hK=>?_⟩
  rw [←hK] at ih
  clear hK h4
  simp at ih
  have hq:=aj9 p p
  rw [(QJ (a:=p) (b:=p)).2 rfl] at hq
  simp [nI,h3,h5,hwi,ih,aX,hq]
theorem agb (M:List At) (hM:M.length≤100000) (s:St) (cx:Ctx):aj P0 (.fn (.func pF) [] []) [.ag [.sl (M.map aX)],.ag [.sl (M.map aX)]] s cx=.ret (.b true) s:=by
 refine Js (by simp) ?_
 obtain ⟨j,h⟩:=acr M hM s ⟨s.length,s.length⟩ M 0 rfl
 simp at h
 simp [af,qW,h]
end Go.Ai.Z
namespace Go.Ai.Z
end Go.Ai.Z
namespace Go.Ai.Z
end Go.Ai.Z
namespace Go.Ai.Z
def Ph (k:Int):Bool:=(decide (97≤k) && decide (k≤122)) || (decide (65≤k) && decide (k≤90))
@[simp] theorem adb (k:Int) (s:St) (cx:Ctx):aj P0 (.fn (.func mG) [] []) [.i .u8 k] s cx=.ret (.b (Ph k)) s:=by
 refine NY (by simp) ?_
 simp [af,uw,Ph]
 repeat' (split<;>simp only [dD,dF,dH]<;>simp [*])
def headB (b:UInt8):List UInt8→Bool
 | []=>false
 | c::_=>decide (c=b)
theorem JS (l:List UInt8) (b:UInt8) (s:St) (cx:Ctx):aj P0 (.fn (.func jD) [] []) [.s l,.s [b]] s cx=.ret (.b (headB b l)) s:=by
 have e1:aj P0 (.fn (.func dZ) [] []) [.s l,.s [b]] s ⟨s.length,s.length⟩=.ret (.b (headB b l)) s:=by
  refine vk (by simp) ?_
  cases l with
  | nil=>simp [af,dQ,headB]
  | cons c r=>
   have h1:(1:Int)≤(r.length:Int)+1:=by omega
   by_cases h:c=b<;>simp [af,dQ,headB,h,h1]
 refine Ey (by simp) ?_
 simp [af,nG,e1]
@[simp] theorem Vd (l:List UInt8) (s:St) (cx:Ctx):aj P0 (.fn (.func iL) [] []) [.s l] s cx=.ret (.b (headB 63 l)) s:=by
 refine Cc (by simp) ?_
 simp [af,lJ,JS]
def yc (l:List UInt8):Bool:=(jU l || FN l) && !headB 95 l
theorem xO (l:List UInt8) (hl:l.length≤1152921504606846976) (s:St) (cx:Ctx):aj P0 (.fn (.func gI) [] []) [.s l] s cx=.ret (.b (yc l)) s:=by
 have e1:=qZ l hl
 refine DC (by simp) ?_
 cases h:(jU l || FN l)
 ·rw [h] at e1
  simp at e1
  simp [af,jM,e1,yc,h]
 ·rw [h] at e1
  simp at e1
  simp [af,jM,e1,yc,h,JS]
def Vf (k:Int):Bool:=Ph k || (decide (48≤k) && decide (k≤57)) || decide (k=95)
def Nv:List UInt8→Bool
 | []=>true
 | b::r=>Vf b.toNat && Nv r
def wE:List UInt8→Bool
 | a::b::r=>decide (r.length≤15) && decide (a=63) && Ph b.toNat && Nv r
 | _=>false
theorem Jh (s:St) (cx:Ctx) (l:List UInt8) (hl:l.length≤100):∀(rest:List UInt8) (i:Nat),l.drop i=rest→
  ∃j:Int,bg (au P0.glob (aj P0) cx false dW) [0,3] [(0,.v (.s l)),(3,.v (.i .i64 i))] s=
   if Nv rest=true then .exit 0 [(0,.v (.s l)),(3,.v (.i .i64 j)),(27,.v (.b false))] s else .ret [(2,.v (.b false))] s
 | [],i,h=>by
  have h1:¬i<l.length:=Nat.not_lt.2 (drop_nil h)
  refine ⟨i,ai fun K hK=>?_⟩
  simp [dW,h1,Nv]
 | b::r,i,h=>by
  obtain ⟨h1,h2,h3,h4⟩:=drop_cons h
  have h5:=h4 h3
  have hw:=wI (i:=i) (by omega)
  obtain ⟨j,ih⟩:=Jh s cx l hl r (i+1) h2
  refine ⟨j,ai fun K hK=>?_⟩
  rw [←hK,show ((i+1:Nat):Int)=(i:Int)+1 from rfl] at ih
  clear hK
  cases hv:Ph b.toNat
  ·by_cases q1:(b.toNat:Int)<48
   ·have q1':¬(48≤(b.toNat:Int)):=by omega
    by_cases q2:(b.toNat:Int)=95
    ·omega
    ·simp [dW,h3,h5,Nv,Vf,hv,hw,ih,q1,q1',q2]
     repeat' (first | (split<;>(try simp only [dD,dF,dH,gW,gX])<;>(try simp [*])) | (simp only [dD,dF,dH,gW,gX]<;>(try simp [*]))|omega)
   ·have q1':48≤(b.toNat:Int):=by omega
    by_cases q3:(b.toNat:Int)≤57
    ·have q3':¬(57<(b.toNat:Int)):=by omega
     simp [dW,h3,h5,Nv,Vf,hv,hw,ih,q1,q1',q3,q3']
     repeat' (first | (split<;>(try simp only [dD,dF,dH,gW,gX])<;>(try simp [*])) | (simp only [dD,dF,dH,gW,gX]<;>(try simp [*]))|omega)
    ·have q3':57<(b.toNat:Int):=by omega
     by_cases q2:(b.toNat:Int)=95
     ·simp [dW,h3,h5,Nv,Vf,hv,hw,ih,q1,q1',q3,q3',q2]
      repeat' (first | (split<;>(try simp only [dD,dF,dH,gW,gX])<;>(try simp [*])) | (simp only [dD,dF,dH,gW,gX]<;>(try simp [*]))|omega)
     ·simp [dW,h3,h5,Nv,Vf,hv,hw,ih,q1,q1',q3,q3',q2]
      repeat' (first | (split<;>(try simp only [dD,dF,dH,gW,gX])<;>(try simp [*])) | (simp only [dD,dF,dH,gW,gX]<;>(try simp [*]))|omega)
  ·simp [dW,h3,h5,Nv,Vf,hv,hw,ih]
theorem zL (l:List UInt8) (s:St) (cx:Ctx):aj P0 (.fn (.func kF) [] []) [.s l] s cx=.ret (.b (wE l)) s:=by
 refine Gi (by simp) ?_
 match l with
 | []=>simp [af,dN,wE]
 | [a]=>simp [af,dN,wE]
 | a::b::r=>
  have h1:¬((r.length:Int)+1+1<2):=by omega
  by_cases h2:r.length≤15
  ·have h2':¬((17:Int)<(r.length:Int)+1+1):=by omega
   obtain ⟨j,h⟩:=Jh s ⟨s.length,s.length⟩ (a::b::r) (by simp;omega) r 2 rfl
   simp at h
   by_cases h3:a=63
   ·subst h3
    cases h4:Ph b.toNat
    ·simp [af,dN,wE,h1,h2,h2',h4]
    ·cases h5:Nv r
     ·simp [h5] at h
      simp [af,dN,wE,h1,h2,h2',h4,h5,h]
     ·simp [h5] at h
      simp [af,dN,wE,h1,h2,h2',h4,h5,h]
   ·have h3':¬((a.toNat:Int)=63):=by
     intro h6
     have h7:a.toNat=63:=by omega
     exact h3 (UInt8.toNat_inj.1 h7)
    simp [af,dN,wE,h1,h2,h2',h3,h3']
  ·have h2':(17:Int)<(r.length:Int)+1+1:=by omega
   simp [af,dN,wE,h1,h2,h2']
def oK (l:List UInt8):Bool:=wE l || yc l
theorem QT (l:List UInt8) (hl:l.length≤1152921504606846976) (s:St) (cx:Ctx):aj P0 (.fn (.func rZ) [] []) [.s l] s cx=.ret (.b (oK l)) s:=by
 have e1:=zL l
 have e2:=xO l hl
 refine NZ (by simp) ?_
 cases h:wE l
 ·simp [af,qF,e1,e2,oK,h]
 ·simp [af,qF,e1,e2,oK,h]
end Go.Ai.Z
