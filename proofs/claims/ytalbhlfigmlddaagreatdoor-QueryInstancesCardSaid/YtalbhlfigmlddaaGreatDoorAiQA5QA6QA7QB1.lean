/-
 The reference's comparison of atoms and of parts.
-/
import Derived.Test.YtalbhlfigmlddaaGreatDoorAiQA3QA4
import Derived.Test.YtalbhlfigmlddaaGreatDoorAiQS
import Derived.Test.YtalbhlfigmlddaaGreatDoorAiK8
set_option maxRecDepth 100000
set_option linter.unusedSimpArgs false
set_option linter.unusedVariables false
set_option linter.unusedSectionVars false
namespace Go.Ai.Z
open Go.Lib (compareBytes)
end Go.Ai.Z
namespace Go.Ai.Z
end Go.Ai.Z
namespace Go.Ai.Z
end Go.Ai.Z
namespace Go.Ai.Z
def Wu (k:Int):Bool:=(decide (97≤k) && decide (k≤122)) || (decide (65≤k) && decide (k≤90))
@[simp] theorem ZG (k:Int) (s:St) (cx:Ctx):aj P0 (.fn (.func kS) [] []) [.i .u8 k] s cx=.ret (.b (Wu k)) s:=by
 refine KR (by simp) ?_
 simp [ah,rF,Wu]
 repeat' (split<;>simp only [dW,dX,dY]<;>simp [*])
def headB (b:UInt8):List UInt8→Bool
 | []=>false
 | c::_=>decide (c=b)
theorem Hr (l:List UInt8) (b:UInt8) (s:St) (cx:Ctx):aj P0 (.fn (.func jb) [] []) [.s l,.s [b]] s cx=.ret (.b (headB b l)) s:=by
 have e1:aj P0 (.fn (.func dP) [] []) [.s l,.s [b]] s ⟨s.length,s.length⟩=.ret (.b (headB b l)) s:=by
  refine sK (by simp) ?_
  cases l with
  | nil=>simp [ah,dH,headB]
  | cons c r=>
   have h1:(1:Int)≤(r.length:Int)+1:=by omega
   by_cases h:c=b<;>simp [ah,dH,headB,h,h1]
 refine Cc (by simp) ?_
 simp [ah,lG,e1]
@[simp] theorem Rn (l:List UInt8) (s:St) (cx:Ctx):aj P0 (.fn (.func iC) [] []) [.s l] s cx=.ret (.b (headB 63 l)) s:=by
 refine zV (by simp) ?_
 simp [ah,jZ,Hr]
def yB (l:List UInt8):Bool:=(lY l || FY l) && !headB 95 l
theorem qj (l:List UInt8) (hl:l.length≤1152921504606846976) (s:St) (cx:Ctx):aj P0 (.fn (.func fV) [] []) [.s l] s cx=.ret (.b (yB l)) s:=by
 have e1:=pK l hl
 refine Ba (by simp) ?_
 cases h:(lY l || FY l)
 ·rw [h] at e1
  simp at e1
  simp [ah,jh,e1,yB,h]
 ·rw [h] at e1
  simp at e1
  simp [ah,jh,e1,yB,h,Hr]
def VZ (k:Int):Bool:=Wu k || (decide (48≤k) && decide (k≤57)) || decide (k=95)
def OM:List UInt8→Bool
 | []=>true
 | b::r=>VZ b.toNat && OM r
def AO:List UInt8→Bool
 | a::b::r=>decide (r.length≤15) && decide (a=63) && Wu b.toNat && OM r
 | _=>false
theorem Gl (s:St) (cx:Ctx) (l:List UInt8) (hl:l.length≤100):∀(rest:List UInt8) (i:Nat),l.drop i=rest→
  ∃j:Int,dZ (ak P0.glob (aj P0) cx false dM) [0,3] [(0,.v (.s l)),(3,.v (.i .i64 i))] s=
   if OM rest=true then .exit 0 [(0,.v (.s l)),(3,.v (.i .i64 j)),(27,.v (.b false))] s else .ret [(2,.v (.b false))] s
 | [],i,h=>by
  have h1:¬i<l.length:=Nat.not_lt.2 (drop_nil h)
  refine ⟨i,ai fun K hK=>?_⟩
  simp [dM,h1,OM]
 | b::r,i,h=>by
  obtain ⟨h1,h2,h3,h4⟩:=drop_cons h
  have h5:=h4 h3
  have hw:=wI (i:=i) (by omega)
  obtain ⟨j,ih⟩:=Gl s cx l hl r (i+1) h2
  refine ⟨j,ai fun K hK=>?_⟩
  rw [←hK,show ((i+1:Nat):Int)=(i:Int)+1 from rfl] at ih
  clear hK
  cases hv:Wu b.toNat
  ·by_cases q1:(b.toNat:Int)<48
   ·have q1':¬(48≤(b.toNat:Int)):=by omega
    by_cases q2:(b.toNat:Int)=95
    ·omega
    ·simp [dM,h3,h5,OM,VZ,hv,hw,ih,q1,q1',q2]
     repeat' (first | (split<;>(try simp only [dW,dX,dY,iK,iL])<;>(try simp [*])) | (simp only [dW,dX,dY,iK,iL]<;>(try simp [*]))|omega)
   ·have q1':48≤(b.toNat:Int):=by omega
    by_cases q3:(b.toNat:Int)≤57
    ·have q3':¬(57<(b.toNat:Int)):=by omega
     simp [dM,h3,h5,OM,VZ,hv,hw,ih,q1,q1',q3,q3']
     repeat' (first | (split<;>(try simp only [dW,dX,dY,iK,iL])<;>(try simp [*])) | (simp only [dW,dX,dY,iK,iL]<;>(try simp [*]))|omega)
    ·have q3':57<(b.toNat:Int):=by omega
     by_cases q2:(b.toNat:Int)=95
     ·simp [dM,h3,h5,OM,VZ,hv,hw,ih,q1,q1',q3,q3',q2]
      repeat' (first | (split<;>(try simp only [dW,dX,dY,iK,iL])<;>(try simp [*])) | (simp only [dW,dX,dY,iK,iL]<;>(try simp [*]))|omega)
     ·simp [dM,h3,h5,OM,VZ,hv,hw,ih,q1,q1',q3,q3',q2]
      repeat' (first | (split<;>(try simp only [dW,dX,dY,iK,iL])<;>(try simp [*])) | (simp only [dW,dX,dY,iK,iL]<;>(try simp [*]))|omega)
  ·simp [dM,h3,h5,OM,VZ,hv,hw,ih]
theorem yg (l:List UInt8) (s:St) (cx:Ctx):aj P0 (.fn (.func jy) [] []) [.s l] s cx=.ret (.b (AO l)) s:=by
 refine DW (by simp) ?_
 match l with
 | []=>simp [ah,dG,AO]
 | [a]=>simp [ah,dG,AO]
 | a::b::r=>
  have h1:¬((r.length:Int)+1+1<2):=by omega
  by_cases h2:r.length≤15
  ·have h2':¬((17:Int)<(r.length:Int)+1+1):=by omega
   obtain ⟨j,h⟩:=Gl s ⟨s.length,s.length⟩ (a::b::r) (by simp;omega) r 2 rfl
   simp at h
   by_cases h3:a=63
   ·subst h3
    cases h4:Wu b.toNat
    ·simp [ah,dG,AO,h1,h2,h2',h4]
    ·cases h5:OM r
     ·simp [h5] at h
      simp [ah,dG,AO,h1,h2,h2',h4,h5,h]
     ·simp [h5] at h
      simp [ah,dG,AO,h1,h2,h2',h4,h5,h]
   ·have h3':¬((a.toNat:Int)=63):=by
     intro h6
     have h7:a.toNat=63:=by omega
     exact h3 (UInt8.toNat_inj.1 h7)
    simp [ah,dG,AO,h1,h2,h2',h3,h3']
  ·have h2':(17:Int)<(r.length:Int)+1+1:=by omega
   simp [ah,dG,AO,h1,h2,h2']
def wG (l:List UInt8):Bool:=AO l || yB l
theorem Oq (l:List UInt8) (hl:l.length≤1152921504606846976) (s:St) (cx:Ctx):aj P0 (.fn (.func qx) [] []) [.s l] s cx=.ret (.b (wG l)) s:=by
 have e1:=yg l
 have e2:=qj l hl
 refine KT (by simp) ?_
 cases h:AO l
 ·simp [ah,oQ,e1,e2,wG,h]
 ·simp [ah,oQ,e1,e2,wG,h]
end Go.Ai.Z
