/-
 Axioms: the checks, whole.
-/
import Derived.Test.YtpnlnnfcaeednaaGreatDoorAiK8K9
import Derived.Test.YtpnlnnfcaeednaaGreatDoorAiK5K6K7InjInj2Inj3Inj4KI
set_option maxRecDepth 100000
set_option linter.unusedSimpArgs false
set_option linter.unusedVariables false
set_option linter.unusedSectionVars false
namespace Go.Ai.Z
def Np (k cl cr:Int) (bl br:Bool):Int:=
 if (iE k).l=true∧cl≠0 then cl else if (iE k).r=true∧cr≠0 then cr
 else if (k=2∧(bl=true∨br=true))∨((k=1∨k=4∨k=8)∧br=true) then 22 else 0
def jV (x:Ax):Int:=
 if uh x=false then 22 else if FM x (iE x.kind)=false then 20 else Np x.kind (jg x.left) (jg x.right) (mZ x.left) (mZ x.right)
structure Ax.Few (x:Ax):Prop where
 l:wC x.left≤150
 r:wC x.right≤150
 roles:x.roles.length≤600
 rs:∀r∈x.roles,r.length≤600
 role:x.role.length≤600
 a:x.a.length≤600
 b:x.b.length≤600
structure Ax.Mid (x:Ax):Prop where
 l:wC x.left≤100000
 r:wC x.right≤100000
 roles:x.roles.length≤600
 a:x.a.length≤600
 b:x.b.length≤600
theorem Ax.Few.mid {x:Ax} (h:x.Few):x.Mid:=⟨by have:=h.l;omega,by have:=h.r;omega,h.roles,h.a,h.b⟩
theorem pk {x j:Int} (i:Int) (k:x=j):(x=i)=(j=i):=by rw [k]
theorem dk {x j:Int} (i:Int) (k:x=j):decide (x=i)=decide (j=i):=by subst k;rfl
set_option maxHeartbeats 2000000 in
theorem zx (x:Ax) (hx:x.Mid) (s:St) (cx:Ctx):ah P0 (.fn (.func mr) [] []) [fO x] s cx=.ret (.i .i64 (jV x)) s:=by
 refine H6 (by simp) ?_
 unfold jV
 rcases Bool.eq_false_or_eq_true (uh x) with hs|hs
 ·have hk:1≤x.kind∧x.kind≤9:=by simp [uh,BI] at hs;omega
  have b1:0≤x.kind:=by omega
  have b2:x.kind.toNat<10:=by omega
  have b3:7≤70 - x.kind.toNat * 7:=by omega
  have hu:=UU (k:=x.kind) (by omega) (by omega)
  have e1:=OX x (iE x.kind) (by have:=hx.roles;omega) (by have:=hx.a;omega) (by have:=hx.b;omega)
  have e2:=zh x.left (by have:=hx.l;omega)
  have e3:=zh x.right (by have:=hx.r;omega)
  have e4:=Gh x.left (by have:=hx.l;omega)
  have e5:=Gh x.right (by have:=hx.r;omega)
  have hk9:x.kind=1∨x.kind=2∨x.kind=3∨x.kind=4∨x.kind=5∨x.kind=6∨x.kind=7∨x.kind=8∨x.kind=9:=by omega
  rw [hs,if_neg (by simp)]
  rcases Bool.eq_false_or_eq_true (FM x (iE x.kind)) with hn|hn
  ·rw [hn] at e1
   rw [hn,if_neg (by simp)]
   clear hn
   generalize hL:jg x.left=cl at e2 ⊢
   generalize hR:jg x.right=cr at e3 ⊢
   generalize mZ x.left=bl at e4 ⊢
   generalize mZ x.right=br at e5 ⊢
   clear hL hR hx hk
   rcases hk9 with k|k|k|k|k|k|k|k|k
   all_goals
    have d1:=dk 1 k
    have d2:=dk 2 k
    have d4:=dk 4 k
    have d8:=dk 8 k
    have kt:=congrArg (fun i=>Np i cl cr bl br) k
    rw [kt]
    have ku:=congrArg iE k
    rw [ku] at hu e1
    clear ku k kt
    simp [iE] at hu
    simp [iE,Ze] at e1
    simp [Np,iE]
    simp [af,lF,hs,b1,b2,b3,qf,sW,hu,e1,e2,e3,e4,e5,d1,d2,d4,d8]
    repeat' (first | (split<;>(try simp only [kz,kC,kF,pR,pU])<;>(try simp [*])) | (simp only [kz,kC,kF,pR,pU]<;>(try simp [*]))|omega)
  ·rw [hn] at e1
   rw [hn,if_pos rfl]
   generalize iE x.kind=u at hu e1
   simp [af,lF,hs,b1,b2,b3,qf,sW,hu,e1]
 ·rw [hs,if_pos rfl]
  simp [af,lF,hs]
theorem Jm (x:Ax) (hx:x.Few) (s:St) (cx:Ctx):ah P0 (.fn (.func mr) [] []) [fO x] s cx=.ret (.i .i64 (jV x)) s:=zx x hx.mid s cx
end Go.Ai.Z
namespace Go.Ai.Z
attribute [local simp] List.length_pos_iff
end Go.Ai.Z
namespace Go.Ai.Z
structure Ax.Ok (x:Ax):Prop where
 l:x.left.Ok
 r:x.right.Ok
 roles:x.roles.length≤1125899906842624
 rs:∀r∈x.roles,r.length≤1125899906842624
 role:x.role.length≤1125899906842624
 a:x.a.length≤1125899906842624
 b:x.b.length≤1125899906842624
end Go.Ai.Z
namespace Go.Ai.Z
structure Ax.Good (x:Ax):Prop where
 k:x.kind=1∨x.kind=2∨x.kind=3∨x.kind=4∨x.kind=5∨x.kind=6∨x.kind=7∨x.kind=8∨x.kind=9
 l:x.kind=1∨x.kind=2∨x.kind=3→iH x.left=0
 r:x.kind=1∨x.kind=2∨x.kind=3∨x.kind=4∨x.kind=8→iH x.right=0
 r5:x.kind=5→x.roles.length=1
 r6:x.kind=6→2≤x.roles.length∧x.roles.length≤4
theorem ZI {c:C} (h:jg c=0):iH c=0:=by
 unfold jg at h;split at h
 ·cases h
 ·exact h
theorem good {x:Ax} (h:jV x=0):x.Good:=by
 unfold jV at h
 split at h
 ·cases h
 split at h
 ·cases h
 rename_i hs hn
 have hs:uh x=true:=by simpa using hs
 unfold Np at h
 split at h
 ·rename_i q;exact absurd h q.2
 split at h
 ·rename_i q;exact absurd h q.2
 rename_i ql qr
 have hk:1≤x.kind∧x.kind≤9:=by simp [uh,BI] at hs;omega
 have hr:(iE x.kind).lo≤x.roles.length∧(x.roles.length:Int)≤(iE x.kind).hi:=by
  simp only [uh,Bool.and_eq_true,decide_eq_true_eq] at hs;exact ⟨hs.1.2,hs.2⟩
 have hk9:x.kind=1∨x.kind=2∨x.kind=3∨x.kind=4∨x.kind=5∨x.kind=6∨x.kind=7∨x.kind=8∨x.kind=9:=by omega
 refine ⟨hk9,fun q=>?_,fun q=>?_,fun q=>?_,fun q=>?_⟩
 ·have hu:(iE x.kind).l=true:=by rcases q with q|q|q<;>rw [q]<;>rfl
  exact ZI (Classical.not_not.1 fun e=>ql ⟨hu,e⟩)
 ·have hu:(iE x.kind).r=true:=by rcases q with q|q|q|q|q<;>rw [q]<;>rfl
  exact ZI (Classical.not_not.1 fun e=>qr ⟨hu,e⟩)
 ·rw [q] at hr;simp [iE] at hr;omega
 ·rw [q] at hr;simp [iE] at hr;omega
end Go.Ai.Z
namespace Go.Ai.Z
theorem aeF {x:Ax} {b:Bool} (h:x.op=b):AV.ag [.i .i64 x.kind,.b b,.i .i64 x.left.kind,.s x.left.name,.i .i64 x.left.lo,.i .i64 x.left.hi,slf x.left.z (x.left.parts.map bD),
 .i .i64 x.right.kind,.s x.right.name,.i .i64 x.right.lo,.i .i64 x.right.hi,slf x.right.z (x.right.parts.map bD),slf x.z (x.roles.map .s),.s x.role,.s x.a,.s x.b]=fO x:=by subst h;rfl
end Go.Ai.Z
namespace Go.Ai.Z
open Go.Lib (compareBytes)
end Go.Ai.Z
namespace Go.Ai.Z
open Go.Lib (compareBytes)
end Go.Ai.Z
namespace Go.Ai.Z
open Go.Lib (compareBytes)
theorem ac6 (a:List UInt8):Op.bytesLess a a=false:=by
 induction a with
 | nil=>rfl
 | cons x r ih=>simp [Op.bytesLess,ih]
end Go.Ai.Z
