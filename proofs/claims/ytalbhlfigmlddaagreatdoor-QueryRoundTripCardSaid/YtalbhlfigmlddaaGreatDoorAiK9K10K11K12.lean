/-
 Axioms: the checks.
-/
import Derived.Test.YtalbhlfigmlddaaGreatDoorAiK8
set_option maxRecDepth 100000
set_option linter.unusedSimpArgs false
set_option linter.unusedVariables false
set_option linter.unusedSectionVars false
namespace Go.Ai.Z
def allPlain:List (List UInt8)→Bool
 | []=>true
 | r::l=>jU r && allPlain l
def Fe (l:List UInt8):Bool:=jU l || FN l
def Ux (x:Ax) (u:Use):Bool:=(!u.role || jU x.role) && (!u.a || Fe x.a) && (!u.b || Fe x.b) && allPlain x.roles
theorem Dc (s:St) (cx:Ctx) (z:Bool) (l:List (List UInt8)) (hl:l.length≤1152921504606846976):∀(rest:List (List UInt8)) (i:Nat),l.drop i=rest→
  ∃j:Int,bg (au P0.glob (aj P0) cx false oI) [36,37,38] [(36,.v (slf z (l.map .s))),(37,.v (.i .i64 l.length)),(38,.v (.i .i64 i))] s=
   if allPlain rest=true then .exit 0 [(36,.v (slf z (l.map .s))),(37,.v (.i .i64 l.length)),(38,.v (.i .i64 j)),(39,.v (.b false))] s else .ret [(4,.v (.b false))] s
 | [],i,h=>by
  have h1:¬i<l.length:=Nat.not_lt.2 (drop_nil h)
  refine ⟨i,ai fun K hK=>?_⟩
  simp [oI,h1,allPlain]
 | b::r,i,h=>by
  obtain ⟨h1,h2,h3,h4⟩:=drop_cons h
  have h5:=h4 h3
  have hw:=wI (i:=i) (by omega)
  obtain ⟨j,ih⟩:=Dc s cx z l hl r (i+1) h2
  refine ⟨j,ai fun K hK=>?_⟩
  rw [←hK,show ((i+1:Nat):Int)=(i:Int)+1 from rfl] at ih
  clear hK h4
  rcases Bool.eq_false_or_eq_true (jU b) with hin|hin <;>
   simp [oI,h3,h5,hw,ih,allPlain,hin]
set_option maxHeartbeats 1000000 in
theorem N8 (x:Ax) (u:Use) (hl:x.roles.length≤1152921504606846976) (ha:x.a.length≤1152921504606846976) (hb:x.b.length≤1152921504606846976) (s:St) (cx:Ctx):
  aj P0 (.fn (.func qG) [] []) [uK x,Yj u] s cx=.ret (.b (Ux x u)) s:=by
 refine Lc (by simp) ?_
 obtain ⟨j,h⟩:=Dc s ⟨s.length,s.length⟩ x.z x.roles hl x.roles 0 rfl
 have e1:∀(s:St) (cx:Ctx),aj P0 (.fn (.func fD) [] []) [.s x.a] s cx=.ret (.i .i64 (if Fe x.a=true then 0 else 20)) s:=qZ x.a ha
 have e2:∀(s:St) (cx:Ctx),aj P0 (.fn (.func fD) [] []) [.s x.b] s cx=.ret (.i .i64 (if Fe x.b=true then 0 else 20)) s:=qZ x.b hb
 simp at h
 unfold Ux
 generalize Fe x.a=pa at e1 ⊢
 generalize Fe x.b=pb at e2 ⊢
 cases pa<;>cases pb<;>simp only [if_true,Bool.false_eq_true,if_false] at e1 e2
 all_goals
  rcases Bool.eq_false_or_eq_true (allPlain x.roles) with hp|hp
  ·rw [hp,if_pos rfl] at h
   rw [hp]
   clear hp
   simp [af,oO,e1,e2]
   repeat' (first | (split<;>(try simp only [dD,dF,dH,gW,gX])<;>(try simp [*])) | (simp only [dD,dF,dH,gW,gX]<;>(try simp [*]))|omega)
  ·rw [hp,if_neg (by simp)] at h
   rw [hp]
   clear hp
   simp [af,oO,e1,e2]
   repeat' (first | (split<;>(try simp only [dD,dF,dH,gW,gX])<;>(try simp [*])) | (simp only [dD,dF,dH,gW,gX]<;>(try simp [*]))|omega)
mutual
def EU:C→Bool
 | .mk k _ _ _ _ ps=>if k=4 then true else if k=5 then zN ps else false
def zN:List C→Bool
 | []=>false
 | p::r=>EU p || zN r
end
theorem adg (c:C):EU c=if c.kind=4 then true else if c.kind=5 then zN c.parts else false:=by cases c;simp only [EU,C.adY,C.ab3];rfl
theorem MQ (s:St) (cx:Ctx) (z:Bool) (ps:List C) (hps:ps.length≤1152921504606846976)
  (ih:∀p∈ps,∀(s:St) (cx:Ctx),aj P0 (.fn (.func dX) [] []) [jZ p] s cx=.ret (.b (EU p)) s):∀(rest:List C) (i:Nat),ps.drop i=rest→
  ∃j:Int,0≤j∧bg (au P0.glob (aj P0) cx false aW) [0,1,7,8] [(0,.v (slf z (ps.map jZ))),(1,.v (.fn (.func dX) [] [])),(7,.v (.i .i64 ps.length)),(8,.v (.i .i64 i))] s=
   if zN rest=true then .ret [(4,.v (.i .i64 j))] s else .exit 0 [(0,.v (slf z (ps.map jZ))),(1,.v (.fn (.func dX) [] [])),(7,.v (.i .i64 ps.length)),(8,.v (.i .i64 j)),(9,.v (.b false))] s
 | [],i,h=>by
  have h1:¬i<ps.length:=Nat.not_lt.2 (drop_nil h)
  refine ⟨i,by omega,ai fun K hK=>?_⟩
  simp [aW,h1,zN]
 | p::r,i,h=>by
  obtain ⟨h1,h2,h3,h4⟩:=drop_cons h
  have h5:=h4 h3
  have hp:p∈ps:=by rw [←h5];exact List.getElem_mem h3
  have hw:=wI (i:=i) (by omega)
  have e1:=ih p hp
  rcases Bool.eq_false_or_eq_true (EU p) with hb|hb
  ·refine ⟨i,by omega,ai fun K hK=>?_⟩
   clear hK h4 ih
   simp [aW,h3,h5,hw,e1,zN,hb]
  ·obtain ⟨j,hj,ih2⟩:=MQ s cx z ps hps ih r (i+1) h2
   refine ⟨j,hj,ai fun K hK=>?_⟩
   rw [←hK,show ((i+1:Nat):Int)=(i:Int)+1 from rfl] at ih2
   clear hK h4 ih
   simp [aW,h3,h5,hw,e1,zN,hb,ih2]
theorem Dk:∀(c:C),C.Lng c→∀(s:St) (cx:Ctx),aj P0 (.fn (.func dX) [] []) [jZ c] s cx=.ret (.b (EU c)) s:=by
 refine C.ind' fun c ih hw s cx=>?_
 have hw':=hw
 have ihp:∀p∈c.parts,∀(s:St) (cx:Ctx),aj P0 (.fn (.func dX) [] []) [jZ p] s cx=.ret (.b (EU p)) s:=fun p hp=>ih p hp (hw.sub p hp)
 have hI:∀(s:St) (cx:Ctx),∃j:Int,aj P0 (.fn (.func bG) [] []) [slf c.z (c.parts.map jZ),.fn (.func dX) [] []] s cx=.ret (.i .i64 (if zN c.parts=true then j else -1)) s∧0≤j:=by
  intro s cx
  obtain ⟨j,hj,h⟩:=MQ s ⟨cx.lim,s.length⟩ c.z c.parts (by have:=hw.ps;omega) ihp c.parts 0 rfl
  refine ⟨j,pJ (by simp) ?_,hj⟩
  simp at h
  rcases Bool.eq_false_or_eq_true (zN c.parts) with hb|hb<;>simp [af,dw,h,hb]
 have hC:∀(s:St) (cx:Ctx),aj P0 (.fn (.func bf) [] []) [slf c.z (c.parts.map jZ),.fn (.func dX) [] []] s cx=.ret (.b (zN c.parts)) s:=by
  intro s cx
  obtain ⟨j,e1,hj⟩:=hI s ⟨cx.lim,s.length⟩
  refine oC (by simp) ?_
  rcases Bool.eq_false_or_eq_true (zN c.parts) with hb|hb<;>simp [hb] at e1<;>simp [af,bU,e1,hb,hj]
 refine NU (by simp) ?_
 rw [adg]
 by_cases k4:c.kind=4
 ·rw [if_pos k4];simp [af,mQ,kd k4]
 ·by_cases k5:c.kind=5
  ·rw [if_neg k4,if_pos k5];simp [af,mQ,k4,kd k5,hC]
  ·rw [if_neg k4,if_neg k5];simp [af,mQ,k4,k5]
end Go.Ai.Z
namespace Go.Ai.Z
def abw (k cl cr:Int) (bl br:Bool):Int:=
 if (wF k).l=true∧cl≠0 then cl else if (wF k).r=true∧cr≠0 then cr
 else if (k=2∧(bl=true∨br=true))∨((k=1∨k=4∨k=8)∧br=true) then 22 else 0
def yO (x:Ax):Int:=
 if yF x=false then 22 else if Ux x (wF x.kind)=false then 20 else abw x.kind (EL x.left) (EL x.right) (EU x.left) (EU x.right)
structure Ax.Few (x:Ax):Prop where
 l:wC x.left≤150
 r:wC x.right≤150
 roles:x.roles.length≤600
 rs:∀r∈x.roles,r.length≤600
 role:x.role.length≤600
 a:x.a.length≤600
 b:x.b.length≤600
structure Ax.Mid (x:Ax):Prop where
 l:wC x.left≤100000
 r:wC x.right≤100000
 roles:x.roles.length≤600
 a:x.a.length≤600
 b:x.b.length≤600
structure Ax.Lng (x:Ax):Prop where
 l:C.Lng x.left
 r:C.Lng x.right
 roles:x.roles.length≤1152921504606846976
 a:x.a.length≤1152921504606846976
 b:x.b.length≤1152921504606846976
theorem Ax.Mid.lng {x:Ax} (h:x.Mid):x.Lng:=⟨aeS _ h.l,aeS _ h.r,by have:=h.roles;omega,by have:=h.a;omega,by have:=h.b;omega⟩
theorem dk {x j:Int} (i:Int) (k:x=j):decide (x=i)=decide (j=i):=by subst k;rfl
set_option maxHeartbeats 2000000 in
theorem yD (x:Ax) (hx:x.Lng) (s:St) (cx:Ctx):aj P0 (.fn (.func kE) [] []) [uK x] s cx=.ret (.i .i64 (yO x)) s:=by
 refine Gg (by simp) ?_
 unfold yO
 rcases Bool.eq_false_or_eq_true (yF x) with hs|hs
 ·have hk:1≤x.kind∧x.kind≤9:=by simp [yF,H8] at hs;omega
  have b1:0≤x.kind:=by omega
  have b2:x.kind.toNat<10:=by omega
  have b3:7≤70 - x.kind.toNat * 7:=by omega
  have hu:=YF (k:=x.kind) (by omega) (by omega)
  have e1:=N8 x (wF x.kind) (by have:=hx.roles;omega) (by have:=hx.a;omega) (by have:=hx.b;omega)
  have e2:=wu x.left hx.l
  have e3:=wu x.right hx.r
  have e4:=Dk x.left hx.l
  have e5:=Dk x.right hx.r
  have hk9:x.kind=1∨x.kind=2∨x.kind=3∨x.kind=4∨x.kind=5∨x.kind=6∨x.kind=7∨x.kind=8∨x.kind=9:=by omega
  rw [hs,if_neg (by simp)]
  rcases Bool.eq_false_or_eq_true (Ux x (wF x.kind)) with hn|hn
  ·rw [hn] at e1
   rw [hn,if_neg (by simp)]
   clear hn
   generalize hL:EL x.left=cl at e2 ⊢
   generalize hR:EL x.right=cr at e3 ⊢
   generalize EU x.left=bl at e4 ⊢
   generalize EU x.right=br at e5 ⊢
   clear hL hR hx hk
   rcases hk9 with k|k|k|k|k|k|k|k|k
   all_goals
    have d1:=dk 1 k
    have d2:=dk 2 k
    have d4:=dk 4 k
    have d8:=dk 8 k
    have kt:=congrArg (fun i=>abw i cl cr bl br) k
    rw [kt]
    have ku:=congrArg wF k
    rw [ku] at hu e1
    clear ku k kt
    simp [wF] at hu
    simp [wF,Yj] at e1
    simp [abw,wF]
    simp [af,jy,hs,b1,b2,b3,Lu,OH,hu,e1,e2,e3,e4,e5,d1,d2,d4,d8]
    repeat' (first | (split<;>(try simp only [dD,dF,dH,gW,gX])<;>(try simp [*])) | (simp only [dD,dF,dH,gW,gX]<;>(try simp [*]))|omega)
  ·rw [hn] at e1
   rw [hn,if_pos rfl]
   generalize wF x.kind=u at hu e1
   simp [af,jy,hs,b1,b2,b3,Lu,OH,hu,e1]
 ·rw [hs,if_pos rfl]
  simp [af,jy,hs]
end Go.Ai.Z
namespace Go.Ai.Z
attribute [local simp] List.length_pos_iff
end Go.Ai.Z
namespace Go.Ai.Z
structure Ax.Ok (x:Ax):Prop where
 l:x.left.Ok
 r:x.right.Ok
 roles:x.roles.length≤1125899906842624
 rs:∀r∈x.roles,r.length≤1125899906842624
 role:x.role.length≤1125899906842624
 a:x.a.length≤1125899906842624
 b:x.b.length≤1125899906842624
end Go.Ai.Z
