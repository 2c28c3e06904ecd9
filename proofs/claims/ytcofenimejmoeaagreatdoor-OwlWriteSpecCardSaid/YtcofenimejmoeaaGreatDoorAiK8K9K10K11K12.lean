/-
 Axioms: their data, and the first checks.
-/
import Derived.Test.YtcofenimejmoeaaGreatDoorAiK5K6K7
set_option maxRecDepth 100000
set_option linter.unusedSimpArgs false
set_option linter.unusedVariables false
set_option linter.unusedSectionVars false
namespace Go.Ai.Z
structure Ax where
 kind:Int
 op:Bool
 left:C
 right:C
 z:Bool
 roles:List (List UInt8)
 role:List UInt8
 a:List UInt8
 b:List UInt8
def cellsA (x:Ax):List AV:=[.i .i64 x.kind,.b x.op,.i .i64 x.left.kind,.s x.left.name,.i .i64 x.left.lo,.i .i64 x.left.hi,slf x.left.z (x.left.parts.map bn),
 .i .i64 x.right.kind,.s x.right.name,.i .i64 x.right.lo,.i .i64 x.right.hi,slf x.right.z (x.right.parts.map bn),slf x.z (x.roles.map .s),.s x.role,.s x.a,.s x.b]
def dD (x:Ax):AV:=.ag (cellsA x)
@[simp] theorem adz (x:Ax):(dD x).plain=dD x:=by simp [dD,cellsA]
@[simp] theorem adN (x:Ax):(dD x).cells=[.i .i64 x.kind,.b x.op,.i .i64 x.left.kind,.s x.left.name,.i .i64 x.left.lo,.i .i64 x.left.hi,slf x.left.z (x.left.parts.map bn),
 .i .i64 x.right.kind,.s x.right.name,.i .i64 x.right.lo,.i .i64 x.right.hi,slf x.right.z (x.right.parts.map bn),slf x.z (x.roles.map .s),.s x.role,.s x.a,.s x.b]:=rfl
@[simp] theorem aem (x:Ax):AV.ag [.i .i64 x.kind,.b x.op,.i .i64 x.left.kind,.s x.left.name,.i .i64 x.left.lo,.i .i64 x.left.hi,slf x.left.z (x.left.parts.map bn),
 .i .i64 x.right.kind,.s x.right.name,.i .i64 x.right.lo,.i .i64 x.right.hi,slf x.right.z (x.right.parts.map bn),slf x.z (x.roles.map .s),.s x.role,.s x.a,.s x.b]=dD x:=rfl
def emptyS (c:C):Bool:=decide (c.kind=0) && decide (c.name=[]) && decide (c.lo=0) && decide (c.hi=0) && decide ((c.parts.length:Int)=0)
@[simp] theorem ZG (c:C) (s:St) (cx:Ctx):ai P0 (.fn (.func lM) [] []) [bn c] s cx=.ret (.b (emptyS c)) s:=by
 refine KN (by simp) ?_
 simp [af,rq,emptyS]
 repeat' (first | (split<;>(try simp only [ay,aA,aB,aI,aJ])<;>(try simp [*])) | (simp only [ay,aA,aB,aI,aJ]<;>(try simp [*]))|omega)
@[simp] theorem abr (c:C) (s:St) (cx:Ctx):ai P0 (.fn (.func pX) [] []) [bn c] s cx=.ret (.b (emptyS c)) s:=by
 refine PW (by simp) ?_
 simp [af,vH,emptyS]
 repeat' (first | (split<;>(try simp only [ay,aA,aB,aI,aJ])<;>(try simp [*])) | (simp only [ay,aA,aB,aI,aJ]<;>(try simp [*]))|omega)
theorem AZ (l:List UInt8) (hl:l.length≤1152921504606846976) (s:St) (cx:Ctx):ai P0 (.fn (.func iD) [] []) [.s l] s cx=.ret (.i .i64 (if (kC l || En l)=true then 0 else 20)) s:=by
 refine Iu (by simp) ?_
 have e1:=zU l hl
 rcases Bool.eq_false_or_eq_true (kC l) with h1|h1<;>rcases Bool.eq_false_or_eq_true (En l) with h2|h2<;>simp [af,oG,e1,h1,h2]
structure Use where
 l:Bool
 r:Bool
 role:Bool
 a:Bool
 b:Bool
 lo:Int
 hi:Int
def kz (k:Int):Use:=
 if k=1 then ⟨true,true,false,false,false,0,0⟩ else if k=2 then ⟨true,true,false,false,false,0,0⟩ else if k=3 then ⟨true,true,false,false,false,0,0⟩
 else if k=4 then ⟨false,true,true,false,false,0,0⟩ else if k=5 then ⟨false,false,true,false,false,1,1⟩ else if k=6 then ⟨false,false,true,false,false,2,4⟩
 else if k=7 then ⟨false,false,true,false,false,0,0⟩ else if k=8 then ⟨false,true,false,true,false,0,0⟩ else if k=9 then ⟨false,false,true,true,true,0,0⟩ else ⟨false,false,false,false,false,0,0⟩
def Xx (u:Use):AV:=.ag [.b u.l,.b u.r,.b u.role,.b u.a,.b u.b,.i .i64 u.lo,.i .i64 u.hi]
@[simp] theorem adx (u:Use):(Xx u).plain=Xx u:=by simp [Xx]
@[simp] theorem adM (u:Use):(Xx u).cells=[.b u.l,.b u.r,.b u.role,.b u.a,.b u.b,.i .i64 u.lo,.i .i64 u.hi]:=rfl
@[simp] theorem aek (u:Use):AV.ag [.b u.l,.b u.r,.b u.role,.b u.a,.b u.b,.i .i64 u.lo,.i .i64 u.hi]=Xx u:=rfl
def WM:List AV:=(P0.glob vW).getD []
theorem KT:P0.glob vW=some WM:=rfl
theorem Oa:WM.length=70:=rfl
theorem XV {k:Int} (h1:1≤k) (h9:k≤9):(WM.drop (k.toNat * 7)).take 7=[.b (kz k).l,.b (kz k).r,.b (kz k).role,.b (kz k).a,.b (kz k).b,.i .i64 (kz k).lo,.i .i64 (kz k).hi]:=by
 have:k=1∨k=2∨k=3∨k=4∨k=5∨k=6∨k=7∨k=8∨k=9:=by omega
 rcases this with rfl|rfl|rfl|rfl|rfl|rfl|rfl|rfl|rfl<;>rfl
def zA (x:Ax):Bool:=decide (1≤x.kind) && decide (x.kind≤9)
def lT (x:Ax):Bool:=zA x && ((kz x.kind).l || emptyS x.left) && ((kz x.kind).r || emptyS x.right) && ((kz x.kind).role || decide (x.role=[])) && ((kz x.kind).a || decide (x.a=[])) && ((kz x.kind).b || decide (x.b=[])) &&
 decide ((kz x.kind).lo≤x.roles.length) && decide ((x.roles.length:Int)≤(kz x.kind).hi)
set_option maxHeartbeats 2000000 in
@[simp] theorem ZA (x:Ax) (s:St) (cx:Ctx):ai P0 (.fn (.func nO) [] []) [dD x] s cx=.ret (.b (lT x)) s:=by
 refine Jy (by simp) ?_
 by_cases h1:x.kind<1
 ·simp [af,jM,h1,lT,zA,show ¬(1≤x.kind) by omega]
 by_cases h9:9<x.kind
 ·simp [af,jM,h1,h9,lT,zA,show ¬(x.kind≤9) by omega]
 have b1:0≤x.kind:=by omega
 have b2:x.kind.toNat<10:=by omega
 have b3:7≤70 - x.kind.toNat * 7:=by omega
 have hu:=XV (k:=x.kind) (by omega) (by omega)
 have hk:zA x=true:=by simp [zA];omega
 unfold lT
 rw [hk]
 have hk9:x.kind=1∨x.kind=2∨x.kind=3∨x.kind=4∨x.kind=5∨x.kind=6∨x.kind=7∨x.kind=8∨x.kind=9:=by omega
 clear hk
 rcases hk9 with k|k|k|k|k|k|k|k|k
 all_goals
  have ku:=congrArg kz k
  rw [ku] at hu ⊢
  clear ku k
  simp [kz] at hu ⊢
  simp [af,jM,h1,h9,b1,b2,b3,KT,Oa,hu]
  clear hu b1 b2 b3 h1 h9
  repeat' (first | (split<;>(try simp only [ay,aA,aB,aI,aJ])<;>(try simp [*])) | (simp only [ay,aA,aB,aI,aJ]<;>(try simp [*]))|omega)
end Go.Ai.Z
namespace Go.Ai.Z
def allPlain:List (List UInt8)→Bool
 | []=>true
 | r::l=>kC r && allPlain l
def vg (l:List UInt8):Bool:=kC l || En l
def Df (x:Ax) (u:Use):Bool:=(!u.role || kC x.role) && (!u.a || vg x.a) && (!u.b || vg x.b) && allPlain x.roles
theorem DT (s:St) (cx:Ctx) (z:Bool) (l:List (List UInt8)) (hl:l.length≤1152921504606846976):∀(rest:List (List UInt8)) (i:Nat),l.drop i=rest→
  ∃j:Int,eX (au P0.glob (ai P0) cx false mY) [36,37,38] [(36,.v (slf z (l.map .s))),(37,.v (.i .i64 l.length)),(38,.v (.i .i64 i))] s=
   if allPlain rest=true then .exit 0 [(36,.v (slf z (l.map .s))),(37,.v (.i .i64 l.length)),(38,.v (.i .i64 j)),(39,.v (.b false))] s else .ret [(4,.v (.b false))] s
 | [],i,h=>by
  have h1:¬i<l.length:=Nat.not_lt.2 (drop_nil h)
  refine ⟨i,aj fun K hK=>?_⟩
  simp [mY,h1,allPlain]
 | b::r,i,h=>by
  obtain ⟨h1,h2,h3,h4⟩:=drop_cons h
  have h5:=h4 h3
  have hw:=wI (i:=i) (by omega)
  obtain ⟨j,ih⟩:=DT s cx z l hl r (i+1) h2
  refine ⟨j,aj fun K hK=>?_⟩
  rw [←hK,show ((i+1:Nat):Int)=(i:Int)+1 from rfl] at ih
  clear hK h4
  rcases Bool.eq_false_or_eq_true (kC b) with hin|hin <;>
   simp [mY,h3,h5,hw,ih,allPlain,hin]
set_option maxHeartbeats 1000000 in
theorem NK (x:Ax) (u:Use) (hl:x.roles.length≤1152921504606846976) (ha:x.a.length≤1152921504606846976) (hb:x.b.length≤1152921504606846976) (s:St) (cx:Ctx):
  ai P0 (.fn (.func pJ) [] []) [dD x,Xx u] s cx=.ret (.b (Df x u)) s:=by
 refine KL (by simp) ?_
 obtain ⟨j,h⟩:=DT s ⟨s.length,s.length⟩ x.z x.roles hl x.roles 0 rfl
 have e1:∀(s:St) (cx:Ctx),ai P0 (.fn (.func iD) [] []) [.s x.a] s cx=.ret (.i .i64 (if vg x.a=true then 0 else 20)) s:=AZ x.a ha
 have e2:∀(s:St) (cx:Ctx),ai P0 (.fn (.func iD) [] []) [.s x.b] s cx=.ret (.i .i64 (if vg x.b=true then 0 else 20)) s:=AZ x.b hb
 simp at h
 unfold Df
 generalize vg x.a=pa at e1 ⊢
 generalize vg x.b=pb at e2 ⊢
 cases pa<;>cases pb<;>simp only [if_true,Bool.false_eq_true,if_false] at e1 e2
 all_goals
  rcases Bool.eq_false_or_eq_true (allPlain x.roles) with hp|hp
  ·rw [hp,if_pos rfl] at h
   rw [hp]
   clear hp
   simp [af,nD,e1,e2]
   repeat' (first | (split<;>(try simp only [ay,aA,aB,aI,aJ])<;>(try simp [*])) | (simp only [ay,aA,aB,aI,aJ]<;>(try simp [*]))|omega)
  ·rw [hp,if_neg (by simp)] at h
   rw [hp]
   clear hp
   simp [af,nD,e1,e2]
   repeat' (first | (split<;>(try simp only [ay,aA,aB,aI,aJ])<;>(try simp [*])) | (simp only [ay,aA,aB,aI,aJ]<;>(try simp [*]))|omega)
mutual
def uN:C→Bool
 | .mk k _ _ _ _ ps=>if k=4 then true else if k=5 then sD ps else false
def sD:List C→Bool
 | []=>false
 | p::r=>uN p || sD r
end
theorem Wu (c:C):uN c=if c.kind=4 then true else if c.kind=5 then sD c.parts else false:=by cases c;simp only [uN,C.ab8,C.aak];rfl
theorem Me (s:St) (cx:Ctx) (z:Bool) (ps:List C) (hps:ps.length≤1152921504606846976)
  (ih:∀p∈ps,∀(s:St) (cx:Ctx),ai P0 (.fn (.func eU) [] []) [bn p] s cx=.ret (.b (uN p)) s):∀(rest:List C) (i:Nat),ps.drop i=rest→
  ∃j:Int,0≤j∧eX (au P0.glob (ai P0) cx false bC) [0,1,7,8] [(0,.v (slf z (ps.map bn))),(1,.v (.fn (.func eU) [] [])),(7,.v (.i .i64 ps.length)),(8,.v (.i .i64 i))] s=
   if sD rest=true then .ret [(4,.v (.i .i64 j))] s else .exit 0 [(0,.v (slf z (ps.map bn))),(1,.v (.fn (.func eU) [] [])),(7,.v (.i .i64 ps.length)),(8,.v (.i .i64 j)),(9,.v (.b false))] s
 | [],i,h=>by
  have h1:¬i<ps.length:=Nat.not_lt.2 (drop_nil h)
  refine ⟨i,by omega,aj fun K hK=>?_⟩
  simp [bC,h1,sD]
 | p::r,i,h=>by
  obtain ⟨h1,h2,h3,h4⟩:=drop_cons h
  have h5:=h4 h3
  have hp:p∈ps:=by rw [←h5];exact List.getElem_mem h3
  have hw:=wI (i:=i) (by omega)
  have e1:=ih p hp
  rcases Bool.eq_false_or_eq_true (uN p) with hb|hb
  ·refine ⟨i,by omega,aj fun K hK=>?_⟩
   clear hK h4 ih
   simp [bC,h3,h5,hw,e1,sD,hb]
  ·obtain ⟨j,hj,ih2⟩:=Me s cx z ps hps ih r (i+1) h2
   refine ⟨j,hj,aj fun K hK=>?_⟩
   rw [←hK,show ((i+1:Nat):Int)=(i:Int)+1 from rfl] at ih2
   clear hK h4 ih
   simp [bC,h3,h5,hw,e1,sD,hb,ih2]
theorem DZ:∀(c:C),C.Lng c→∀(s:St) (cx:Ctx),ai P0 (.fn (.func eU) [] []) [bn c] s cx=.ret (.b (uN c)) s:=by
 refine C.ind' fun c ih hw s cx=>?_
 have hw':=hw
 have ihp:∀p∈c.parts,∀(s:St) (cx:Ctx),ai P0 (.fn (.func eU) [] []) [bn p] s cx=.ret (.b (uN p)) s:=fun p hp=>ih p hp (hw.sub p hp)
 have hI:∀(s:St) (cx:Ctx),∃j:Int,ai P0 (.fn (.func bM) [] []) [slf c.z (c.parts.map bn),.fn (.func eU) [] []] s cx=.ret (.i .i64 (if sD c.parts=true then j else -1)) s∧0≤j:=by
  intro s cx
  obtain ⟨j,hj,h⟩:=Me s ⟨cx.lim,s.length⟩ c.z c.parts (by have:=hw.ps;omega) ihp c.parts 0 rfl
  refine ⟨j,nX (by simp) ?_,hj⟩
  simp at h
  rcases Bool.eq_false_or_eq_true (sD c.parts) with hb|hb<;>simp [af,dG,h,hb]
 have hC:∀(s:St) (cx:Ctx),ai P0 (.fn (.func bJ) [] []) [slf c.z (c.parts.map bn),.fn (.func eU) [] []] s cx=.ret (.b (sD c.parts)) s:=by
  intro s cx
  obtain ⟨j,e1,hj⟩:=hI s ⟨cx.lim,s.length⟩
  refine mM (by simp) ?_
  rcases Bool.eq_false_or_eq_true (sD c.parts) with hb|hb<;>simp [hb] at e1<;>simp [af,dn,e1,hb,hj]
 refine NE (by simp) ?_
 rw [Wu]
 by_cases k4:c.kind=4
 ·rw [if_pos k4];simp [af,lJ,kd k4]
 ·by_cases k5:c.kind=5
  ·rw [if_neg k4,if_pos k5];simp [af,lJ,k4,kd k5,hC]
  ·rw [if_neg k4,if_neg k5];simp [af,lJ,k4,k5]
theorem Jq (s:St) (cx:Ctx) (c:C) (hw:wC c≤100000)
  (ih:∀p∈c.parts,∀(s:St) (cx:Ctx),ai P0 (.fn (.func jF) [] []) [bn p] s cx=.ret (.b (uN p)) s):
  ∀(rest:List C) (i:Nat),c.parts.drop i=rest→
  ∃j:Int,eX (au P0.glob (ai P0) cx false rG) [1,3] [(1,.bx (bn c).cells),(3,.v (.i .i64 i))] s=
   if sD rest=true then .ret [(2,.v (.b true))] s else .exit 0 [(1,.bx (bn c).cells),(3,.v (.i .i64 j)),(14,.v (.b false))] s
 | [],i,h=>by
  have h1:¬i<c.parts.length:=Nat.not_lt.2 (drop_nil h)
  refine ⟨i,aj fun K hK=>?_⟩
  simp [rG,h1,sD]
 | p::r,i,h=>by
  obtain ⟨h1,h2,h3,h4⟩:=drop_cons h
  have h5:=h4 h3
  have hp:p∈c.parts:=by rw [←h5];exact List.getElem_mem h3
  have hl:=Ba c.parts
  have hwi:=wI (i:=i) (by rw [nY] at hw;omega)
  obtain ⟨j,ih2⟩:=Jq s cx c hw ih r (i+1) h2
  refine ⟨j,aj fun K hK=>?_⟩
  rw [←hK] at ih2
  have e1:=ih p hp
  clear hK h4 ih
  simp at ih2
  rcases Bool.eq_false_or_eq_true (uN p) with hb|hb<;>simp [rG,h3,h5,hwi,e1,ih2,sD,hb]
theorem JU:∀(c:C),wC c≤100000→ji c=0→∀(s:St) (cx:Ctx),ai P0 (.fn (.func jF) [] []) [bn c] s cx=.ret (.b (uN c)) s:=by
 refine C.ind' fun c ih hw hv s cx=>?_
 obtain ⟨v1,v2,v3⟩:=FH hv
 have hw':=hw
 rw [nY] at hw'
 obtain ⟨j,h⟩:=Jq s ⟨s.length,s.length⟩ c hw (fun p hp=>ih p hp (by have:=wS hp;omega) (v3 p hp)) c.parts 0 rfl
 refine Q9 (by simp) ?_
 simp at h
 rw [Wu]
 by_cases k4:c.kind=4
 ·rw [if_pos k4];simp [af,mJ,kd k4]
 by_cases k6:c.kind=6
 ·rw [if_neg k4,if_neg (by omega)];simp [af,mJ,k4,kd k6]
 by_cases k5:c.kind=5
 ·rw [if_neg k4,if_pos k5]
  rcases Bool.eq_false_or_eq_true (sD c.parts) with hb|hb<;>simp [af,mJ,k4,k6,h,hb]
 ·have hps:c.parts=[]:=by
   unfold qf at v1
   by_cases k1:c.kind=1
   ·simp [k1] at v1;exact v1.2
   by_cases k2:c.kind=2
   ·simp [k2] at v1;exact v1.2
   by_cases k3:c.kind=3
   ·simp [k3] at v1;exact v1.2
   by_cases k7:c.kind=7
   ·simp [k7] at v1;exact v1.1.1.1
   ·simp [k1,k2,k3,k4,k5,k6,k7] at v1
  rw [if_neg k4,if_neg k5]
  have hb:sD c.parts=false:=by rw [hps];rfl
  simp [af,mJ,k4,k6,h,hb]
end Go.Ai.Z
namespace Go.Ai.Z
def Ob (k cl cr:Int) (bl br:Bool):Int:=
 if (kz k).l=true∧cl≠0 then cl else if (kz k).r=true∧cr≠0 then cr
 else if (k=2∧(bl=true∨br=true))∨((k=1∨k=4∨k=8)∧br=true) then 22 else 0
def jP (x:Ax):Int:=
 if lT x=false then 22 else if Df x (kz x.kind)=false then 20 else Ob x.kind (lI x.left) (lI x.right) (uN x.left) (uN x.right)
structure Ax.Few (x:Ax):Prop where
 l:wC x.left≤150
 r:wC x.right≤150
 roles:x.roles.length≤600
 rs:∀r∈x.roles,r.length≤600
 role:x.role.length≤600
 a:x.a.length≤600
 b:x.b.length≤600
structure Ax.Mid (x:Ax):Prop where
 l:wC x.left≤100000
 r:wC x.right≤100000
 roles:x.roles.length≤600
 a:x.a.length≤600
 b:x.b.length≤600
theorem Ax.Few.mid {x:Ax} (h:x.Few):x.Mid:=⟨by have:=h.l;omega,by have:=h.r;omega,h.roles,h.a,h.b⟩
structure Ax.Lng (x:Ax):Prop where
 l:C.Lng x.left
 r:C.Lng x.right
 roles:x.roles.length≤1152921504606846976
 a:x.a.length≤1152921504606846976
 b:x.b.length≤1152921504606846976
theorem Ax.Mid.lng {x:Ax} (h:x.Mid):x.Lng:=⟨acW _ h.l,acW _ h.r,by have:=h.roles;omega,by have:=h.a;omega,by have:=h.b;omega⟩
theorem dk {x j:Int} (i:Int) (k:x=j):decide (x=i)=decide (j=i):=by subst k;rfl
set_option maxHeartbeats 2000000 in
theorem Gy (x:Ax) (hx:x.Lng) (s:St) (cx:Ctx):ai P0 (.fn (.func gJ) [] []) [dD x] s cx=.ret (.i .i64 (jP x)) s:=by
 refine Gl (by simp) ?_
 unfold jP
 rcases Bool.eq_false_or_eq_true (lT x) with hs|hs
 ·have hk:1≤x.kind∧x.kind≤9:=by simp [lT,zA] at hs;omega
  have b1:0≤x.kind:=by omega
  have b2:x.kind.toNat<10:=by omega
  have b3:7≤70 - x.kind.toNat * 7:=by omega
  have hu:=XV (k:=x.kind) (by omega) (by omega)
  have e1:=NK x (kz x.kind) (by have:=hx.roles;omega) (by have:=hx.a;omega) (by have:=hx.b;omega)
  have e2:=wR x.left hx.l
  have e3:=wR x.right hx.r
  have e4:=DZ x.left hx.l
  have e5:=DZ x.right hx.r
  have hk9:x.kind=1∨x.kind=2∨x.kind=3∨x.kind=4∨x.kind=5∨x.kind=6∨x.kind=7∨x.kind=8∨x.kind=9:=by omega
  rw [hs,if_neg (by simp)]
  rcases Bool.eq_false_or_eq_true (Df x (kz x.kind)) with hn|hn
  ·rw [hn] at e1
   rw [hn,if_neg (by simp)]
   clear hn
   generalize hL:lI x.left=cl at e2 ⊢
   generalize hR:lI x.right=cr at e3 ⊢
   generalize uN x.left=bl at e4 ⊢
   generalize uN x.right=br at e5 ⊢
   clear hL hR hx hk
   rcases hk9 with k|k|k|k|k|k|k|k|k
   all_goals
    have d1:=dk 1 k
    have d2:=dk 2 k
    have d4:=dk 4 k
    have d8:=dk 8 k
    have kt:=congrArg (fun i=>Ob i cl cr bl br) k
    rw [kt]
    have ku:=congrArg kz k
    rw [ku] at hu e1
    clear ku k kt
    simp [kz] at hu
    simp [kz,Xx] at e1
    simp [Ob,kz]
    simp [af,je,hs,b1,b2,b3,KT,Oa,hu,e1,e2,e3,e4,e5,d1,d2,d4,d8]
    repeat' (first | (split<;>(try simp only [ay,aA,aB,aI,aJ])<;>(try simp [*])) | (simp only [ay,aA,aB,aI,aJ]<;>(try simp [*]))|omega)
  ·rw [hn] at e1
   rw [hn,if_pos rfl]
   generalize kz x.kind=u at hu e1
   simp [af,je,hs,b1,b2,b3,KT,Oa,hu,e1]
 ·rw [hs,if_pos rfl]
  simp [af,je,hs]
theorem Gx (x:Ax) (hx:x.Mid) (s:St) (cx:Ctx):ai P0 (.fn (.func gJ) [] []) [dD x] s cx=.ret (.i .i64 (jP x)) s:=Gy x hx.lng s cx
theorem zV (x:Ax) (hx:x.Few) (s:St) (cx:Ctx):ai P0 (.fn (.func gJ) [] []) [dD x] s cx=.ret (.i .i64 (jP x)) s:=Gx x hx.mid s cx
theorem Qn (k:Int) (s:St) (cx:Ctx):ai P0 (.fn (.func qW) [] []) [.i .i64 k] s cx=
  .ret (.tu [.b (kz k).l,.b (kz k).r,.b (kz k).role,.b (kz k).a,.b (kz k).b,.i .i64 (kz k).lo,.i .i64 (kz k).hi]) s:=by
 refine NI (by simp) ?_
 simp [af,tK,kz]
 repeat' (first | (split<;>(try simp only [ay,aA,aB,aI,aJ])<;>(try simp [*])) | (simp only [ay,aA,aB,aI,aJ]<;>(try simp [*]))|omega)
end Go.Ai.Z
namespace Go.Ai.Z
attribute [local simp] List.length_pos_iff
attribute [-simp] Fq
@[simp] theorem ZH (l:List UInt8) (s:St) (cx:Ctx):ai P0 (.fn (.func jL) [] []) [.s l] s cx=.ret (.b (vg l)) s:=Fq l s cx
theorem zy (s:St) (cx:Ctx) (z:Bool) (roles:List (List UInt8)) (hl:roles.length≤600) (cs:List AV) (hcs:cs[12]?=some (slf z (roles.map .s))) (l r a b:Bool):∀(rest:List (List UInt8)) (i:Nat),roles.drop i=rest→i≤roles.length→
  eX (au P0.glob (ai P0) cx false jb) [1,3,4,6,7,10] [(1,.bx cs),(3,.v (.b l)),(4,.v (.b r)),(6,.v (.b a)),(7,.v (.b b)),(10,.v (.i .i64 i))] s=
   if allPlain rest=true then .exit 0 [(1,.bx cs),(3,.v (.b l)),(4,.v (.b r)),(6,.v (.b a)),(7,.v (.b b)),(10,.v (.i .i64 roles.length)),(104,.v (.b false))] s else .ret [(2,.v (.i .i64 20))] s
 | [],i,h,hi=>by
  have h0:=drop_nil h
  obtain rfl:i=roles.length:=by omega
  refine aj fun K hK=>?_
  simp [jb,hcs,allPlain]
 | p::t,i,h,hi=>by
  obtain ⟨h1,h2,h3,h4⟩:=drop_cons h
  have h5:=h4 h3
  have hw:=wI (i:=i) (by omega)
  have ih:=zy s cx z roles hl cs hcs l r a b t (i+1) h2 (by omega)
  refine aj fun K hK=>?_
  rw [←hK,show ((i+1:Nat):Int)=(i:Int)+1 from rfl] at ih
  clear hK h4
  rcases Bool.eq_false_or_eq_true (kC p) with hin|hin <;>
   simp [jb,hcs,h3,h5,hw,ih,allPlain,hin]
set_option maxHeartbeats 4000000 in
theorem II (x:Ax) (hx:x.Few) (s:St) (cx:Ctx):ai P0 (.fn (.func lu) [] []) [dD x] s cx=.ret (.i .i64 (jP x)) s:=by
 refine Gp (by simp) ?_
 have e0:=Qn x.kind
 by_cases h1:x.kind<1
 ·have hs:lT x=false:=by simp [lT,zA,show ¬(1≤x.kind) by omega]
  unfold jP
  rw [hs,if_pos rfl]
  simp [af,jh,e0,h1]
 by_cases h9:9<x.kind
 ·have hs:lT x=false:=by simp [lT,zA,show ¬(x.kind≤9) by omega]
  unfold jP
  rw [hs,if_pos rfl]
  simp [af,jh,e0,h1,h9]
 have hk9:x.kind=1∨x.kind=2∨x.kind=3∨x.kind=4∨x.kind=5∨x.kind=6∨x.kind=7∨x.kind=8∨x.kind=9:=by omega
 have e2:=yj x.left (by have:=hx.l;omega)
 have e3:=yj x.right (by have:=hx.r;omega)
 have e4:lI x.left=0→∀(s:St) (cx:Ctx),ai P0 (.fn (.func jF) [] []) [bn x.left] s cx=.ret (.b (uN x.left)) s:=fun h=>
  JU x.left (by have:=hx.l;omega) (by unfold lI at h;split at h;cases h;exact h)
 have e5:lI x.right=0→∀(s:St) (cx:Ctx),ai P0 (.fn (.func jF) [] []) [bn x.right] s cx=.ret (.b (uN x.right)) s:=fun h=>
  JU x.right (by have:=hx.r;omega) (by unfold lI at h;split at h;cases h;exact h)
 have h:∀(cs:List AV) (l r a b:Bool),cs[12]?=some (slf x.z (x.roles.map .s))→eX (au P0.glob (ai P0) ⟨s.length,s.length⟩ false jb) [1,3,4,6,7,10] [(1,.bx cs),(3,.v (.b l)),(4,.v (.b r)),(6,.v (.b a)),(7,.v (.b b)),(10,.v (.i .i64 0))] s=
   if allPlain x.roles=true then .exit 0 [(1,.bx cs),(3,.v (.b l)),(4,.v (.b r)),(6,.v (.b a)),(7,.v (.b b)),(10,.v (.i .i64 x.roles.length)),(104,.v (.b false))] s else .ret [(2,.v (.i .i64 20))] s:=fun cs l r a b hcs=>
  zy s ⟨s.length,s.length⟩ x.z x.roles hx.roles cs hcs l r a b x.roles 0 rfl (by omega)
 unfold jP lT zA Df
 have q1:decide (1≤x.kind)=true:=by simp;omega
 have q9:decide (x.kind≤9)=true:=by simp;omega
 rw [q1,q9]
 clear q1 q9 hx
 rcases hk9 with k|k|k|k|k|k|k|k|k
 all_goals
  have d2:=dk 2 k
  have d3:=dk 3 k
  have kt:=congrArg (fun i=>Ob i (lI x.left) (lI x.right) (uN x.left) (uN x.right)) k
  have ku:=congrArg kz k
  rw [kt,ku]
  rw [ku] at e0
  clear ku kt k
  simp [kz] at e0
  generalize lI x.left=cl at e2 e4 ⊢
  generalize lI x.right=cr at e3 e5 ⊢
  generalize uN x.left=bl at e4 ⊢
  generalize uN x.right=br at e5 ⊢
  simp [Ob,kz]
  simp [af,jh,h1,h9,e0,e2,e3,d2,d3,h]
  repeat' (first | (split<;>(try simp only [ay,aA,aB,aI,aJ])<;>(try simp [*])) | (simp only [ay,aA,aB,aI,aJ]<;>(try simp [*]))|omega)
end Go.Ai.Z
namespace Go.Ai.Z
structure Ax.Ok (x:Ax):Prop where
 l:x.left.Ok
 r:x.right.Ok
 roles:x.roles.length≤1125899906842624
 rs:∀r∈x.roles,r.length≤1125899906842624
 role:x.role.length≤1125899906842624
 a:x.a.length≤1125899906842624
 b:x.b.length≤1125899906842624
theorem BP (z:Bool) (roles:List (List UInt8)) (cs:List AV) (hcs:cs[12]?=some (slf z (roles.map .s))) (hb:∀r∈roles,r.length≤1125899906842624):
  ∀(rest:List (List UInt8)) (i n:Nat),roles.drop i=rest→n≤20 * 1125899906842624+i * 1125899906842624→i≤100→
  ∃(v:Nat) (j:Int),(∀s cx,eX (au P0.glob (ai P0) cx false jJ) [1,3,4] [(1,.bx cs),(3,.v (.i .i64 n)),(4,.v (.i .i64 i))] s=
    .exit 0 [(1,.bx cs),(3,.v (.i .i64 v)),(4,.v (.i .i64 j)),(29,.v (.b false))] s)∧n≤v∧(roles.length≤100→∀r∈rest,r.length≤v)
 | [],i,n,h,hn,hi=>by
  have h1:¬i<roles.length:=Nat.not_lt.2 (drop_nil h)
  refine ⟨n,i,fun s cx=>aj fun K hK=>?_,Nat.le_refl _,fun _ r hr=>by cases hr⟩
  simp [jJ,hcs,h1]
 | p::r,i,n,h,hn,hi=>by
  obtain ⟨h1,h2,h3,h4⟩:=drop_cons h
  have h5:=h4 h3
  have hp:p∈roles:=by rw [←h5];exact List.getElem_mem h3
  have hbp:=hb p hp
  have hw:=wI (i:=i) (by omega)
  by_cases hi':i<100
  ·obtain ⟨v,j,ih,q1,q2⟩:=BP z roles cs hcs hb r (i+1) (n+p.length) h2 (by omega) (by omega)
   refine ⟨v,j,fun s cx=>aj fun K hK=>?_,by omega,fun hl y hy=>?_⟩
   ·have ih:=ih s cx
    rw [←hK,show ((i+1:Nat):Int)=(i:Int)+1 from rfl] at ih
    clear hK h4
    have w3:IntKind.i64.wrap ((n:Int)+p.length)=(n:Int)+p.length:=w64 (by omega) (by omega)
    have c1:((i:Int)<100):=by omega
    simp at ih
    simp [jJ,hcs,h3,h5,hw,w3,c1,ih]
   ·rcases List.mem_cons.1 hy with rfl|hy
    ·omega
    ·exact q2 hl y hy
  ·have c1:¬((i:Int)<100):=by omega
   refine ⟨n,i,fun s cx=>aj fun K hK=>?_,Nat.le_refl _,fun hl=>by omega⟩
   simp [jJ,hcs,h3,c1]
theorem Ld (x:Ax) (hx:x.Ok):∃b:Bool,(∀s cx,ai P0 (.fn (.func nT) [] []) [dD x] s cx=.ret (.b b) s)∧(b=true→x.Few):=by
 obtain ⟨ol,or,o1,o2,o3,o4,o5⟩:=hx
 obtain ⟨bl,el,hbl⟩:=MQ x.left ol
 obtain ⟨br,er,hbr⟩:=MQ x.right or
 obtain ⟨v,j,h,q1,q2⟩:=BP x.z x.roles (cellsA x) rfl o2 x.roles 0 (x.role.length+x.a.length+x.b.length+10 * x.roles.length) rfl (by omega) (by omega)
 refine ⟨decide (v≤600) && bl && br,fun s cx=>JC (by simp) ?_,fun hb=>?_⟩
 ·have h:=h s ⟨s.length,s.length⟩
  have w1:IntKind.i64.wrap ((x.role.length:Int)+x.a.length)=(x.role.length:Int)+x.a.length:=w64 (by omega) (by omega)
  have w2:IntKind.i64.wrap ((x.role.length:Int)+x.a.length+x.b.length)=(x.role.length:Int)+x.a.length+x.b.length:=w64 (by omega) (by omega)
  have w3:IntKind.i64.wrap (10 * (x.roles.length:Int))=10 * (x.roles.length:Int):=w64 (by omega) (by omega)
  have w4:IntKind.i64.wrap ((x.role.length:Int)+x.a.length+x.b.length+10 * x.roles.length)=(x.role.length:Int)+x.a.length+x.b.length+10 * x.roles.length:=w64 (by omega) (by omega)
  have c1:((v:Int)≤600)=(v≤600):=by simp;omega
  simp [cellsA] at h
  by_cases hv:v≤600<;>cases bl<;>cases br<;>simp [af,qA,w1,w2,w3,w4,h,el,er,c1,hv]
 ·simp only [Bool.and_eq_true,decide_eq_true_eq] at hb
  obtain ⟨⟨hv,h1⟩,h2⟩:=hb
  exact ⟨hbl h1,hbr h2,by omega,fun r hr=>by have:=q2 (by omega) r hr;omega,by omega,by omega,by omega⟩
theorem AA (z:Bool) (l:List Ax) (hl:l.length≤1000) (hx:∀x∈l,x.Ok):
  ∀(rest:List Ax) (i:Nat),l.drop i=rest→
  ∃(b:Bool) (j:Int),(∀s cx,eX (au P0.glob (ai P0) cx false jm) [0,5] [(0,.v (slf z (l.map dD))),(5,.v (.i .i64 i))] s=
    if b=true then .exit 0 [(0,.v (slf z (l.map dD))),(5,.v (.i .i64 j)),(13,.v (.b false))] s else .ret [(4,.v (.b false))] s)∧(b=true→∀x∈rest,x.Few)
 | [],i,h=>by
  have h1:¬i<l.length:=Nat.not_lt.2 (drop_nil h)
  refine ⟨true,i,fun s cx=>aj fun K hK=>?_,fun _ r hr=>by cases hr⟩
  simp [jm,h1]
 | p::r,i,h=>by
  obtain ⟨h1,h2,h3,h4⟩:=drop_cons h
  have h5:=h4 h3
  have hp:p∈l:=by rw [←h5];exact List.getElem_mem h3
  have hw:=wI (i:=i) (by omega)
  obtain ⟨b1,e1,f1⟩:=Ld p (hx p hp)
  cases b1 with
  | false=>
   refine ⟨false,i,fun s cx=>aj fun K hK=>?_,fun h=>by cases h⟩
   clear h4
   simp [jm,h3,h5,hw,e1]
  | true=>
   obtain ⟨b,j,ih,q⟩:=AA z l hl hx r (i+1) h2
   refine ⟨b,j,fun s cx=>aj fun K hK=>?_,fun hb y hy=>?_⟩
   ·have ih:=ih s cx
    rw [←hK,show ((i+1:Nat):Int)=(i:Int)+1 from rfl] at ih
    clear hK h4
    simp [jm,h3,h5,hw,e1,ih]
   ·rcases List.mem_cons.1 hy with rfl|hy
    ·exact f1 rfl
    ·exact q hb y hy
theorem IG (m:Nat) (hm:m≤1000) (z:Bool) (l:List Ax) (hl:l.length≤1125899906842624) (hx:∀x∈l,x.Ok):∃b:Bool,(∀s cx,ai P0 (.fn (.func mg) [] []) [slf z (l.map dD),.i .i64 m] s cx=.ret (.b b) s)∧(b=true→l.length≤m∧∀x∈l,x.Few):=by
 by_cases h:l.length≤m
 ·have c1:¬((m:Int)<l.length):=by omega
  obtain ⟨b,j,e,q⟩:=AA z l (by omega) hx l 0 rfl
  refine ⟨b,fun s cx=>zQ (by simp) ?_,fun hb=>⟨h,q hb⟩⟩
  simp at e
  cases b<;>simp [af,kX,c1,h,e]
 ·have c1:(m:Int)<l.length:=by omega
  refine ⟨false,fun s cx=>zQ (by simp) ?_,fun h=>by cases h⟩
  have c2:m<l.length:=by omega
  simp [af,kX,c1,c2]
end Go.Ai.Z
