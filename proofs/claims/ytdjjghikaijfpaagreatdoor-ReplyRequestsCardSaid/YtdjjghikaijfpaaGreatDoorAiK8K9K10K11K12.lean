/-
 Axioms: their data, and the first checks.
-/
import Derived.Test.YtdjjghikaijfpaaGreatDoorAiKGKHK5K6K7InjInj2Inj3Inj4KIT1KHQ
set_option maxRecDepth 100000
set_option linter.unusedSimpArgs false
set_option linter.unusedVariables false
set_option linter.unusedSectionVars false
namespace Go.Ai.Z
structure Ax where
 kind:Int
 op:Bool
 left:C
 right:C
 z:Bool
 roles:List (List UInt8)
 role:List UInt8
 a:List UInt8
 b:List UInt8
def cellsA (x:Ax):List AV:=[.i .i64 x.kind,.b x.op,.i .i64 x.left.kind,.s x.left.name,.i .i64 x.left.lo,.i .i64 x.left.hi,slf x.left.z (x.left.parts.map jR),
 .i .i64 x.right.kind,.s x.right.name,.i .i64 x.right.lo,.i .i64 x.right.hi,slf x.right.z (x.right.parts.map jR),slf x.z (x.roles.map .s),.s x.role,.s x.a,.s x.b]
def wH (x:Ax):AV:=.ag (cellsA x)
@[simp] theorem ah8 (x:Ax):(wH x).plain=wH x:=by simp [wH,cellsA]
@[simp] theorem aiz (x:Ax):(wH x).cells=[.i .i64 x.kind,.b x.op,.i .i64 x.left.kind,.s x.left.name,.i .i64 x.left.lo,.i .i64 x.left.hi,slf x.left.z (x.left.parts.map jR),
 .i .i64 x.right.kind,.s x.right.name,.i .i64 x.right.lo,.i .i64 x.right.hi,slf x.right.z (x.right.parts.map jR),slf x.z (x.roles.map .s),.s x.role,.s x.a,.s x.b]:=rfl
@[simp] theorem ajc (x:Ax):AV.ag [.i .i64 x.kind,.b x.op,.i .i64 x.left.kind,.s x.left.name,.i .i64 x.left.lo,.i .i64 x.left.hi,slf x.left.z (x.left.parts.map jR),
 .i .i64 x.right.kind,.s x.right.name,.i .i64 x.right.lo,.i .i64 x.right.hi,slf x.right.z (x.right.parts.map jR),slf x.z (x.roles.map .s),.s x.role,.s x.a,.s x.b]=wH x:=rfl
def emptyS (c:C):Bool:=decide (c.kind=0) && decide (c.name=[]) && decide (c.lo=0) && decide (c.hi=0) && decide ((c.parts.length:Int)=0)
@[simp] theorem adN (c:C) (s:St) (cx:Ctx):aj P0 (.fn (.func oD) [] []) [jR c] s cx=.ret (.b (emptyS c)) s:=by
 refine OW (by simp) ?_
 simp [af,uK,emptyS]
 repeat' (first | (split<;>(try simp only [dG,dH,dI,gQ,gU])<;>(try simp [*])) | (simp only [dG,dH,dI,gQ,gU]<;>(try simp [*]))|omega)
theorem o7 (l:List UInt8) (hl:l.length≤1152921504606846976) (s:St) (cx:Ctx):aj P0 (.fn (.func dO) [] []) [.s l] s cx=.ret (.i .i64 (if (jc l || Gg l)=true then 0 else 20)) s:=by
 refine La (by simp) ?_
 have e1:=BM l hl
 rcases Bool.eq_false_or_eq_true (jc l) with h1|h1<;>rcases Bool.eq_false_or_eq_true (Gg l) with h2|h2<;>simp [af,qY,e1,h1,h2]
structure Use where
 l:Bool
 r:Bool
 role:Bool
 a:Bool
 b:Bool
 lo:Int
 hi:Int
def yF (k:Int):Use:=
 if k=1 then ⟨true,true,false,false,false,0,0⟩ else if k=2 then ⟨true,true,false,false,false,0,0⟩ else if k=3 then ⟨true,true,false,false,false,0,0⟩
 else if k=4 then ⟨false,true,true,false,false,0,0⟩ else if k=5 then ⟨false,false,true,false,false,1,1⟩ else if k=6 then ⟨false,false,true,false,false,2,4⟩
 else if k=7 then ⟨false,false,true,false,false,0,0⟩ else if k=8 then ⟨false,true,false,true,false,0,0⟩ else if k=9 then ⟨false,false,true,true,true,0,0⟩ else ⟨false,false,false,false,false,0,0⟩
def aaN (u:Use):AV:=.ag [.b u.l,.b u.r,.b u.role,.b u.a,.b u.b,.i .i64 u.lo,.i .i64 u.hi]
@[simp] theorem ah5 (u:Use):(aaN u).plain=aaN u:=by simp [aaN]
@[simp] theorem aiw (u:Use):(aaN u).cells=[.b u.l,.b u.r,.b u.role,.b u.a,.b u.b,.i .i64 u.lo,.i .i64 u.hi]:=rfl
@[simp] theorem ai9 (u:Use):AV.ag [.b u.l,.b u.r,.b u.role,.b u.a,.b u.b,.i .i64 u.lo,.i .i64 u.hi]=aaN u:=rfl
def aac:List AV:=(P0.glob xX).getD []
theorem O5:P0.glob xX=some aac:=rfl
theorem RX:aac.length=70:=rfl
theorem aa9 {k:Int} (h1:1≤k) (h9:k≤9):(aac.drop (k.toNat * 7)).take 7=[.b (yF k).l,.b (yF k).r,.b (yF k).role,.b (yF k).a,.b (yF k).b,.i .i64 (yF k).lo,.i .i64 (yF k).hi]:=by
 have:k=1∨k=2∨k=3∨k=4∨k=5∨k=6∨k=7∨k=8∨k=9:=by omega
 rcases this with rfl|rfl|rfl|rfl|rfl|rfl|rfl|rfl|rfl<;>rfl
def KU (x:Ax):Bool:=decide (1≤x.kind) && decide (x.kind≤9)
def Ag (x:Ax):Bool:=KU x && ((yF x.kind).l || emptyS x.left) && ((yF x.kind).r || emptyS x.right) && ((yF x.kind).role || decide (x.role=[])) && ((yF x.kind).a || decide (x.a=[])) && ((yF x.kind).b || decide (x.b=[])) &&
 decide ((yF x.kind).lo≤x.roles.length) && decide ((x.roles.length:Int)≤(yF x.kind).hi)
set_option maxHeartbeats 2000000 in
@[simp] theorem adE (x:Ax) (s:St) (cx:Ctx):aj P0 (.fn (.func qH) [] []) [wH x] s cx=.ret (.b (Ag x)) s:=by
 refine MP (by simp) ?_
 by_cases h1:x.kind<1
 ·simp [af,lM,h1,Ag,KU,show ¬(1≤x.kind) by omega]
 by_cases h9:9<x.kind
 ·simp [af,lM,h1,h9,Ag,KU,show ¬(x.kind≤9) by omega]
 have b1:0≤x.kind:=by omega
 have b2:x.kind.toNat<10:=by omega
 have b3:7≤70 - x.kind.toNat * 7:=by omega
 have hu:=aa9 (k:=x.kind) (by omega) (by omega)
 have hk:KU x=true:=by simp [KU];omega
 unfold Ag
 rw [hk]
 have hk9:x.kind=1∨x.kind=2∨x.kind=3∨x.kind=4∨x.kind=5∨x.kind=6∨x.kind=7∨x.kind=8∨x.kind=9:=by omega
 clear hk
 rcases hk9 with k|k|k|k|k|k|k|k|k
 all_goals
  have ku:=congrArg yF k
  rw [ku] at hu ⊢
  clear ku k
  simp [yF] at hu ⊢
  simp [af,lM,h1,h9,b1,b2,b3,O5,RX,hu]
  clear hu b1 b2 b3 h1 h9
  repeat' (first | (split<;>(try simp only [dG,dH,dI,gQ,gU])<;>(try simp [*])) | (simp only [dG,dH,dI,gQ,gU]<;>(try simp [*]))|omega)
end Go.Ai.Z
namespace Go.Ai.Z
def allPlain:List (List UInt8)→Bool
 | []=>true
 | r::l=>jc r && allPlain l
def Jd (l:List UInt8):Bool:=jc l || Gg l
def Xx (x:Ax) (u:Use):Bool:=(!u.role || jc x.role) && (!u.a || Jd x.a) && (!u.b || Jd x.b) && allPlain x.roles
theorem FY (s:St) (cx:Ctx) (z:Bool) (l:List (List UInt8)) (hl:l.length≤1152921504606846976):∀(rest:List (List UInt8)) (i:Nat),l.drop i=rest→
  ∃j:Int,bF (ay P0.glob (aj P0) cx false pY) [36,37,38] [(36,.v (slf z (l.map .s))),(37,.v (.i .i64 l.length)),(38,.v (.i .i64 i))] s=
   if allPlain rest=true then .exit 0 [(36,.v (slf z (l.map .s))),(37,.v (.i .i64 l.length)),(38,.v (.i .i64 j)),(39,.v (.b false))] s else .ret [(4,.v (.b false))] s
 | [],i,h=>by
  have h1:¬i<l.length:=Nat.not_lt.2 (drop_nil h)
  refine ⟨i,ak fun K hK=>?_⟩
  simp [pY,h1,allPlain]
 | b::r,i,h=>by
  obtain ⟨h1,h2,h3,h4⟩:=drop_cons h
  have h5:=h4 h3
  have hw:=wI (i:=i) (by omega)
  obtain ⟨j,ih⟩:=FY s cx z l hl r (i+1) h2
  refine ⟨j,ak fun K hK=>?_⟩
  rw [←hK,show ((i+1:Nat):Int)=(i:Int)+1 from rfl] at ih
  clear hK h4
  rcases Bool.eq_false_or_eq_true (jc b) with hin|hin <;>
   simp [pY,h3,h5,hw,ih,allPlain,hin]
set_option maxHeartbeats 1000000 in
theorem Q8 (x:Ax) (u:Use) (hl:x.roles.length≤1152921504606846976) (ha:x.a.length≤1152921504606846976) (hb:x.b.length≤1152921504606846976) (s:St) (cx:Ctx):
  aj P0 (.fn (.func rW) [] []) [wH x,aaN u] s cx=.ret (.b (Xx x u)) s:=by
 refine OV (by simp) ?_
 obtain ⟨j,h⟩:=FY s ⟨s.length,s.length⟩ x.z x.roles hl x.roles 0 rfl
 have e1:∀(s:St) (cx:Ctx),aj P0 (.fn (.func dO) [] []) [.s x.a] s cx=.ret (.i .i64 (if Jd x.a=true then 0 else 20)) s:=o7 x.a ha
 have e2:∀(s:St) (cx:Ctx),aj P0 (.fn (.func dO) [] []) [.s x.b] s cx=.ret (.i .i64 (if Jd x.b=true then 0 else 20)) s:=o7 x.b hb
 simp at h
 unfold Xx
 generalize Jd x.a=pa at e1 ⊢
 generalize Jd x.b=pb at e2 ⊢
 cases pa<;>cases pb<;>simp only [if_true,Bool.false_eq_true,if_false] at e1 e2
 all_goals
  rcases Bool.eq_false_or_eq_true (allPlain x.roles) with hp|hp
  ·rw [hp,if_pos rfl] at h
   rw [hp]
   clear hp
   simp [af,qx,e1,e2]
   repeat' (first | (split<;>(try simp only [dG,dH,dI,gQ,gU])<;>(try simp [*])) | (simp only [dG,dH,dI,gQ,gU]<;>(try simp [*]))|omega)
  ·rw [hp,if_neg (by simp)] at h
   rw [hp]
   clear hp
   simp [af,qx,e1,e2]
   repeat' (first | (split<;>(try simp only [dG,dH,dI,gQ,gU])<;>(try simp [*])) | (simp only [dG,dH,dI,gQ,gU]<;>(try simp [*]))|omega)
mutual
def IY:C→Bool
 | .mk k _ _ _ _ ps=>if k=4 then true else if k=5 then BU ps else false
def BU:List C→Bool
 | []=>false
 | p::r=>IY p || BU r
end
theorem afF (c:C):IY c=if c.kind=4 then true else if c.kind=5 then BU c.parts else false:=by cases c;simp only [IY,C.agp,C.aeB];rfl
theorem Qa (s:St) (cx:Ctx) (z:Bool) (ps:List C) (hps:ps.length≤1152921504606846976)
  (ih:∀p∈ps,∀(s:St) (cx:Ctx),aj P0 (.fn (.func fA) [] []) [jR p] s cx=.ret (.b (IY p)) s):∀(rest:List C) (i:Nat),ps.drop i=rest→
  ∃j:Int,0≤j∧bF (ay P0.glob (aj P0) cx false aZ) [0,1,7,8] [(0,.v (slf z (ps.map jR))),(1,.v (.fn (.func fA) [] [])),(7,.v (.i .i64 ps.length)),(8,.v (.i .i64 i))] s=
   if BU rest=true then .ret [(4,.v (.i .i64 j))] s else .exit 0 [(0,.v (slf z (ps.map jR))),(1,.v (.fn (.func fA) [] [])),(7,.v (.i .i64 ps.length)),(8,.v (.i .i64 j)),(9,.v (.b false))] s
 | [],i,h=>by
  have h1:¬i<ps.length:=Nat.not_lt.2 (drop_nil h)
  refine ⟨i,by omega,ak fun K hK=>?_⟩
  simp [aZ,h1,BU]
 | p::r,i,h=>by
  obtain ⟨h1,h2,h3,h4⟩:=drop_cons h
  have h5:=h4 h3
  have hp:p∈ps:=by rw [←h5];exact List.getElem_mem h3
  have hw:=wI (i:=i) (by omega)
  have e1:=ih p hp
  rcases Bool.eq_false_or_eq_true (IY p) with hb|hb
  ·refine ⟨i,by omega,ak fun K hK=>?_⟩
   clear hK h4 ih
   simp [aZ,h3,h5,hw,e1,BU,hb]
  ·obtain ⟨j,hj,ih2⟩:=Qa s cx z ps hps ih r (i+1) h2
   refine ⟨j,hj,ak fun K hK=>?_⟩
   rw [←hK,show ((i+1:Nat):Int)=(i:Int)+1 from rfl] at ih2
   clear hK h4 ih
   simp [aZ,h3,h5,hw,e1,BU,hb,ih2]
theorem F8:∀(c:C),C.Lng c→∀(s:St) (cx:Ctx),aj P0 (.fn (.func fA) [] []) [jR c] s cx=.ret (.b (IY c)) s:=by
 refine C.ind' fun c ih hw s cx=>?_
 have hw':=hw
 have ihp:∀p∈c.parts,∀(s:St) (cx:Ctx),aj P0 (.fn (.func fA) [] []) [jR p] s cx=.ret (.b (IY p)) s:=fun p hp=>ih p hp (hw.sub p hp)
 have hI:∀(s:St) (cx:Ctx),∃j:Int,aj P0 (.fn (.func bK) [] []) [slf c.z (c.parts.map jR),.fn (.func fA) [] []] s cx=.ret (.i .i64 (if BU c.parts=true then j else -1)) s∧0≤j:=by
  intro s cx
  obtain ⟨j,hj,h⟩:=Qa s ⟨cx.lim,s.length⟩ c.z c.parts (by have:=hw.ps;omega) ihp c.parts 0 rfl
  refine ⟨j,qM (by simp) ?_,hj⟩
  simp at h
  rcases Bool.eq_false_or_eq_true (BU c.parts) with hb|hb<;>simp [af,dD,h,hb]
 have hC:∀(s:St) (cx:Ctx),aj P0 (.fn (.func bC) [] []) [slf c.z (c.parts.map jR),.fn (.func fA) [] []] s cx=.ret (.b (BU c.parts)) s:=by
  intro s cx
  obtain ⟨j,e1,hj⟩:=hI s ⟨cx.lim,s.length⟩
  refine pK (by simp) ?_
  rcases Bool.eq_false_or_eq_true (BU c.parts) with hb|hb<;>simp [hb] at e1<;>simp [af,cu,e1,hb,hj]
 refine QV (by simp) ?_
 rw [afF]
 by_cases k4:c.kind=4
 ·rw [if_pos k4];simp [af,oz,kd k4]
 ·by_cases k5:c.kind=5
  ·rw [if_neg k4,if_pos k5];simp [af,oz,k4,kd k5,hC]
  ·rw [if_neg k4,if_neg k5];simp [af,oz,k4,k5]
end Go.Ai.Z
namespace Go.Ai.Z
def ad2 (k cl cr:Int) (bl br:Bool):Int:=
 if (yF k).l=true∧cl≠0 then cl else if (yF k).r=true∧cr≠0 then cr
 else if (k=2∧(bl=true∨br=true))∨((k=1∨k=4∨k=8)∧br=true) then 22 else 0
def Az (x:Ax):Int:=
 if Ag x=false then 22 else if Xx x (yF x.kind)=false then 20 else ad2 x.kind (IA x.left) (IA x.right) (IY x.left) (IY x.right)
structure Ax.Few (x:Ax):Prop where
 l:wC x.left≤150
 r:wC x.right≤150
 roles:x.roles.length≤600
 rs:∀r∈x.roles,r.length≤600
 role:x.role.length≤600
 a:x.a.length≤600
 b:x.b.length≤600
structure Ax.Mid (x:Ax):Prop where
 l:wC x.left≤100000
 r:wC x.right≤100000
 roles:x.roles.length≤600
 a:x.a.length≤600
 b:x.b.length≤600
structure Ax.Lng (x:Ax):Prop where
 l:C.Lng x.left
 r:C.Lng x.right
 roles:x.roles.length≤1152921504606846976
 a:x.a.length≤1152921504606846976
 b:x.b.length≤1152921504606846976
theorem Ax.Mid.lng {x:Ax} (h:x.Mid):x.Lng:=⟨ahi _ h.l,ahi _ h.r,by have:=h.roles;omega,by have:=h.a;omega,by have:=h.b;omega⟩
theorem dk {x j:Int} (i:Int) (k:x=j):decide (x=i)=decide (j=i):=by subst k;rfl
set_option maxHeartbeats 2000000 in
theorem Ae (x:Ax) (hx:x.Lng) (s:St) (cx:Ctx):aj P0 (.fn (.func kM) [] []) [wH x] s cx=.ret (.i .i64 (Az x)) s:=by
 refine JM (by simp) ?_
 unfold Az
 rcases Bool.eq_false_or_eq_true (Ag x) with hs|hs
 ·have hk:1≤x.kind∧x.kind≤9:=by simp [Ag,KU] at hs;omega
  have b1:0≤x.kind:=by omega
  have b2:x.kind.toNat<10:=by omega
  have b3:7≤70 - x.kind.toNat * 7:=by omega
  have hu:=aa9 (k:=x.kind) (by omega) (by omega)
  have e1:=Q8 x (yF x.kind) (by have:=hx.roles;omega) (by have:=hx.a;omega) (by have:=hx.b;omega)
  have e2:=yC x.left hx.l
  have e3:=yC x.right hx.r
  have e4:=F8 x.left hx.l
  have e5:=F8 x.right hx.r
  have hk9:x.kind=1∨x.kind=2∨x.kind=3∨x.kind=4∨x.kind=5∨x.kind=6∨x.kind=7∨x.kind=8∨x.kind=9:=by omega
  rw [hs,if_neg (by simp)]
  rcases Bool.eq_false_or_eq_true (Xx x (yF x.kind)) with hn|hn
  ·rw [hn] at e1
   rw [hn,if_neg (by simp)]
   clear hn
   generalize hL:IA x.left=cl at e2 ⊢
   generalize hR:IA x.right=cr at e3 ⊢
   generalize IY x.left=bl at e4 ⊢
   generalize IY x.right=br at e5 ⊢
   clear hL hR hx hk
   rcases hk9 with k|k|k|k|k|k|k|k|k
   all_goals
    have d1:=dk 1 k
    have d2:=dk 2 k
    have d4:=dk 4 k
    have d8:=dk 8 k
    have kt:=congrArg (fun i=>ad2 i cl cr bl br) k
    rw [kt]
    have ku:=congrArg yF k
    rw [ku] at hu e1
    clear ku k kt
    simp [yF] at hu
    simp [yF,aaN] at e1
    simp [ad2,yF]
    simp [af,jI,hs,b1,b2,b3,O5,RX,hu,e1,e2,e3,e4,e5,d1,d2,d4,d8]
    repeat' (first | (split<;>(try simp only [dG,dH,dI,gQ,gU])<;>(try simp [*])) | (simp only [dG,dH,dI,gQ,gU]<;>(try simp [*]))|omega)
  ·rw [hn] at e1
   rw [hn,if_pos rfl]
   generalize yF x.kind=u at hu e1
   simp [af,jI,hs,b1,b2,b3,O5,RX,hu,e1]
 ·rw [hs,if_pos rfl]
  simp [af,jI,hs]
end Go.Ai.Z
namespace Go.Ai.Z
attribute [local simp] List.length_pos_iff
end Go.Ai.Z
namespace Go.Ai.Z
structure Ax.Ok (x:Ax):Prop where
 l:x.left.Ok
 r:x.right.Ok
 roles:x.roles.length≤1125899906842624
 rs:∀r∈x.roles,r.length≤1125899906842624
 role:x.role.length≤1125899906842624
 a:x.a.length≤1125899906842624
 b:x.b.length≤1125899906842624
end Go.Ai.Z
