/-
 Axioms: their data, and the first checks.
-/
import Derived.Test.YtcofenimejmoeaaGreatDoorAiK5K6K7
set_option maxRecDepth 100000
set_option linter.unusedSimpArgs false
set_option linter.unusedVariables false
set_option linter.unusedSectionVars false
namespace Go.Ai.Z
structure Ax where
 kind:Int
 op:Bool
 left:C
 right:C
 z:Bool
 roles:List Rl
 role:Rl
 a:Rl
 b:Rl
def cellsA (x:Ax):List AV:=[.i .i64 x.kind,.b x.op,.i .i64 x.left.kind,.s x.left.name,.i .i64 x.left.lo,.i .i64 x.left.hi,slf x.left.z (x.left.parts.map aJ),
 .i .i64 x.right.kind,.s x.right.name,.i .i64 x.right.lo,.i .i64 x.right.hi,slf x.right.z (x.right.parts.map aJ),slf x.z (x.roles.map .s),.s x.role,.s x.a,.s x.b]
def cu (x:Ax):AV:=.ag (cellsA x)
@[simp] theorem ahI (x:Ax):(cu x).plain=cu x:=by simp [cu,cellsA]
@[simp] theorem aid (x:Ax):(cu x).cells=[.i .i64 x.kind,.b x.op,.i .i64 x.left.kind,.s x.left.name,.i .i64 x.left.lo,.i .i64 x.left.hi,slf x.left.z (x.left.parts.map aJ),
 .i .i64 x.right.kind,.s x.right.name,.i .i64 x.right.lo,.i .i64 x.right.hi,slf x.right.z (x.right.parts.map aJ),slf x.z (x.roles.map .s),.s x.role,.s x.a,.s x.b]:=rfl
@[simp] theorem acf (x:Ax):AV.ag [.i .i64 x.kind,.b x.op,.i .i64 x.left.kind,.s x.left.name,.i .i64 x.left.lo,.i .i64 x.left.hi,slf x.left.z (x.left.parts.map aJ),
 .i .i64 x.right.kind,.s x.right.name,.i .i64 x.right.lo,.i .i64 x.right.hi,slf x.right.z (x.right.parts.map aJ),slf x.z (x.roles.map .s),.s x.role,.s x.a,.s x.b]=cu x:=rfl
def emptyS (c:C):Bool:=decide (c.kind=0) && decide (c.name=[]) && decide (c.lo=0) && decide (c.hi=0) && decide ((c.parts.length:Int)=0)
@[simp] theorem acH (c:C) (s:St) (cx:Ctx):aj P0 (.fn (.func oO) [] []) [aJ c] s cx=.ret (.b (emptyS c)) s:=by
 refine MZ (by simp) ?_;simp [af,vk,emptyS]
 repeat' (first | (split<;>(try simp only [fZ,gm,gy,kz,kC])<;>(try simp [*])) | (simp only [fZ,gm,gy,kz,kC]<;>(try simp [*]))|omega)
theorem BV (l:Rl) (hl:l.length≤1152921504606846976) (s:St) (cx:Ctx):aj P0 (.fn (.func jK) [] []) [.s l] s cx=.ret (.i .i64 (if (oJ l || L6 l)=true then 0 else 20)) s:=by
 refine Js (by simp) ?_;have e1:=Bc l hl
 rcases Bool.eq_false_or_eq_true (oJ l) with h1|h1<;>rcases Bool.eq_false_or_eq_true (L6 l) with h2|h2<;>simp [af,rX,e1,h1,h2]
structure Use where
 l:Bool
 r:Bool
 role:Bool
 a:Bool
 b:Bool
 lo:Int
 hi:Int
def kF (k:Int):Use:=
 if k=1 then ⟨true,true,false,false,false,0,0⟩ else if k=2 then ⟨true,true,false,false,false,0,0⟩ else if k=3 then ⟨true,true,false,false,false,0,0⟩
 else if k=4 then ⟨false,true,true,false,false,0,0⟩ else if k=5 then ⟨false,false,true,false,false,1,1⟩ else if k=6 then ⟨false,false,true,false,false,2,4⟩
 else if k=7 then ⟨false,false,true,false,false,0,0⟩ else if k=8 then ⟨false,true,false,true,false,0,0⟩ else if k=9 then ⟨false,false,true,true,true,0,0⟩ else ⟨false,false,false,false,false,0,0⟩
def Zu (u:Use):AV:=.ag [.b u.l,.b u.r,.b u.role,.b u.a,.b u.b,.i .i64 u.lo,.i .i64 u.hi]
@[simp] theorem ahG (u:Use):(Zu u).plain=Zu u:=by simp [Zu]
@[simp] theorem aib (u:Use):(Zu u).cells=[.b u.l,.b u.r,.b u.role,.b u.a,.b u.b,.i .i64 u.lo,.i .i64 u.hi]:=rfl
@[simp] theorem aiT (u:Use):AV.ag [.b u.l,.b u.r,.b u.role,.b u.a,.b u.b,.i .i64 u.lo,.i .i64 u.hi]=Zu u:=rfl
def YI:List AV:=(P0.glob yc).getD []
theorem Nj:P0.glob yc=some YI:=rfl
theorem P5:YI.length=70:=rfl
theorem ZX {k:Int} (h1:1≤k) (h9:k≤9):(YI.drop (k.toNat * 7)).take 7=[.b (kF k).l,.b (kF k).r,.b (kF k).role,.b (kF k).a,.b (kF k).b,.i .i64 (kF k).lo,.i .i64 (kF k).hi]:=by
 have:k=1∨k=2∨k=3∨k=4∨k=5∨k=6∨k=7∨k=8∨k=9:=by omega
 rcases this with rfl|rfl|rfl|rfl|rfl|rfl|rfl|rfl|rfl<;>rfl
def CJ (x:Ax):Bool:=decide (1≤x.kind) && decide (x.kind≤9)
def oV (x:Ax):Bool:=CJ x && ((kF x.kind).l || emptyS x.left) && ((kF x.kind).r || emptyS x.right) && ((kF x.kind).role || decide (x.role=[])) && ((kF x.kind).a || decide (x.a=[])) && ((kF x.kind).b || decide (x.b=[])) &&
 decide ((kF x.kind).lo≤x.roles.length) && decide ((x.roles.length:Int)≤(kF x.kind).hi)
set_option maxHeartbeats 2000000 in
@[simp] theorem acA (x:Ax) (s:St) (cx:Ctx):aj P0 (.fn (.func qR) [] []) [cu x] s cx=.ret (.b (oV x)) s:=by
 refine KU (by simp) ?_;by_cases h1:x.kind<1
 ·simp [af,mO,h1,oV,CJ,show ¬(1≤x.kind) by omega]
 by_cases h9:9<x.kind
 ·simp [af,mO,h1,h9,oV,CJ,show ¬(x.kind≤9) by omega]
 have b1:0≤x.kind:=by omega
 have b2:x.kind.toNat<10:=by omega
 have b3:7≤70 - x.kind.toNat * 7:=by omega
 have hu:=ZX (k:=x.kind) (by omega) (by omega);have hk:CJ x=true:=by simp [CJ];omega
 unfold oV;rw [hk];have hk9:x.kind=1∨x.kind=2∨x.kind=3∨x.kind=4∨x.kind=5∨x.kind=6∨x.kind=7∨x.kind=8∨x.kind=9:=by omega
 clear hk;rcases hk9 with k|k|k|k|k|k|k|k|k
 all_goals
  have ku:=congrArg kF k;rw [ku] at hu ⊢;clear ku k;simp [kF] at hu ⊢;simp [af,mO,h1,h9,b1,b2,b3,Nj,P5,hu];clear hu b1 b2 b3 h1 h9
  repeat' (first | (split<;>(try simp only [fZ,gm,gy,kz,kC])<;>(try simp [*])) | (simp only [fZ,gm,gy,kz,kC]<;>(try simp [*]))|omega)
end Go.Ai.Z
namespace Go.Ai.Z
def allPlain:List Rl→Bool
 | []=>true
 | r::l=>oJ r && allPlain l
def y5 (l:Rl):Bool:=oJ l || L6 l
def CB (x:Ax) (u:Use):Bool:=(!u.role || oJ x.role) && (!u.a || y5 x.a) && (!u.b || y5 x.b) && allPlain x.roles
theorem EJ (s:St) (cx:Ctx) (z:Bool) (l:List Rl) (hl:l.length≤1152921504606846976):∀(rest:List Rl) (i:Nat),l.drop i=rest→
  ∃j:Int,gQ (aB P0.glob (aj P0) cx false qx) [36,37,38] [(36,.v (slf z (l.map .s))),(37,.v (.i .i64 l.length)),(38,.v (.i .i64 i))] s=
   if allPlain rest=true then .exit 0 [(36,.v (slf z (l.map .s))),(37,.v (.i .i64 l.length)),(38,.v (.i .i64 j)),(39,.v (.b false))] s else .ret [(4,.v (.b false))] s
 | [],i,h=>by
  have h1:¬i<l.length:=Nat.not_lt.2 (drop_nil h);refine ⟨i,ak fun K hK=>?_⟩;simp [qx,h1,allPlain]
 | b::r,i,h=>by
  obtain ⟨h1,h2,h3,h4⟩:=drop_cons h;have h5:=h4 h3;have hw:=wI (i:=i) (by omega);obtain ⟨j,ih⟩:=EJ s cx z l hl r (i+1) h2;refine ⟨j,ak fun K hK=>?_⟩;rw [←hK,show ((i+1:Nat):Int)=(i:Int)+1 from rfl] at ih;clear hK h4
  rcases Bool.eq_false_or_eq_true (oJ b) with hin|hin <;>
   simp [qx,h3,h5,hw,ih,allPlain,hin]
set_option maxHeartbeats 1000000 in
theorem Pm (x:Ax) (u:Use) (hl:x.roles.length≤1152921504606846976) (ha:x.a.length≤1152921504606846976) (hb:x.b.length≤1152921504606846976) (s:St) (cx:Ctx):
  aj P0 (.fn (.func sW) [] []) [cu x,Zu u] s cx=.ret (.b (CB x u)) s:=by
 refine MX (by simp) ?_;obtain ⟨j,h⟩:=EJ s ⟨s.length,s.length⟩ x.z x.roles hl x.roles 0 rfl;have e1:∀(s:St) (cx:Ctx),aj P0 (.fn (.func jK) [] []) [.s x.a] s cx=.ret (.i .i64 (if y5 x.a=true then 0 else 20)) s:=BV x.a ha;have e2:∀(s:St) (cx:Ctx),aj P0 (.fn (.func jK) [] []) [.s x.b] s cx=.ret (.i .i64 (if y5 x.b=true then 0 else 20)) s:=BV x.b hb;simp at h;unfold CB;generalize y5 x.a=pa at e1 ⊢;generalize y5 x.b=pb at e2 ⊢
 cases pa<;>cases pb<;>simp only [if_true,Bool.false_eq_true,if_false] at e1 e2
 all_goals
  rcases Bool.eq_false_or_eq_true (allPlain x.roles) with hp|hp
  ·rw [hp,if_pos rfl] at h;rw [hp];clear hp;simp [af,qG,e1,e2]
   repeat' (first | (split<;>(try simp only [fZ,gm,gy,kz,kC])<;>(try simp [*])) | (simp only [fZ,gm,gy,kz,kC]<;>(try simp [*]))|omega)
  ·rw [hp,if_neg (by simp)] at h;rw [hp];clear hp;simp [af,qG,e1,e2]
   repeat' (first | (split<;>(try simp only [fZ,gm,gy,kz,kC])<;>(try simp [*])) | (simp only [fZ,gm,gy,kz,kC]<;>(try simp [*]))|omega)
mutual
def Bf:C→Bool
 | .mk k _ _ _ _ ps=>if k=4 then true else if k=5 then x9 ps else false
def x9:List C→Bool
 | []=>false
 | p::r=>Bf p || x9 r
end
theorem Sz (c:C):Bf c=if c.kind=4 then true else if c.kind=5 then x9 c.parts else false:=by cases c;simp only [Bf,C.Ed,C.Df];rfl
theorem Ol (s:St) (cx:Ctx) (z:Bool) (ps:List C) (hps:ps.length≤1152921504606846976)
  (ih:∀p∈ps,∀(s:St) (cx:Ctx),aj P0 (.fn (.func fM) [] []) [aJ p] s cx=.ret (.b (Bf p)) s):∀(rest:List C) (i:Nat),ps.drop i=rest→
  ∃j:Int,0≤j∧gQ (aB P0.glob (aj P0) cx false bI) [0,1,7,8] [(0,.v (slf z (ps.map aJ))),(1,.v (.fn (.func fM) [] [])),(7,.v (.i .i64 ps.length)),(8,.v (.i .i64 i))] s=
   if x9 rest=true then .ret [(4,.v (.i .i64 j))] s else .exit 0 [(0,.v (slf z (ps.map aJ))),(1,.v (.fn (.func fM) [] [])),(7,.v (.i .i64 ps.length)),(8,.v (.i .i64 j)),(9,.v (.b false))] s
 | [],i,h=>by
  have h1:¬i<ps.length:=Nat.not_lt.2 (drop_nil h);refine ⟨i,by omega,ak fun K hK=>?_⟩;simp [bI,h1,x9]
 | p::r,i,h=>by
  obtain ⟨h1,h2,h3,h4⟩:=drop_cons h;have h5:=h4 h3;have hp:p∈ps:=by rw [←h5];exact List.getElem_mem h3
  have hw:=wI (i:=i) (by omega);have e1:=ih p hp;rcases Bool.eq_false_or_eq_true (Bf p) with hb|hb
  ·refine ⟨i,by omega,ak fun K hK=>?_⟩;clear hK h4 ih;simp [bI,h3,h5,hw,e1,x9,hb]
  ·obtain ⟨j,hj,ih2⟩:=Ol s cx z ps hps ih r (i+1) h2;refine ⟨j,hj,ak fun K hK=>?_⟩;rw [←hK,show ((i+1:Nat):Int)=(i:Int)+1 from rfl] at ih2;clear hK h4 ih;simp [bI,h3,h5,hw,e1,x9,hb,ih2]
theorem EN:∀(c:C),C.Lng c→∀(s:St) (cx:Ctx),aj P0 (.fn (.func fM) [] []) [aJ c] s cx=.ret (.b (Bf c)) s:=by
 refine C.ind' fun c ih hw s cx=>?_;have hw':=hw;have ihp:∀p∈c.parts,∀(s:St) (cx:Ctx),aj P0 (.fn (.func fM) [] []) [aJ p] s cx=.ret (.b (Bf p)) s:=fun p hp=>ih p hp (hw.sub p hp)
 have hI:∀(s:St) (cx:Ctx),∃j:Int,aj P0 (.fn (.func cO) [] []) [slf c.z (c.parts.map aJ),.fn (.func fM) [] []] s cx=.ret (.i .i64 (if x9 c.parts=true then j else -1)) s∧0≤j:=by
  intro s cx;obtain ⟨j,hj,h⟩:=Ol s ⟨cx.lim,s.length⟩ c.z c.parts (by have:=hw.ps;omega) ihp c.parts 0 rfl;refine ⟨j,rq (by simp) ?_,hj⟩;simp at h
  rcases Bool.eq_false_or_eq_true (x9 c.parts) with hb|hb<;>simp [af,dR,h,hb]
 have hC:∀(s:St) (cx:Ctx),aj P0 (.fn (.func bQ) [] []) [slf c.z (c.parts.map aJ),.fn (.func fM) [] []] s cx=.ret (.b (x9 c.parts)) s:=by
  intro s cx;obtain ⟨j,e1,hj⟩:=hI s ⟨cx.lim,s.length⟩;refine pX (by simp) ?_
  rcases Bool.eq_false_or_eq_true (x9 c.parts) with hb|hb<;>simp [hb] at e1<;>simp [af,dI,e1,hb,hj]
 refine O9 (by simp) ?_;rw [Sz];by_cases k4:c.kind=4
 ·rw [if_pos k4];simp [af,oM,kd k4]
 ·by_cases k5:c.kind=5
  ·rw [if_neg k4,if_pos k5];simp [af,oM,k4,kd k5,hC]
  ·rw [if_neg k4,if_neg k5];simp [af,oM,k4,k5]
end Go.Ai.Z
namespace Go.Ai.Z
def Uf (k cl cr:Int) (bl br:Bool):Int:=
 if (kF k).l=true∧cl≠0 then cl else if (kF k).r=true∧cr≠0 then cr
 else if (k=2∧(bl=true∨br=true))∨((k=1∨k=4∨k=8)∧br=true) then 22 else 0
def iR (x:Ax):Int:=
 if oV x=false then 22 else if CB x (kF x.kind)=false then 20 else Uf x.kind (uP x.left) (uP x.right) (Bf x.left) (Bf x.right)
structure Ax.Few (x:Ax):Prop where
 l:wC x.left≤150
 r:wC x.right≤150
 roles:x.roles.length≤600
 rs:∀r∈x.roles,r.length≤600
 role:x.role.length≤600
 a:x.a.length≤600
 b:x.b.length≤600
structure Ax.Mid (x:Ax):Prop where
 l:wC x.left≤100000
 r:wC x.right≤100000
 roles:x.roles.length≤600
 a:x.a.length≤600
 b:x.b.length≤600
theorem Ax.Few.mid {x:Ax} (h:x.Few):x.Mid:=⟨by have:=h.l;omega,by have:=h.r;omega,h.roles,h.a,h.b⟩
structure Ax.Lng (x:Ax):Prop where
 l:C.Lng x.left
 r:C.Lng x.right
 roles:x.roles.length≤1152921504606846976
 a:x.a.length≤1152921504606846976
 b:x.b.length≤1152921504606846976
theorem Ax.Mid.lng {x:Ax} (h:x.Mid):x.Lng:=⟨ag2 _ h.l,ag2 _ h.r,by have:=h.roles;omega,by have:=h.a;omega,by have:=h.b;omega⟩
theorem dk {x j:Int} (i:Int) (k:x=j):decide (x=i)=decide (j=i):=by subst k;rfl
set_option maxHeartbeats 2000000 in
theorem zT (x:Ax) (hx:x.Lng) (s:St) (cx:Ctx):aj P0 (.fn (.func jq) [] []) [cu x] s cx=.ret (.i .i64 (iR x)) s:=by
 refine HY (by simp) ?_;unfold iR;rcases Bool.eq_false_or_eq_true (oV x) with hs|hs
 ·have hk:1≤x.kind∧x.kind≤9:=by simp [oV,CJ] at hs;omega
  have b1:0≤x.kind:=by omega
  have b2:x.kind.toNat<10:=by omega
  have b3:7≤70 - x.kind.toNat * 7:=by omega
  have hu:=ZX (k:=x.kind) (by omega) (by omega);have e1:=Pm x (kF x.kind) (by have:=hx.roles;omega) (by have:=hx.a;omega) (by have:=hx.b;omega);have e2:=yC x.left hx.l;have e3:=yC x.right hx.r;have e4:=EN x.left hx.l;have e5:=EN x.right hx.r;have hk9:x.kind=1∨x.kind=2∨x.kind=3∨x.kind=4∨x.kind=5∨x.kind=6∨x.kind=7∨x.kind=8∨x.kind=9:=by omega
  rw [hs,if_neg (by simp)];rcases Bool.eq_false_or_eq_true (CB x (kF x.kind)) with hn|hn
  ·rw [hn] at e1;rw [hn,if_neg (by simp)];clear hn;generalize hL:uP x.left=cl at e2 ⊢;generalize hR:uP x.right=cr at e3 ⊢;generalize Bf x.left=bl at e4 ⊢;generalize Bf x.right=br at e5 ⊢;clear hL hR hx hk;rcases hk9 with k|k|k|k|k|k|k|k|k
   all_goals
    have d1:=dk 1 k;have d2:=dk 2 k;have d4:=dk 4 k;have d8:=dk 8 k;have kt:=congrArg (fun i=>Uf i cl cr bl br) k;rw [kt];have ku:=congrArg kF k;rw [ku] at hu e1;clear ku k kt;simp [kF] at hu;simp [kF,Zu] at e1;simp [Uf,kF];simp [af,kZ,hs,b1,b2,b3,Nj,P5,hu,e1,e2,e3,e4,e5,d1,d2,d4,d8]
    repeat' (first | (split<;>(try simp only [fZ,gm,gy,kz,kC])<;>(try simp [*])) | (simp only [fZ,gm,gy,kz,kC]<;>(try simp [*]))|omega)
  ·rw [hn] at e1;rw [hn,if_pos rfl];generalize kF x.kind=u at hu e1;simp [af,kZ,hs,b1,b2,b3,Nj,P5,hu,e1]
 ·rw [hs,if_pos rfl];simp [af,kZ,hs]
theorem Ij (x:Ax) (hx:x.Mid) (s:St) (cx:Ctx):aj P0 (.fn (.func jq) [] []) [cu x] s cx=.ret (.i .i64 (iR x)) s:=zT x hx.lng s cx
theorem Bd (x:Ax) (hx:x.Few) (s:St) (cx:Ctx):aj P0 (.fn (.func jq) [] []) [cu x] s cx=.ret (.i .i64 (iR x)) s:=Ij x hx.mid s cx
end Go.Ai.Z
namespace Go.Ai.Z
attribute [local simp] List.length_pos_iff
end Go.Ai.Z
namespace Go.Ai.Z
structure Ax.Ok (x:Ax):Prop where
 l:x.left.Ok
 r:x.right.Ok
 roles:x.roles.length≤1125899906842624
 rs:∀r∈x.roles,r.length≤1125899906842624
 role:x.role.length≤1125899906842624
 a:x.a.length≤1125899906842624
 b:x.b.length≤1125899906842624
theorem Du (z:Bool) (roles:List Rl) (cs:List AV) (hcs:cs[12]?=some (slf z (roles.map .s))) (hb:∀r∈roles,r.length≤1125899906842624):
  ∀(rest:List Rl) (i n:Nat),roles.drop i=rest→n≤20 * 1125899906842624+i * 1125899906842624→i≤100→
  ∃(v:Nat) (j:Int),(∀s cx,gQ (aB P0.glob (aj P0) cx false mF) [1,3,4] [(1,.bx cs),(3,.v (.i .i64 n)),(4,.v (.i .i64 i))] s=
    .exit 0 [(1,.bx cs),(3,.v (.i .i64 v)),(4,.v (.i .i64 j)),(29,.v (.b false))] s)∧n≤v∧(roles.length≤100→∀r∈rest,r.length≤v)
 | [],i,n,h,hn,hi=>by
  have h1:¬i<roles.length:=Nat.not_lt.2 (drop_nil h);refine ⟨n,i,fun s cx=>ak fun K hK=>?_,Nat.le_refl _,fun _ r hr=>by cases hr⟩;simp [mF,hcs,h1]
 | p::r,i,n,h,hn,hi=>by
  obtain ⟨h1,h2,h3,h4⟩:=drop_cons h;have h5:=h4 h3;have hp:p∈roles:=by rw [←h5];exact List.getElem_mem h3
  have hbp:=hb p hp;have hw:=wI (i:=i) (by omega);by_cases hi':i<100
  ·obtain ⟨v,j,ih,q1,q2⟩:=Du z roles cs hcs hb r (i+1) (n+p.length) h2 (by omega) (by omega);refine ⟨v,j,fun s cx=>ak fun K hK=>?_,by omega,fun hl y hy=>?_⟩
   ·have ih:=ih s cx;rw [←hK,show ((i+1:Nat):Int)=(i:Int)+1 from rfl] at ih;clear hK h4;have w3:IntKind.i64.wrap ((n:Int)+p.length)=(n:Int)+p.length:=w64 (by omega) (by omega);have c1:((i:Int)<100):=by omega
    simp at ih;simp [mF,hcs,h3,h5,hw,w3,c1,ih]
   ·rcases List.mem_cons.1 hy with rfl|hy
    ·omega
    ·exact q2 hl y hy
  ·have c1:¬((i:Int)<100):=by omega
   refine ⟨n,i,fun s cx=>ak fun K hK=>?_,Nat.le_refl _,fun hl=>by omega⟩;simp [mF,hcs,h3,c1]
theorem Nu (x:Ax) (hx:x.Ok):∃b:Bool,(∀s cx,aj P0 (.fn (.func qV) [] []) [cu x] s cx=.ret (.b b) s)∧(b=true→x.Few):=by
 obtain ⟨ol,or,o1,o2,o3,o4,o5⟩:=hx;obtain ⟨bl,el,hbl⟩:=OD x.left ol;obtain ⟨br,er,hbr⟩:=OD x.right or;obtain ⟨v,j,h,q1,q2⟩:=Du x.z x.roles (cellsA x) rfl o2 x.roles 0 (x.role.length+x.a.length+x.b.length+10 * x.roles.length) rfl (by omega) (by omega);refine ⟨decide (v≤600) && bl && br,fun s cx=>KY (by simp) ?_,fun hb=>?_⟩
 ·have h:=h s ⟨s.length,s.length⟩;have w1:IntKind.i64.wrap ((x.role.length:Int)+x.a.length)=(x.role.length:Int)+x.a.length:=w64 (by omega) (by omega);have w2:IntKind.i64.wrap ((x.role.length:Int)+x.a.length+x.b.length)=(x.role.length:Int)+x.a.length+x.b.length:=w64 (by omega) (by omega);have w3:IntKind.i64.wrap (10 * (x.roles.length:Int))=10 * (x.roles.length:Int):=w64 (by omega) (by omega);have w4:IntKind.i64.wrap ((x.role.length:Int)+x.a.length+x.b.length+10 * x.roles.length)=(x.role.length:Int)+x.a.length+x.b.length+10 * x.roles.length:=w64 (by omega) (by omega);have c1:((v:Int)≤600)=(v≤600):=by simp;omega
  simp [cellsA] at h
  by_cases hv:v≤600<;>cases bl<;>cases br<;>simp [af,uj,w1,w2,w3,w4,h,el,er,c1,hv]
 ·simp only [Bool.and_eq_true,decide_eq_true_eq] at hb;obtain ⟨⟨hv,h1⟩,h2⟩:=hb;exact ⟨hbl h1,hbr h2,by omega,fun r hr=>by have:=q2 (by omega) r hr;omega,by omega,by omega,by omega⟩
theorem BL (z:Bool) (l:List Ax) (hl:l.length≤1000) (hx:∀x∈l,x.Ok):
  ∀(rest:List Ax) (i:Nat),l.drop i=rest→
  ∃(b:Bool) (j:Int),(∀s cx,gQ (aB P0.glob (aj P0) cx false lJ) [0,5] [(0,.v (slf z (l.map cu))),(5,.v (.i .i64 i))] s=
    if b=true then .exit 0 [(0,.v (slf z (l.map cu))),(5,.v (.i .i64 j)),(13,.v (.b false))] s else .ret [(4,.v (.b false))] s)∧(b=true→∀x∈rest,x.Few)
 | [],i,h=>by
  have h1:¬i<l.length:=Nat.not_lt.2 (drop_nil h);refine ⟨true,i,fun s cx=>ak fun K hK=>?_,fun _ r hr=>by cases hr⟩;simp [lJ,h1]
 | p::r,i,h=>by
  obtain ⟨h1,h2,h3,h4⟩:=drop_cons h;have h5:=h4 h3;have hp:p∈l:=by rw [←h5];exact List.getElem_mem h3
  have hw:=wI (i:=i) (by omega);obtain ⟨b1,e1,f1⟩:=Nu p (hx p hp)
  cases b1 with
  | false=>
   refine ⟨false,i,fun s cx=>ak fun K hK=>?_,fun h=>by cases h⟩;clear h4;simp [lJ,h3,h5,hw,e1]
  | true=>
   obtain ⟨b,j,ih,q⟩:=BL z l hl hx r (i+1) h2;refine ⟨b,j,fun s cx=>ak fun K hK=>?_,fun hb y hy=>?_⟩
   ·have ih:=ih s cx;rw [←hK,show ((i+1:Nat):Int)=(i:Int)+1 from rfl] at ih;clear hK h4;simp [lJ,h3,h5,hw,e1,ih]
   ·rcases List.mem_cons.1 hy with rfl|hy
    ·exact f1 rfl
    ·exact q hb y hy
theorem JM (m:Nat) (hm:m≤1000) (z:Bool) (l:List Ax) (hl:l.length≤1125899906842624) (hx:∀x∈l,x.Ok):∃b:Bool,(∀s cx,aj P0 (.fn (.func pG) [] []) [slf z (l.map cu),.i .i64 m] s cx=.ret (.b b) s)∧(b=true→l.length≤m∧∀x∈l,x.Few):=by
 by_cases h:l.length≤m
 ·have c1:¬((m:Int)<l.length):=by omega
  obtain ⟨b,j,e,q⟩:=BL z l (by omega) hx l 0 rfl;refine ⟨b,fun s cx=>AZ (by simp) ?_,fun hb=>⟨h,q hb⟩⟩;simp at e
  cases b<;>simp [af,oq,c1,h,e]
 ·have c1:(m:Int)<l.length:=by omega
  refine ⟨false,fun s cx=>AZ (by simp) ?_,fun h=>by cases h⟩;have c2:m<l.length:=by omega
  simp [af,oq,c1,c2]
end Go.Ai.Z
