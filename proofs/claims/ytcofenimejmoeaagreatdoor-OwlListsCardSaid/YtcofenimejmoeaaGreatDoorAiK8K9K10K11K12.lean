/-
 Axioms: their data, and the first checks.
-/
import Derived.Test.YtcofenimejmoeaaGreatDoorAiK1K2K3K4K5K6K7
set_option maxRecDepth 100000
set_option linter.unusedSimpArgs false
set_option linter.unusedVariables false
set_option linter.unusedSectionVars false
namespace Go.Ai.Z
structure Ax where
 kind:Int
 op:Bool
 left:C
 right:C
 z:Bool
 roles:List Rl
 role:Rl
 a:Rl
 b:Rl
def cellsA (x:Ax):List AV:=[.i .i64 x.kind,.b x.op,.i .i64 x.left.kind,.s x.left.name,.i .i64 x.left.lo,.i .i64 x.left.hi,slf x.left.z (x.left.parts.map aK),
 .i .i64 x.right.kind,.s x.right.name,.i .i64 x.right.lo,.i .i64 x.right.hi,slf x.right.z (x.right.parts.map aK),slf x.z (x.roles.map .s),.s x.role,.s x.a,.s x.b]
def iH (x:Ax):AV:=.ag (cellsA x)
@[simp] theorem acD (x:Ax):(iH x).plain=iH x:=by simp [iH,cellsA]
@[simp] theorem ac6 (x:Ax):(iH x).cells=[.i .i64 x.kind,.b x.op,.i .i64 x.left.kind,.s x.left.name,.i .i64 x.left.lo,.i .i64 x.left.hi,slf x.left.z (x.left.parts.map aK),
 .i .i64 x.right.kind,.s x.right.name,.i .i64 x.right.lo,.i .i64 x.right.hi,slf x.right.z (x.right.parts.map aK),slf x.z (x.roles.map .s),.s x.role,.s x.a,.s x.b]:=rfl
@[simp] theorem X4 (x:Ax):AV.ag [.i .i64 x.kind,.b x.op,.i .i64 x.left.kind,.s x.left.name,.i .i64 x.left.lo,.i .i64 x.left.hi,slf x.left.z (x.left.parts.map aK),
 .i .i64 x.right.kind,.s x.right.name,.i .i64 x.right.lo,.i .i64 x.right.hi,slf x.right.z (x.right.parts.map aK),slf x.z (x.roles.map .s),.s x.role,.s x.a,.s x.b]=iH x:=rfl
def emptyS (c:C):Bool:=decide (c.kind=0) && decide (c.name=[]) && decide (c.lo=0) && decide (c.hi=0) && decide ((c.parts.length:Int)=0)
@[simp] theorem Yr (c:C) (s:St) (cx:Ctx):aj P0 (.fn (.func lZ) [] []) [aK c] s cx=.ret (.b (emptyS c)) s:=by
 refine I5 (by simp) ?_;simp [af,qZ,emptyS]
 repeat' (first | (split<;>(try simp only [jq,jr,jD,nJ,nK])<;>(try simp [*])) | (simp only [jq,jr,jD,nJ,nK]<;>(try simp [*]))|omega)
theorem yL (l:Rl) (hl:l.length≤1152921504606846976) (s:St) (cx:Ctx):aj P0 (.fn (.func iP) [] []) [.s l] s cx=.ret (.i .i64 (if (iZ l || J7 l)=true then 0 else 20)) s:=by
 refine Fv (by simp) ?_;have e1:=xW l hl
 rcases Bool.eq_false_or_eq_true (iZ l) with h1|h1<;>rcases Bool.eq_false_or_eq_true (J7 l) with h2|h2<;>simp [af,o5,e1,h1,h2]
structure Use where
 l:Bool
 r:Bool
 role:Bool
 a:Bool
 b:Bool
 lo:Int
 hi:Int
def oJ (k:Int):Use:=
 if k=1 then ⟨true,true,false,false,false,0,0⟩ else if k=2 then ⟨true,true,false,false,false,0,0⟩ else if k=3 then ⟨true,true,false,false,false,0,0⟩
 else if k=4 then ⟨false,true,true,false,false,0,0⟩ else if k=5 then ⟨false,false,true,false,false,1,1⟩ else if k=6 then ⟨false,false,true,false,false,2,4⟩
 else if k=7 then ⟨false,false,true,false,false,0,0⟩ else if k=8 then ⟨false,true,false,true,false,0,0⟩ else if k=9 then ⟨false,false,true,true,true,0,0⟩ else ⟨false,false,false,false,false,0,0⟩
def Vh (u:Use):AV:=.ag [.b u.l,.b u.r,.b u.role,.b u.a,.b u.b,.i .i64 u.lo,.i .i64 u.hi]
@[simp] theorem acB (u:Use):(Vh u).plain=Vh u:=by simp [Vh]
@[simp] theorem ac4 (u:Use):(Vh u).cells=[.b u.l,.b u.r,.b u.role,.b u.a,.b u.b,.i .i64 u.lo,.i .i64 u.hi]:=rfl
@[simp] theorem adM (u:Use):AV.ag [.b u.l,.b u.r,.b u.role,.b u.a,.b u.b,.i .i64 u.lo,.i .i64 u.hi]=Vh u:=rfl
def UA:List AV:=(P0.glob uQ).getD []
theorem Jb:P0.glob uQ=some UA:=rfl
theorem LC:UA.length=70:=rfl
theorem VG {k:Int} (h1:1≤k) (h9:k≤9):(UA.drop (k.toNat * 7)).take 7=[.b (oJ k).l,.b (oJ k).r,.b (oJ k).role,.b (oJ k).a,.b (oJ k).b,.i .i64 (oJ k).lo,.i .i64 (oJ k).hi]:=by
 have:k=1∨k=2∨k=3∨k=4∨k=5∨k=6∨k=7∨k=8∨k=9:=by omega
 rcases this with rfl|rfl|rfl|rfl|rfl|rfl|rfl|rfl|rfl<;>rfl
def Fh (x:Ax):Bool:=decide (1≤x.kind) && decide (x.kind≤9)
def uq (x:Ax):Bool:=Fh x && ((oJ x.kind).l || emptyS x.left) && ((oJ x.kind).r || emptyS x.right) && ((oJ x.kind).role || decide (x.role=[])) && ((oJ x.kind).a || decide (x.a=[])) && ((oJ x.kind).b || decide (x.b=[])) &&
 decide ((oJ x.kind).lo≤x.roles.length) && decide ((x.roles.length:Int)≤(oJ x.kind).hi)
set_option maxHeartbeats 2000000 in
@[simp] theorem Yi (x:Ax) (s:St) (cx:Ctx):aj P0 (.fn (.func oC) [] []) [iH x] s cx=.ret (.b (uq x)) s:=by
 refine G8 (by simp) ?_;by_cases h1:x.kind<1
 ·simp [af,kN,h1,uq,Fh,show ¬(1≤x.kind) by omega]
 by_cases h9:9<x.kind
 ·simp [af,kN,h1,h9,uq,Fh,show ¬(x.kind≤9) by omega]
 have b1:0≤x.kind:=by omega
 have b2:x.kind.toNat<10:=by omega
 have b3:7≤70 - x.kind.toNat * 7:=by omega
 have hu:=VG (k:=x.kind) (by omega) (by omega);have hk:Fh x=true:=by simp [Fh];omega
 unfold uq;rw [hk];have hk9:x.kind=1∨x.kind=2∨x.kind=3∨x.kind=4∨x.kind=5∨x.kind=6∨x.kind=7∨x.kind=8∨x.kind=9:=by omega
 clear hk;rcases hk9 with k|k|k|k|k|k|k|k|k
 all_goals
  have ku:=congrArg oJ k;rw [ku] at hu ⊢;clear ku k;simp [oJ] at hu ⊢;simp [af,kN,h1,h9,b1,b2,b3,Jb,LC,hu];clear hu b1 b2 b3 h1 h9
  repeat' (first | (split<;>(try simp only [jq,jr,jD,nJ,nK])<;>(try simp [*])) | (simp only [jq,jr,jD,nJ,nK]<;>(try simp [*]))|omega)
end Go.Ai.Z
namespace Go.Ai.Z
def allPlain:List Rl→Bool
 | []=>true
 | r::l=>iZ r && allPlain l
def Dx (l:Rl):Bool:=iZ l || J7 l
def MI (x:Ax) (u:Use):Bool:=(!u.role || iZ x.role) && (!u.a || Dx x.a) && (!u.b || Dx x.b) && allPlain x.roles
theorem Bd (s:St) (cx:Ctx) (z:Bool) (l:List Rl) (hl:l.length≤1152921504606846976):∀(rest:List Rl) (i:Nat),l.drop i=rest→
  ∃j:Int,jw (aA P0.glob (aj P0) cx false nN) [36,37,38] [(36,.v (slf z (l.map .s))),(37,.v (.i .i64 l.length)),(38,.v (.i .i64 i))] s=
   if allPlain rest=true then .exit 0 [(36,.v (slf z (l.map .s))),(37,.v (.i .i64 l.length)),(38,.v (.i .i64 j)),(39,.v (.b false))] s else .ret [(4,.v (.b false))] s
 | [],i,h=>by
  have h1:¬i<l.length:=Nat.not_lt.2 (drop_nil h);refine ⟨i,ay fun K hK=>?_⟩;simp [nN,h1,allPlain]
 | b::r,i,h=>by
  obtain ⟨h1,h2,h3,h4⟩:=drop_cons h;have h5:=h4 h3;have hw:=wI (i:=i) (by omega);obtain ⟨j,ih⟩:=Bd s cx z l hl r (i+1) h2;refine ⟨j,ay fun K hK=>?_⟩;rw [←hK,show ((i+1:Nat):Int)=(i:Int)+1 from rfl] at ih;clear hK h4
  rcases Bool.eq_false_or_eq_true (iZ b) with hin|hin <;>
   simp [nN,h3,h5,hw,ih,allPlain,hin]
set_option maxHeartbeats 1000000 in
theorem KO (x:Ax) (u:Use) (hl:x.roles.length≤1152921504606846976) (ha:x.a.length≤1152921504606846976) (hb:x.b.length≤1152921504606846976) (s:St) (cx:Ctx):
  aj P0 (.fn (.func pU) [] []) [iH x,Vh u] s cx=.ret (.b (MI x u)) s:=by
 refine I4 (by simp) ?_;obtain ⟨j,h⟩:=Bd s ⟨s.length,s.length⟩ x.z x.roles hl x.roles 0 rfl;have e1:∀(s:St) (cx:Ctx),aj P0 (.fn (.func iP) [] []) [.s x.a] s cx=.ret (.i .i64 (if Dx x.a=true then 0 else 20)) s:=yL x.a ha;have e2:∀(s:St) (cx:Ctx),aj P0 (.fn (.func iP) [] []) [.s x.b] s cx=.ret (.i .i64 (if Dx x.b=true then 0 else 20)) s:=yL x.b hb;simp at h;unfold MI;generalize Dx x.a=pa at e1 ⊢;generalize Dx x.b=pb at e2 ⊢
 cases pa<;>cases pb<;>simp only [if_true,Bool.false_eq_true,if_false] at e1 e2
 all_goals
  rcases Bool.eq_false_or_eq_true (allPlain x.roles) with hp|hp
  ·rw [hp,if_pos rfl] at h;rw [hp];clear hp;simp [af,nT,e1,e2]
   repeat' (first | (split<;>(try simp only [jq,jr,jD,nJ,nK])<;>(try simp [*])) | (simp only [jq,jr,jD,nJ,nK]<;>(try simp [*]))|omega)
  ·rw [hp,if_neg (by simp)] at h;rw [hp];clear hp;simp [af,nT,e1,e2]
   repeat' (first | (split<;>(try simp only [jq,jr,jD,nJ,nK])<;>(try simp [*])) | (simp only [jq,jr,jD,nJ,nK]<;>(try simp [*]))|omega)
mutual
def Bl:C→Bool
 | .mk k _ _ _ _ ps=>if k=4 then true else if k=5 then xX ps else false
def xX:List C→Bool
 | []=>false
 | p::r=>Bl p || xX r
end
theorem Un (c:C):Bl c=if c.kind=4 then true else if c.kind=5 then xX c.parts else false:=by cases c;simp only [Bl,C.Wh,C.Sr];rfl
theorem JI (s:St) (cx:Ctx) (z:Bool) (ps:List C) (hps:ps.length≤1152921504606846976)
  (ih:∀p∈ps,∀(s:St) (cx:Ctx),aj P0 (.fn (.func dY) [] []) [aK p] s cx=.ret (.b (Bl p)) s):∀(rest:List C) (i:Nat),ps.drop i=rest→
  ∃j:Int,0≤j∧jw (aA P0.glob (aj P0) cx false bF) [0,1,7,8] [(0,.v (slf z (ps.map aK))),(1,.v (.fn (.func dY) [] [])),(7,.v (.i .i64 ps.length)),(8,.v (.i .i64 i))] s=
   if xX rest=true then .ret [(4,.v (.i .i64 j))] s else .exit 0 [(0,.v (slf z (ps.map aK))),(1,.v (.fn (.func dY) [] [])),(7,.v (.i .i64 ps.length)),(8,.v (.i .i64 j)),(9,.v (.b false))] s
 | [],i,h=>by
  have h1:¬i<ps.length:=Nat.not_lt.2 (drop_nil h);refine ⟨i,by omega,ay fun K hK=>?_⟩;simp [bF,h1,xX]
 | p::r,i,h=>by
  obtain ⟨h1,h2,h3,h4⟩:=drop_cons h;have h5:=h4 h3;have hp:p∈ps:=by rw [←h5];exact List.getElem_mem h3
  have hw:=wI (i:=i) (by omega);have e1:=ih p hp;rcases Bool.eq_false_or_eq_true (Bl p) with hb|hb
  ·refine ⟨i,by omega,ay fun K hK=>?_⟩;clear hK h4 ih;simp [bF,h3,h5,hw,e1,xX,hb]
  ·obtain ⟨j,hj,ih2⟩:=JI s cx z ps hps ih r (i+1) h2;refine ⟨j,hj,ay fun K hK=>?_⟩;rw [←hK,show ((i+1:Nat):Int)=(i:Int)+1 from rfl] at ih2;clear hK h4 ih;simp [bF,h3,h5,hw,e1,xX,hb,ih2]
theorem Bj:∀(c:C),C.Lng c→∀(s:St) (cx:Ctx),aj P0 (.fn (.func dY) [] []) [aK c] s cx=.ret (.b (Bl c)) s:=by
 refine C.ind' fun c ih hw s cx=>?_;have hw':=hw;have ihp:∀p∈c.parts,∀(s:St) (cx:Ctx),aj P0 (.fn (.func dY) [] []) [aK p] s cx=.ret (.b (Bl p)) s:=fun p hp=>ih p hp (hw.sub p hp)
 have hI:∀(s:St) (cx:Ctx),∃j:Int,aj P0 (.fn (.func bK) [] []) [slf c.z (c.parts.map aK),.fn (.func dY) [] []] s cx=.ret (.i .i64 (if xX c.parts=true then j else -1)) s∧0≤j:=by
  intro s cx;obtain ⟨j,hj,h⟩:=JI s ⟨cx.lim,s.length⟩ c.z c.parts (by have:=hw.ps;omega) ihp c.parts 0 rfl;refine ⟨j,oL (by simp) ?_,hj⟩;simp at h
  rcases Bool.eq_false_or_eq_true (xX c.parts) with hb|hb<;>simp [af,dJ,h,hb]
 have hC:∀(s:St) (cx:Ctx),aj P0 (.fn (.func bH) [] []) [slf c.z (c.parts.map aK),.fn (.func dY) [] []] s cx=.ret (.b (xX c.parts)) s:=by
  intro s cx;obtain ⟨j,e1,hj⟩:=hI s ⟨cx.lim,s.length⟩;refine nD (by simp) ?_
  rcases Bool.eq_false_or_eq_true (xX c.parts) with hb|hb<;>simp [hb] at e1<;>simp [af,dA,e1,hb,hj]
 refine KH (by simp) ?_;rw [Un];by_cases k4:c.kind=4
 ·rw [if_pos k4];simp [af,lX,kd k4]
 ·by_cases k5:c.kind=5
  ·rw [if_neg k4,if_pos k5];simp [af,lX,k4,kd k5,hC]
  ·rw [if_neg k4,if_neg k5];simp [af,lX,k4,k5]
end Go.Ai.Z
namespace Go.Ai.Z
def Rw (k cl cr:Int) (bl br:Bool):Int:=
 if (oJ k).l=true∧cl≠0 then cl else if (oJ k).r=true∧cr≠0 then cr
 else if (k=2∧(bl=true∨br=true))∨((k=1∨k=4∨k=8)∧br=true) then 22 else 0
def pq (x:Ax):Int:=
 if uq x=false then 22 else if MI x (oJ x.kind)=false then 20 else Rw x.kind (qQ x.left) (qQ x.right) (Bl x.left) (Bl x.right)
structure Ax.Few (x:Ax):Prop where
 l:wC x.left≤150
 r:wC x.right≤150
 roles:x.roles.length≤600
 rs:∀r∈x.roles,r.length≤600
 role:x.role.length≤600
 a:x.a.length≤600
 b:x.b.length≤600
structure Ax.Mid (x:Ax):Prop where
 l:wC x.left≤100000
 r:wC x.right≤100000
 roles:x.roles.length≤600
 a:x.a.length≤600
 b:x.b.length≤600
theorem Ax.Few.mid {x:Ax} (h:x.Few):x.Mid:=⟨by have:=h.l;omega,by have:=h.r;omega,h.roles,h.a,h.b⟩
structure Ax.Lng (x:Ax):Prop where
 l:C.Lng x.left
 r:C.Lng x.right
 roles:x.roles.length≤1152921504606846976
 a:x.a.length≤1152921504606846976
 b:x.b.length≤1152921504606846976
theorem Ax.Mid.lng {x:Ax} (h:x.Mid):x.Lng:=⟨abU _ h.l,abU _ h.r,by have:=h.roles;omega,by have:=h.a;omega,by have:=h.b;omega⟩
theorem dk {x j:Int} (i:Int) (k:x=j):decide (x=i)=decide (j=i):=by subst k;rfl
set_option maxHeartbeats 2000000 in
theorem Ec (x:Ax) (hx:x.Lng) (s:St) (cx:Ctx):aj P0 (.fn (.func jV) [] []) [iH x] s cx=.ret (.i .i64 (pq x)) s:=by
 refine D5 (by simp) ?_;unfold pq;rcases Bool.eq_false_or_eq_true (uq x) with hs|hs
 ·have hk:1≤x.kind∧x.kind≤9:=by simp [uq,Fh] at hs;omega
  have b1:0≤x.kind:=by omega
  have b2:x.kind.toNat<10:=by omega
  have b3:7≤70 - x.kind.toNat * 7:=by omega
  have hu:=VG (k:=x.kind) (by omega) (by omega);have e1:=KO x (oJ x.kind) (by have:=hx.roles;omega) (by have:=hx.a;omega) (by have:=hx.b;omega);have e2:=qw x.left hx.l;have e3:=qw x.right hx.r;have e4:=Bj x.left hx.l;have e5:=Bj x.right hx.r;have hk9:x.kind=1∨x.kind=2∨x.kind=3∨x.kind=4∨x.kind=5∨x.kind=6∨x.kind=7∨x.kind=8∨x.kind=9:=by omega
  rw [hs,if_neg (by simp)];rcases Bool.eq_false_or_eq_true (MI x (oJ x.kind)) with hn|hn
  ·rw [hn] at e1;rw [hn,if_neg (by simp)];clear hn;generalize hL:qQ x.left=cl at e2 ⊢;generalize hR:qQ x.right=cr at e3 ⊢;generalize Bl x.left=bl at e4 ⊢;generalize Bl x.right=br at e5 ⊢;clear hL hR hx hk;rcases hk9 with k|k|k|k|k|k|k|k|k
   all_goals
    have d1:=dk 1 k;have d2:=dk 2 k;have d4:=dk 4 k;have d8:=dk 8 k;have kt:=congrArg (fun i=>Rw i cl cr bl br) k;rw [kt];have ku:=congrArg oJ k;rw [ku] at hu e1;clear ku k kt;simp [oJ] at hu;simp [oJ,Vh] at e1;simp [Rw,oJ];simp [af,jI,hs,b1,b2,b3,Jb,LC,hu,e1,e2,e3,e4,e5,d1,d2,d4,d8]
    repeat' (first | (split<;>(try simp only [jq,jr,jD,nJ,nK])<;>(try simp [*])) | (simp only [jq,jr,jD,nJ,nK]<;>(try simp [*]))|omega)
  ·rw [hn] at e1;rw [hn,if_pos rfl];generalize oJ x.kind=u at hu e1;simp [af,jI,hs,b1,b2,b3,Jb,LC,hu,e1]
 ·rw [hs,if_pos rfl];simp [af,jI,hs]
end Go.Ai.Z
namespace Go.Ai.Z
attribute [local simp] List.length_pos_iff
end Go.Ai.Z
namespace Go.Ai.Z
structure Ax.Ok (x:Ax):Prop where
 l:x.left.Ok
 r:x.right.Ok
 roles:x.roles.length≤1125899906842624
 rs:∀r∈x.roles,r.length≤1125899906842624
 role:x.role.length≤1125899906842624
 a:x.a.length≤1125899906842624
 b:x.b.length≤1125899906842624
end Go.Ai.Z
