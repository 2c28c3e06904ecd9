/-
 Axioms: their data, and the first checks.
-/
import Derived.Test.YtpnlnnfcaeednaaGreatDoorAiK5K6K7InjInj2Inj3Inj4KI
set_option maxRecDepth 100000
set_option linter.unusedSimpArgs false
set_option linter.unusedVariables false
set_option linter.unusedSectionVars false
namespace Go.Ai.Z
structure Ax where
 kind:Int
 op:Bool
 left:C
 right:C
 z:Bool
 roles:List (List UInt8)
 role:List UInt8
 a:List UInt8
 b:List UInt8
def cellsA (x:Ax):List AV:=[.i .i64 x.kind,.b x.op,.i .i64 x.left.kind,.s x.left.name,.i .i64 x.left.lo,.i .i64 x.left.hi,slf x.left.z (x.left.parts.map bD),
 .i .i64 x.right.kind,.s x.right.name,.i .i64 x.right.lo,.i .i64 x.right.hi,slf x.right.z (x.right.parts.map bD),slf x.z (x.roles.map .s),.s x.role,.s x.a,.s x.b]
def fO (x:Ax):AV:=.ag (cellsA x)
@[simp] theorem af6 (x:Ax):(fO x).plain=fO x:=by simp [fO,cellsA]
@[simp] theorem agA (x:Ax):(fO x).cells=[.i .i64 x.kind,.b x.op,.i .i64 x.left.kind,.s x.left.name,.i .i64 x.left.lo,.i .i64 x.left.hi,slf x.left.z (x.left.parts.map bD),
 .i .i64 x.right.kind,.s x.right.name,.i .i64 x.right.lo,.i .i64 x.right.hi,slf x.right.z (x.right.parts.map bD),slf x.z (x.roles.map .s),.s x.role,.s x.a,.s x.b]:=rfl
@[simp] theorem MN (x:Ax):AV.ag [.i .i64 x.kind,.b x.op,.i .i64 x.left.kind,.s x.left.name,.i .i64 x.left.lo,.i .i64 x.left.hi,slf x.left.z (x.left.parts.map bD),
 .i .i64 x.right.kind,.s x.right.name,.i .i64 x.right.lo,.i .i64 x.right.hi,slf x.right.z (x.right.parts.map bD),slf x.z (x.roles.map .s),.s x.role,.s x.a,.s x.b]=fO x:=rfl
def emptyS (c:C):Bool:=decide (c.kind=0) && decide (c.name=[]) && decide (c.lo=0) && decide (c.hi=0) && decide ((c.parts.length:Int)=0)
@[simp] theorem ab4 (c:C) (s:St) (cx:Ctx):ah P0 (.fn (.func qg) [] []) [bD c] s cx=.ret (.b (emptyS c)) s:=by
 refine Me (by simp) ?_
 simp [af,uY,emptyS]
 repeat' (first | (split<;>(try simp only [kz,kC,kF,pR,pU])<;>(try simp [*])) | (simp only [kz,kC,kF,pR,pU]<;>(try simp [*]))|omega)
theorem Bz (l:List UInt8) (hl:l.length≤1152921504606846976) (s:St) (cx:Ctx):ah P0 (.fn (.func gK) [] []) [.s l] s cx=.ret (.i .i64 (if (lm l || Qo l)=true then 0 else 20)) s:=by
 refine wR (by simp) ?_
 have e1:=wV l hl
 rcases Bool.eq_false_or_eq_true (lm l) with h1|h1<;>rcases Bool.eq_false_or_eq_true (Qo l) with h2|h2<;>simp [af,lY,e1,h1,h2]
structure Use where
 l:Bool
 r:Bool
 role:Bool
 a:Bool
 b:Bool
 lo:Int
 hi:Int
def iE (k:Int):Use:=
 if k=1 then ⟨true,true,false,false,false,0,0⟩ else if k=2 then ⟨true,true,false,false,false,0,0⟩ else if k=3 then ⟨true,true,false,false,false,0,0⟩
 else if k=4 then ⟨false,true,true,false,false,0,0⟩ else if k=5 then ⟨false,false,true,false,false,1,1⟩ else if k=6 then ⟨false,false,true,false,false,2,4⟩
 else if k=7 then ⟨false,false,true,false,false,0,0⟩ else if k=8 then ⟨false,true,false,true,false,0,0⟩ else if k=9 then ⟨false,false,true,true,true,0,0⟩ else ⟨false,false,false,false,false,0,0⟩
def Ze (u:Use):AV:=.ag [.b u.l,.b u.r,.b u.role,.b u.a,.b u.b,.i .i64 u.lo,.i .i64 u.hi]
@[simp] theorem af2 (u:Use):(Ze u).plain=Ze u:=by simp [Ze]
@[simp] theorem agx (u:Use):(Ze u).cells=[.b u.l,.b u.r,.b u.role,.b u.a,.b u.b,.i .i64 u.lo,.i .i64 u.hi]:=rfl
@[simp] theorem ahb (u:Use):AV.ag [.b u.l,.b u.r,.b u.role,.b u.a,.b u.b,.i .i64 u.lo,.i .i64 u.hi]=Ze u:=rfl
def Yt:List AV:=(P0.glob vJ).getD []
theorem qf:P0.glob vJ=some Yt:=rfl
theorem sW:Yt.length=70:=rfl
theorem UU {k:Int} (h1:1≤k) (h9:k≤9):(Yt.drop (k.toNat * 7)).take 7=[.b (iE k).l,.b (iE k).r,.b (iE k).role,.b (iE k).a,.b (iE k).b,.i .i64 (iE k).lo,.i .i64 (iE k).hi]:=by
 have:k=1∨k=2∨k=3∨k=4∨k=5∨k=6∨k=7∨k=8∨k=9:=by omega
 rcases this with rfl|rfl|rfl|rfl|rfl|rfl|rfl|rfl|rfl<;>rfl
def BI (x:Ax):Bool:=decide (1≤x.kind) && decide (x.kind≤9)
def uh (x:Ax):Bool:=BI x && ((iE x.kind).l || emptyS x.left) && ((iE x.kind).r || emptyS x.right) && ((iE x.kind).role || decide (x.role=[])) && ((iE x.kind).a || decide (x.a=[])) && ((iE x.kind).b || decide (x.b=[])) &&
 decide ((iE x.kind).lo≤x.roles.length) && decide ((x.roles.length:Int)≤(iE x.kind).hi)
set_option maxHeartbeats 2000000 in
@[simp] theorem abQ (x:Ax) (s:St) (cx:Ctx):ah P0 (.fn (.func rQ) [] []) [fO x] s cx=.ret (.b (uh x)) s:=by
 refine J9 (by simp) ?_
 by_cases h1:x.kind<1
 ·simp [af,nJ,h1,uh,BI,show ¬(1≤x.kind) by omega]
 by_cases h9:9<x.kind
 ·simp [af,nJ,h1,h9,uh,BI,show ¬(x.kind≤9) by omega]
 have b1:0≤x.kind:=by omega
 have b2:x.kind.toNat<10:=by omega
 have b3:7≤70 - x.kind.toNat * 7:=by omega
 have hu:=UU (k:=x.kind) (by omega) (by omega)
 have hk:BI x=true:=by simp [BI];omega
 unfold uh
 rw [hk]
 have hk9:x.kind=1∨x.kind=2∨x.kind=3∨x.kind=4∨x.kind=5∨x.kind=6∨x.kind=7∨x.kind=8∨x.kind=9:=by omega
 clear hk
 rcases hk9 with k|k|k|k|k|k|k|k|k
 all_goals
  have ku:=congrArg iE k
  rw [ku] at hu ⊢
  clear ku k
  simp [iE] at hu ⊢
  simp [af,nJ,h1,h9,b1,b2,b3,qf,sW,hu]
  clear hu b1 b2 b3 h1 h9
  repeat' (first | (split<;>(try simp only [kz,kC,kF,pR,pU])<;>(try simp [*])) | (simp only [kz,kC,kF,pR,pU]<;>(try simp [*]))|omega)
end Go.Ai.Z
namespace Go.Ai.Z
def allPlain:List (List UInt8)→Bool
 | []=>true
 | r::l=>lm r && allPlain l
def Bd (l:List UInt8):Bool:=lm l || Qo l
def FM (x:Ax) (u:Use):Bool:=(!u.role || lm x.role) && (!u.a || Bd x.a) && (!u.b || Bd x.b) && allPlain x.roles
theorem Et (s:St) (cx:Ctx) (z:Bool) (l:List (List UInt8)) (hl:l.length≤1152921504606846976):∀(rest:List (List UInt8)) (i:Nat),l.drop i=rest→
  ∃j:Int,eX (aC P0.glob (ah P0) cx false qP) [36,37,38] [(36,.v (slf z (l.map .s))),(37,.v (.i .i64 l.length)),(38,.v (.i .i64 i))] s=
   if allPlain rest=true then .exit 0 [(36,.v (slf z (l.map .s))),(37,.v (.i .i64 l.length)),(38,.v (.i .i64 j)),(39,.v (.b false))] s else .ret [(4,.v (.b false))] s
 | [],i,h=>by
  have h1:¬i<l.length:=Nat.not_lt.2 (drop_nil h)
  refine ⟨i,ak fun K hK=>?_⟩
  simp [qP,h1,allPlain]
 | b::r,i,h=>by
  obtain ⟨h1,h2,h3,h4⟩:=drop_cons h
  have h5:=h4 h3
  have hw:=wI (i:=i) (by omega)
  obtain ⟨j,ih⟩:=Et s cx z l hl r (i+1) h2
  refine ⟨j,ak fun K hK=>?_⟩
  rw [←hK,show ((i+1:Nat):Int)=(i:Int)+1 from rfl] at ih
  clear hK h4
  rcases Bool.eq_false_or_eq_true (lm b) with hin|hin <;>
   simp [qP,h3,h5,hw,ih,allPlain,hin]
set_option maxHeartbeats 1000000 in
theorem OX (x:Ax) (u:Use) (hl:x.roles.length≤1152921504606846976) (ha:x.a.length≤1152921504606846976) (hb:x.b.length≤1152921504606846976) (s:St) (cx:Ctx):
  ah P0 (.fn (.func tC) [] []) [fO x,Ze u] s cx=.ret (.b (FM x u)) s:=by
 refine Md (by simp) ?_
 obtain ⟨j,h⟩:=Et s ⟨s.length,s.length⟩ x.z x.roles hl x.roles 0 rfl
 have e1:∀(s:St) (cx:Ctx),ah P0 (.fn (.func gK) [] []) [.s x.a] s cx=.ret (.i .i64 (if Bd x.a=true then 0 else 20)) s:=Bz x.a ha
 have e2:∀(s:St) (cx:Ctx),ah P0 (.fn (.func gK) [] []) [.s x.b] s cx=.ret (.i .i64 (if Bd x.b=true then 0 else 20)) s:=Bz x.b hb
 simp at h
 unfold FM
 generalize Bd x.a=pa at e1 ⊢
 generalize Bd x.b=pb at e2 ⊢
 cases pa<;>cases pb<;>simp only [if_true,Bool.false_eq_true,if_false] at e1 e2
 all_goals
  rcases Bool.eq_false_or_eq_true (allPlain x.roles) with hp|hp
  ·rw [hp,if_pos rfl] at h
   rw [hp]
   clear hp
   simp [af,rC,e1,e2]
   repeat' (first | (split<;>(try simp only [kz,kC,kF,pR,pU])<;>(try simp [*])) | (simp only [kz,kC,kF,pR,pU]<;>(try simp [*]))|omega)
  ·rw [hp,if_neg (by simp)] at h
   rw [hp]
   clear hp
   simp [af,rC,e1,e2]
   repeat' (first | (split<;>(try simp only [kz,kC,kF,pR,pU])<;>(try simp [*])) | (simp only [kz,kC,kF,pR,pU]<;>(try simp [*]))|omega)
mutual
def mZ:C→Bool
 | .mk k _ _ _ _ ps=>if k=4 then true else if k=5 then rM ps else false
def rM:List C→Bool
 | []=>false
 | p::r=>mZ p || rM r
end
theorem Gn (c:C):mZ c=if c.kind=4 then true else if c.kind=5 then rM c.parts else false:=by cases c;simp only [mZ,C.aex,C.acP];rfl
theorem NR (s:St) (cx:Ctx) (z:Bool) (ps:List C) (hps:ps.length≤100000)
  (ih:∀p∈ps,∀(s:St) (cx:Ctx),ah P0 (.fn (.func gJ) [] []) [bD p] s cx=.ret (.b (mZ p)) s):∀(rest:List C) (i:Nat),ps.drop i=rest→
  ∃j:Int,0≤j∧eX (aC P0.glob (ah P0) cx false cO) [0,1,7,8] [(0,.v (slf z (ps.map bD))),(1,.v (.fn (.func gJ) [] [])),(7,.v (.i .i64 ps.length)),(8,.v (.i .i64 i))] s=
   if rM rest=true then .ret [(4,.v (.i .i64 j))] s else .exit 0 [(0,.v (slf z (ps.map bD))),(1,.v (.fn (.func gJ) [] [])),(7,.v (.i .i64 ps.length)),(8,.v (.i .i64 j)),(9,.v (.b false))] s
 | [],i,h=>by
  have h1:¬i<ps.length:=Nat.not_lt.2 (drop_nil h)
  refine ⟨i,by omega,ak fun K hK=>?_⟩
  simp [cO,h1,rM]
 | p::r,i,h=>by
  obtain ⟨h1,h2,h3,h4⟩:=drop_cons h
  have h5:=h4 h3
  have hp:p∈ps:=by rw [←h5];exact List.getElem_mem h3
  have hw:=wI (i:=i) (by omega)
  have e1:=ih p hp
  rcases Bool.eq_false_or_eq_true (mZ p) with hb|hb
  ·refine ⟨i,by omega,ak fun K hK=>?_⟩
   clear hK h4 ih
   simp [cO,h3,h5,hw,e1,rM,hb]
  ·obtain ⟨j,hj,ih2⟩:=NR s cx z ps hps ih r (i+1) h2
   refine ⟨j,hj,ak fun K hK=>?_⟩
   rw [←hK,show ((i+1:Nat):Int)=(i:Int)+1 from rfl] at ih2
   clear hK h4 ih
   simp [cO,h3,h5,hw,e1,rM,hb,ih2]
theorem Gh:∀(c:C),wC c≤100000→∀(s:St) (cx:Ctx),ah P0 (.fn (.func gJ) [] []) [bD c] s cx=.ret (.b (mZ c)) s:=by
 refine C.ind' fun c ih hw s cx=>?_
 have hlen:=yE c.parts
 have hw':=hw
 rw [qm] at hw'
 have ihp:∀p∈c.parts,∀(s:St) (cx:Ctx),ah P0 (.fn (.func gJ) [] []) [bD p] s cx=.ret (.b (mZ p)) s:=fun p hp=>ih p hp (by have:=wM hp;omega)
 have hI:∀(s:St) (cx:Ctx),∃j:Int,ah P0 (.fn (.func dQ) [] []) [slf c.z (c.parts.map bD),.fn (.func gJ) [] []] s cx=.ret (.i .i64 (if rM c.parts=true then j else -1)) s∧0≤j:=by
  intro s cx
  obtain ⟨j,hj,h⟩:=NR s ⟨cx.lim,s.length⟩ c.z c.parts (by omega) ihp c.parts 0 rfl
  refine ⟨j,rX (by simp) ?_,hj⟩
  simp at h
  rcases Bool.eq_false_or_eq_true (rM c.parts) with hb|hb<;>simp [af,fE,h,hb]
 have hC:∀(s:St) (cx:Ctx),ah P0 (.fn (.func dG) [] []) [slf c.z (c.parts.map bD),.fn (.func gJ) [] []] s cx=.ret (.b (rM c.parts)) s:=by
  intro s cx
  obtain ⟨j,e1,hj⟩:=hI s ⟨cx.lim,s.length⟩
  refine qK (by simp) ?_
  rcases Bool.eq_false_or_eq_true (rM c.parts) with hb|hb<;>simp [hb] at e1<;>simp [af,dY,e1,hb,hj]
 refine OT (by simp) ?_
 rw [Gn]
 by_cases k4:c.kind=4
 ·rw [if_pos k4];simp [af,pY,kd k4]
 ·by_cases k5:c.kind=5
  ·rw [if_neg k4,if_pos k5];simp [af,pY,k4,kd k5,hC]
  ·rw [if_neg k4,if_neg k5];simp [af,pY,k4,k5]
end Go.Ai.Z
