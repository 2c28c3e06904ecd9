/-
 Axioms: their data, and the first checks.
-/
import Derived.Test.YtpnlnnfcaeednaaGreatDoorAiK5K6K7InjInj2Inj3Inj4KI
set_option maxRecDepth 100000
set_option linter.unusedSimpArgs false
set_option linter.unusedVariables false
set_option linter.unusedSectionVars false
namespace Go.Ai.Z
structure Ax where
 kind:Int
 op:Bool
 left:C
 right:C
 z:Bool
 roles:List (List UInt8)
 role:List UInt8
 a:List UInt8
 b:List UInt8
def cellsA (x:Ax):List AV:=[.i .i64 x.kind,.b x.op,.i .i64 x.left.kind,.s x.left.name,.i .i64 x.left.lo,.i .i64 x.left.hi,slf x.left.z (x.left.parts.map bF),
 .i .i64 x.right.kind,.s x.right.name,.i .i64 x.right.lo,.i .i64 x.right.hi,slf x.right.z (x.right.parts.map bF),slf x.z (x.roles.map .s),.s x.role,.s x.a,.s x.b]
def iq (x:Ax):AV:=.ag (cellsA x)
@[simp] theorem afO (x:Ax):(iq x).plain=iq x:=by simp [iq,cellsA]
@[simp] theorem agj (x:Ax):(iq x).cells=[.i .i64 x.kind,.b x.op,.i .i64 x.left.kind,.s x.left.name,.i .i64 x.left.lo,.i .i64 x.left.hi,slf x.left.z (x.left.parts.map bF),
 .i .i64 x.right.kind,.s x.right.name,.i .i64 x.right.lo,.i .i64 x.right.hi,slf x.right.z (x.right.parts.map bF),slf x.z (x.roles.map .s),.s x.role,.s x.a,.s x.b]:=rfl
@[simp] theorem MH (x:Ax):AV.ag [.i .i64 x.kind,.b x.op,.i .i64 x.left.kind,.s x.left.name,.i .i64 x.left.lo,.i .i64 x.left.hi,slf x.left.z (x.left.parts.map bF),
 .i .i64 x.right.kind,.s x.right.name,.i .i64 x.right.lo,.i .i64 x.right.hi,slf x.right.z (x.right.parts.map bF),slf x.z (x.roles.map .s),.s x.role,.s x.a,.s x.b]=iq x:=rfl
def emptyS (c:C):Bool:=decide (c.kind=0) && decide (c.name=[]) && decide (c.lo=0) && decide (c.hi=0) && decide ((c.parts.length:Int)=0)
@[simp] theorem abE (c:C) (s:St) (cx:Ctx):ah P0 (.fn (.func qc) [] []) [bF c] s cx=.ret (.b (emptyS c)) s:=by
 refine L9 (by simp) ?_
 simp [af,uU,emptyS]
 repeat' (first | (split<;>(try simp only [kD,kE,jW,pO,pR])<;>(try simp [*])) | (simp only [kD,kE,jW,pO,pR]<;>(try simp [*]))|omega)
theorem BA (l:List UInt8) (hl:l.length≤1152921504606846976) (s:St) (cx:Ctx):ah P0 (.fn (.func gK) [] []) [.s l] s cx=.ret (.i .i64 (if (lq l || Qg l)=true then 0 else 20)) s:=by
 refine wK (by simp) ?_
 have e1:=wQ l hl
 rcases Bool.eq_false_or_eq_true (lq l) with h1|h1<;>rcases Bool.eq_false_or_eq_true (Qg l) with h2|h2<;>simp [af,l9,e1,h1,h2]
structure Use where
 l:Bool
 r:Bool
 role:Bool
 a:Bool
 b:Bool
 lo:Int
 hi:Int
def iG (k:Int):Use:=
 if k=1 then ⟨true,true,false,false,false,0,0⟩ else if k=2 then ⟨true,true,false,false,false,0,0⟩ else if k=3 then ⟨true,true,false,false,false,0,0⟩
 else if k=4 then ⟨false,true,true,false,false,0,0⟩ else if k=5 then ⟨false,false,true,false,false,1,1⟩ else if k=6 then ⟨false,false,true,false,false,2,4⟩
 else if k=7 then ⟨false,false,true,false,false,0,0⟩ else if k=8 then ⟨false,true,false,true,false,0,0⟩ else if k=9 then ⟨false,false,true,true,true,0,0⟩ else ⟨false,false,false,false,false,0,0⟩
def YZ (u:Use):AV:=.ag [.b u.l,.b u.r,.b u.role,.b u.a,.b u.b,.i .i64 u.lo,.i .i64 u.hi]
@[simp] theorem afL (u:Use):(YZ u).plain=YZ u:=by simp [YZ]
@[simp] theorem agf (u:Use):(YZ u).cells=[.b u.l,.b u.r,.b u.role,.b u.a,.b u.b,.i .i64 u.lo,.i .i64 u.hi]:=rfl
@[simp] theorem agV (u:Use):AV.ag [.b u.l,.b u.r,.b u.role,.b u.a,.b u.b,.i .i64 u.lo,.i .i64 u.hi]=YZ u:=rfl
def Yg:List AV:=(P0.glob vF).getD []
theorem pY:P0.glob vF=some Yg:=rfl
theorem sQ:Yg.length=70:=rfl
theorem UG {k:Int} (h1:1≤k) (h9:k≤9):(Yg.drop (k.toNat * 7)).take 7=[.b (iG k).l,.b (iG k).r,.b (iG k).role,.b (iG k).a,.b (iG k).b,.i .i64 (iG k).lo,.i .i64 (iG k).hi]:=by
 have:k=1∨k=2∨k=3∨k=4∨k=5∨k=6∨k=7∨k=8∨k=9:=by omega
 rcases this with rfl|rfl|rfl|rfl|rfl|rfl|rfl|rfl|rfl<;>rfl
def BI (x:Ax):Bool:=decide (1≤x.kind) && decide (x.kind≤9)
def tY (x:Ax):Bool:=BI x && ((iG x.kind).l || emptyS x.left) && ((iG x.kind).r || emptyS x.right) && ((iG x.kind).role || decide (x.role=[])) && ((iG x.kind).a || decide (x.a=[])) && ((iG x.kind).b || decide (x.b=[])) &&
 decide ((iG x.kind).lo≤x.roles.length) && decide ((x.roles.length:Int)≤(iG x.kind).hi)
set_option maxHeartbeats 2000000 in
@[simp] theorem abr (x:Ax) (s:St) (cx:Ctx):ah P0 (.fn (.func rM) [] []) [iq x] s cx=.ret (.b (tY x)) s:=by
 refine Ku (by simp) ?_
 by_cases h1:x.kind<1
 ·simp [af,nJ,h1,tY,BI,show ¬(1≤x.kind) by omega]
 by_cases h9:9<x.kind
 ·simp [af,nJ,h1,h9,tY,BI,show ¬(x.kind≤9) by omega]
 have b1:0≤x.kind:=by omega
 have b2:x.kind.toNat<10:=by omega
 have b3:7≤70 - x.kind.toNat * 7:=by omega
 have hu:=UG (k:=x.kind) (by omega) (by omega)
 have hk:BI x=true:=by simp [BI];omega
 unfold tY
 rw [hk]
 have hk9:x.kind=1∨x.kind=2∨x.kind=3∨x.kind=4∨x.kind=5∨x.kind=6∨x.kind=7∨x.kind=8∨x.kind=9:=by omega
 clear hk
 rcases hk9 with k|k|k|k|k|k|k|k|k
 all_goals
  have ku:=congrArg iG k
  rw [ku] at hu ⊢
  clear ku k
  simp [iG] at hu ⊢
  simp [af,nJ,h1,h9,b1,b2,b3,pY,sQ,hu]
  clear hu b1 b2 b3 h1 h9
  repeat' (first | (split<;>(try simp only [kD,kE,jW,pO,pR])<;>(try simp [*])) | (simp only [kD,kE,jW,pO,pR]<;>(try simp [*]))|omega)
end Go.Ai.Z
namespace Go.Ai.Z
def allPlain:List (List UInt8)→Bool
 | []=>true
 | r::l=>lq r && allPlain l
def Bc (l:List UInt8):Bool:=lq l || Qg l
def FQ (x:Ax) (u:Use):Bool:=(!u.role || lq x.role) && (!u.a || Bc x.a) && (!u.b || Bc x.b) && allPlain x.roles
theorem Ep (s:St) (cx:Ctx) (z:Bool) (l:List (List UInt8)) (hl:l.length≤1152921504606846976):∀(rest:List (List UInt8)) (i:Nat),l.drop i=rest→
  ∃j:Int,fC (aB P0.glob (ah P0) cx false qK) [36,37,38] [(36,.v (slf z (l.map .s))),(37,.v (.i .i64 l.length)),(38,.v (.i .i64 i))] s=
   if allPlain rest=true then .exit 0 [(36,.v (slf z (l.map .s))),(37,.v (.i .i64 l.length)),(38,.v (.i .i64 j)),(39,.v (.b false))] s else .ret [(4,.v (.b false))] s
 | [],i,h=>by
  have h1:¬i<l.length:=Nat.not_lt.2 (drop_nil h)
  refine ⟨i,ak fun K hK=>?_⟩
  simp [qK,h1,allPlain]
 | b::r,i,h=>by
  obtain ⟨h1,h2,h3,h4⟩:=drop_cons h
  have h5:=h4 h3
  have hw:=wI (i:=i) (by omega)
  obtain ⟨j,ih⟩:=Ep s cx z l hl r (i+1) h2
  refine ⟨j,ak fun K hK=>?_⟩
  rw [←hK,show ((i+1:Nat):Int)=(i:Int)+1 from rfl] at ih
  clear hK h4
  rcases Bool.eq_false_or_eq_true (lq b) with hin|hin <;>
   simp [qK,h3,h5,hw,ih,allPlain,hin]
set_option maxHeartbeats 1000000 in
theorem OU (x:Ax) (u:Use) (hl:x.roles.length≤1152921504606846976) (ha:x.a.length≤1152921504606846976) (hb:x.b.length≤1152921504606846976) (s:St) (cx:Ctx):
  ah P0 (.fn (.func sW) [] []) [iq x,YZ u] s cx=.ret (.b (FQ x u)) s:=by
 refine L8 (by simp) ?_
 obtain ⟨j,h⟩:=Ep s ⟨s.length,s.length⟩ x.z x.roles hl x.roles 0 rfl
 have e1:∀(s:St) (cx:Ctx),ah P0 (.fn (.func gK) [] []) [.s x.a] s cx=.ret (.i .i64 (if Bc x.a=true then 0 else 20)) s:=BA x.a ha
 have e2:∀(s:St) (cx:Ctx),ah P0 (.fn (.func gK) [] []) [.s x.b] s cx=.ret (.i .i64 (if Bc x.b=true then 0 else 20)) s:=BA x.b hb
 simp at h
 unfold FQ
 generalize Bc x.a=pa at e1 ⊢
 generalize Bc x.b=pb at e2 ⊢
 cases pa<;>cases pb<;>simp only [if_true,Bool.false_eq_true,if_false] at e1 e2
 all_goals
  rcases Bool.eq_false_or_eq_true (allPlain x.roles) with hp|hp
  ·rw [hp,if_pos rfl] at h
   rw [hp]
   clear hp
   simp [af,qW,e1,e2]
   repeat' (first | (split<;>(try simp only [kD,kE,jW,pO,pR])<;>(try simp [*])) | (simp only [kD,kE,jW,pO,pR]<;>(try simp [*]))|omega)
  ·rw [hp,if_neg (by simp)] at h
   rw [hp]
   clear hp
   simp [af,qW,e1,e2]
   repeat' (first | (split<;>(try simp only [kD,kE,jW,pO,pR])<;>(try simp [*])) | (simp only [kD,kE,jW,pO,pR]<;>(try simp [*]))|omega)
mutual
def ng:C→Bool
 | .mk k _ _ _ _ ps=>if k=4 then true else if k=5 then rF ps else false
def rF:List C→Bool
 | []=>false
 | p::r=>ng p || rF r
end
theorem Gu (c:C):ng c=if c.kind=4 then true else if c.kind=5 then rF c.parts else false:=by cases c;simp only [ng,C.aeh,C.acu];rfl
theorem NM (s:St) (cx:Ctx) (z:Bool) (ps:List C) (hps:ps.length≤100000)
  (ih:∀p∈ps,∀(s:St) (cx:Ctx),ah P0 (.fn (.func gJ) [] []) [bF p] s cx=.ret (.b (ng p)) s):∀(rest:List C) (i:Nat),ps.drop i=rest→
  ∃j:Int,0≤j∧fC (aB P0.glob (ah P0) cx false cO) [0,1,7,8] [(0,.v (slf z (ps.map bF))),(1,.v (.fn (.func gJ) [] [])),(7,.v (.i .i64 ps.length)),(8,.v (.i .i64 i))] s=
   if rF rest=true then .ret [(4,.v (.i .i64 j))] s else .exit 0 [(0,.v (slf z (ps.map bF))),(1,.v (.fn (.func gJ) [] [])),(7,.v (.i .i64 ps.length)),(8,.v (.i .i64 j)),(9,.v (.b false))] s
 | [],i,h=>by
  have h1:¬i<ps.length:=Nat.not_lt.2 (drop_nil h)
  refine ⟨i,by omega,ak fun K hK=>?_⟩
  simp [cO,h1,rF]
 | p::r,i,h=>by
  obtain ⟨h1,h2,h3,h4⟩:=drop_cons h
  have h5:=h4 h3
  have hp:p∈ps:=by rw [←h5];exact List.getElem_mem h3
  have hw:=wI (i:=i) (by omega)
  have e1:=ih p hp
  rcases Bool.eq_false_or_eq_true (ng p) with hb|hb
  ·refine ⟨i,by omega,ak fun K hK=>?_⟩
   clear hK h4 ih
   simp [cO,h3,h5,hw,e1,rF,hb]
  ·obtain ⟨j,hj,ih2⟩:=NM s cx z ps hps ih r (i+1) h2
   refine ⟨j,hj,ak fun K hK=>?_⟩
   rw [←hK,show ((i+1:Nat):Int)=(i:Int)+1 from rfl] at ih2
   clear hK h4 ih
   simp [cO,h3,h5,hw,e1,rF,hb,ih2]
theorem Gn:∀(c:C),wC c≤100000→∀(s:St) (cx:Ctx),ah P0 (.fn (.func gJ) [] []) [bF c] s cx=.ret (.b (ng c)) s:=by
 refine C.ind' fun c ih hw s cx=>?_
 have hlen:=y8 c.parts
 have hw':=hw
 rw [rV] at hw'
 have ihp:∀p∈c.parts,∀(s:St) (cx:Ctx),ah P0 (.fn (.func gJ) [] []) [bF p] s cx=.ret (.b (ng p)) s:=fun p hp=>ih p hp (by have:=xB hp;omega)
 have hI:∀(s:St) (cx:Ctx),∃j:Int,ah P0 (.fn (.func dP) [] []) [slf c.z (c.parts.map bF),.fn (.func gJ) [] []] s cx=.ret (.i .i64 (if rF c.parts=true then j else -1)) s∧0≤j:=by
  intro s cx
  obtain ⟨j,hj,h⟩:=NM s ⟨cx.lim,s.length⟩ c.z c.parts (by omega) ihp c.parts 0 rfl
  refine ⟨j,rQ (by simp) ?_,hj⟩
  simp at h
  rcases Bool.eq_false_or_eq_true (rF c.parts) with hb|hb<;>simp [af,fB,h,hb]
 have hC:∀(s:St) (cx:Ctx),ah P0 (.fn (.func dD) [] []) [slf c.z (c.parts.map bF),.fn (.func gJ) [] []] s cx=.ret (.b (rF c.parts)) s:=by
  intro s cx
  obtain ⟨j,e1,hj⟩:=hI s ⟨cx.lim,s.length⟩
  refine qG (by simp) ?_
  rcases Bool.eq_false_or_eq_true (rF c.parts) with hb|hb<;>simp [hb] at e1<;>simp [af,dX,e1,hb,hj]
 refine OO (by simp) ?_
 rw [Gu]
 by_cases k4:c.kind=4
 ·rw [if_pos k4];simp [af,pW,kd k4]
 ·by_cases k5:c.kind=5
  ·rw [if_neg k4,if_pos k5];simp [af,pW,k4,kd k5,hC]
  ·rw [if_neg k4,if_neg k5];simp [af,pW,k4,k5]
end Go.Ai.Z
