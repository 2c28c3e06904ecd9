/-
 Axioms: their data, and the first checks.
-/
import Derived.Test.YtpnlnnfcaeednaaGreatDoorAiK5K6K7InjInj2Inj3Inj4KI
set_option maxRecDepth 100000
set_option linter.unusedSimpArgs false
set_option linter.unusedVariables false
set_option linter.unusedSectionVars false
namespace Go.Ai.Z
structure Ax where
 kind:Int
 op:Bool
 left:C
 right:C
 z:Bool
 roles:List (List UInt8)
 role:List UInt8
 a:List UInt8
 b:List UInt8
def cellsA (x:Ax):List AV:=[.i .i64 x.kind,.b x.op,.i .i64 x.left.kind,.s x.left.name,.i .i64 x.left.lo,.i .i64 x.left.hi,slf x.left.z (x.left.parts.map bF),
 .i .i64 x.right.kind,.s x.right.name,.i .i64 x.right.lo,.i .i64 x.right.hi,slf x.right.z (x.right.parts.map bF),slf x.z (x.roles.map .s),.s x.role,.s x.a,.s x.b]
def fG (x:Ax):AV:=.ag (cellsA x)
@[simp] theorem af9 (x:Ax):(fG x).plain=fG x:=by simp [fG,cellsA]
@[simp] theorem agE (x:Ax):(fG x).cells=[.i .i64 x.kind,.b x.op,.i .i64 x.left.kind,.s x.left.name,.i .i64 x.left.lo,.i .i64 x.left.hi,slf x.left.z (x.left.parts.map bF),
 .i .i64 x.right.kind,.s x.right.name,.i .i64 x.right.lo,.i .i64 x.right.hi,slf x.right.z (x.right.parts.map bF),slf x.z (x.roles.map .s),.s x.role,.s x.a,.s x.b]:=rfl
@[simp] theorem MS (x:Ax):AV.ag [.i .i64 x.kind,.b x.op,.i .i64 x.left.kind,.s x.left.name,.i .i64 x.left.lo,.i .i64 x.left.hi,slf x.left.z (x.left.parts.map bF),
 .i .i64 x.right.kind,.s x.right.name,.i .i64 x.right.lo,.i .i64 x.right.hi,slf x.right.z (x.right.parts.map bF),slf x.z (x.roles.map .s),.s x.role,.s x.a,.s x.b]=fG x:=rfl
def emptyS (c:C):Bool:=decide (c.kind=0) && decide (c.name=[]) && decide (c.lo=0) && decide (c.hi=0) && decide ((c.parts.length:Int)=0)
@[simp] theorem ab1 (c:C) (s:St) (cx:Ctx):ah P0 (.fn (.func qg) [] []) [bF c] s cx=.ret (.b (emptyS c)) s:=by
 refine MH (by simp) ?_
 simp [af,uV,emptyS]
 repeat' (first | (split<;>(try simp only [jZ,kz,kE,pR,pU])<;>(try simp [*])) | (simp only [jZ,kz,kE,pR,pU]<;>(try simp [*]))|omega)
theorem Bv (l:List UInt8) (hl:l.length≤1152921504606846976) (s:St) (cx:Ctx):ah P0 (.fn (.func gK) [] []) [.s l] s cx=.ret (.i .i64 (if (lm l || Qv l)=true then 0 else 20)) s:=by
 refine wR (by simp) ?_
 have e1:=wV l hl
 rcases Bool.eq_false_or_eq_true (lm l) with h1|h1<;>rcases Bool.eq_false_or_eq_true (Qv l) with h2|h2<;>simp [af,mg,e1,h1,h2]
structure Use where
 l:Bool
 r:Bool
 role:Bool
 a:Bool
 b:Bool
 lo:Int
 hi:Int
def iE (k:Int):Use:=
 if k=1 then ⟨true,true,false,false,false,0,0⟩ else if k=2 then ⟨true,true,false,false,false,0,0⟩ else if k=3 then ⟨true,true,false,false,false,0,0⟩
 else if k=4 then ⟨false,true,true,false,false,0,0⟩ else if k=5 then ⟨false,false,true,false,false,1,1⟩ else if k=6 then ⟨false,false,true,false,false,2,4⟩
 else if k=7 then ⟨false,false,true,false,false,0,0⟩ else if k=8 then ⟨false,true,false,true,false,0,0⟩ else if k=9 then ⟨false,false,true,true,true,0,0⟩ else ⟨false,false,false,false,false,0,0⟩
def Ze (u:Use):AV:=.ag [.b u.l,.b u.r,.b u.role,.b u.a,.b u.b,.i .i64 u.lo,.i .i64 u.hi]
@[simp] theorem af6 (u:Use):(Ze u).plain=Ze u:=by simp [Ze]
@[simp] theorem agB (u:Use):(Ze u).cells=[.b u.l,.b u.r,.b u.role,.b u.a,.b u.b,.i .i64 u.lo,.i .i64 u.hi]:=rfl
@[simp] theorem ahd (u:Use):AV.ag [.b u.l,.b u.r,.b u.role,.b u.a,.b u.b,.i .i64 u.lo,.i .i64 u.hi]=Ze u:=rfl
def Yw:List AV:=(P0.glob vI).getD []
theorem qc:P0.glob vI=some Yw:=rfl
theorem sV:Yw.length=70:=rfl
theorem U1 {k:Int} (h1:1≤k) (h9:k≤9):(Yw.drop (k.toNat * 7)).take 7=[.b (iE k).l,.b (iE k).r,.b (iE k).role,.b (iE k).a,.b (iE k).b,.i .i64 (iE k).lo,.i .i64 (iE k).hi]:=by
 have:k=1∨k=2∨k=3∨k=4∨k=5∨k=6∨k=7∨k=8∨k=9:=by omega
 rcases this with rfl|rfl|rfl|rfl|rfl|rfl|rfl|rfl|rfl<;>rfl
def BG (x:Ax):Bool:=decide (1≤x.kind) && decide (x.kind≤9)
def uh (x:Ax):Bool:=BG x && ((iE x.kind).l || emptyS x.left) && ((iE x.kind).r || emptyS x.right) && ((iE x.kind).role || decide (x.role=[])) && ((iE x.kind).a || decide (x.a=[])) && ((iE x.kind).b || decide (x.b=[])) &&
 decide ((iE x.kind).lo≤x.roles.length) && decide ((x.roles.length:Int)≤(iE x.kind).hi)
set_option maxHeartbeats 2000000 in
@[simp] theorem abN (x:Ax) (s:St) (cx:Ctx):ah P0 (.fn (.func rU) [] []) [fG x] s cx=.ret (.b (uh x)) s:=by
 refine J9 (by simp) ?_
 by_cases h1:x.kind<1
 ·simp [af,nO,h1,uh,BG,show ¬(1≤x.kind) by omega]
 by_cases h9:9<x.kind
 ·simp [af,nO,h1,h9,uh,BG,show ¬(x.kind≤9) by omega]
 have b1:0≤x.kind:=by omega
 have b2:x.kind.toNat<10:=by omega
 have b3:7≤70 - x.kind.toNat * 7:=by omega
 have hu:=U1 (k:=x.kind) (by omega) (by omega)
 have hk:BG x=true:=by simp [BG];omega
 unfold uh
 rw [hk]
 have hk9:x.kind=1∨x.kind=2∨x.kind=3∨x.kind=4∨x.kind=5∨x.kind=6∨x.kind=7∨x.kind=8∨x.kind=9:=by omega
 clear hk
 rcases hk9 with k|k|k|k|k|k|k|k|k
 all_goals
  have ku:=congrArg iE k
  rw [ku] at hu ⊢
  clear ku k
  simp [iE] at hu ⊢
  simp [af,nO,h1,h9,b1,b2,b3,qc,sV,hu]
  clear hu b1 b2 b3 h1 h9
  repeat' (first | (split<;>(try simp only [jZ,kz,kE,pR,pU])<;>(try simp [*])) | (simp only [jZ,kz,kE,pR,pU]<;>(try simp [*]))|omega)
end Go.Ai.Z
namespace Go.Ai.Z
def allPlain:List (List UInt8)→Bool
 | []=>true
 | r::l=>lm r && allPlain l
def Bc (l:List UInt8):Bool:=lm l || Qv l
def FC (x:Ax) (u:Use):Bool:=(!u.role || lm x.role) && (!u.a || Bc x.a) && (!u.b || Bc x.b) && allPlain x.roles
theorem Em (s:St) (cx:Ctx) (z:Bool) (l:List (List UInt8)) (hl:l.length≤1152921504606846976):∀(rest:List (List UInt8)) (i:Nat),l.drop i=rest→
  ∃j:Int,eY (aB P0.glob (ah P0) cx false qP) [36,37,38] [(36,.v (slf z (l.map .s))),(37,.v (.i .i64 l.length)),(38,.v (.i .i64 i))] s=
   if allPlain rest=true then .exit 0 [(36,.v (slf z (l.map .s))),(37,.v (.i .i64 l.length)),(38,.v (.i .i64 j)),(39,.v (.b false))] s else .ret [(4,.v (.b false))] s
 | [],i,h=>by
  have h1:¬i<l.length:=Nat.not_lt.2 (drop_nil h)
  refine ⟨i,ak fun K hK=>?_⟩
  simp [qP,h1,allPlain]
 | b::r,i,h=>by
  obtain ⟨h1,h2,h3,h4⟩:=drop_cons h
  have h5:=h4 h3
  have hw:=wI (i:=i) (by omega)
  obtain ⟨j,ih⟩:=Em s cx z l hl r (i+1) h2
  refine ⟨j,ak fun K hK=>?_⟩
  rw [←hK,show ((i+1:Nat):Int)=(i:Int)+1 from rfl] at ih
  clear hK h4
  rcases Bool.eq_false_or_eq_true (lm b) with hin|hin <;>
   simp [qP,h3,h5,hw,ih,allPlain,hin]
set_option maxHeartbeats 1000000 in
theorem O6 (x:Ax) (u:Use) (hl:x.roles.length≤1152921504606846976) (ha:x.a.length≤1152921504606846976) (hb:x.b.length≤1152921504606846976) (s:St) (cx:Ctx):
  ah P0 (.fn (.func tq) [] []) [fG x,Ze u] s cx=.ret (.b (FC x u)) s:=by
 refine MG (by simp) ?_
 obtain ⟨j,h⟩:=Em s ⟨s.length,s.length⟩ x.z x.roles hl x.roles 0 rfl
 have e1:∀(s:St) (cx:Ctx),ah P0 (.fn (.func gK) [] []) [.s x.a] s cx=.ret (.i .i64 (if Bc x.a=true then 0 else 20)) s:=Bv x.a ha
 have e2:∀(s:St) (cx:Ctx),ah P0 (.fn (.func gK) [] []) [.s x.b] s cx=.ret (.i .i64 (if Bc x.b=true then 0 else 20)) s:=Bv x.b hb
 simp at h
 unfold FC
 generalize Bc x.a=pa at e1 ⊢
 generalize Bc x.b=pb at e2 ⊢
 cases pa<;>cases pb<;>simp only [if_true,Bool.false_eq_true,if_false] at e1 e2
 all_goals
  rcases Bool.eq_false_or_eq_true (allPlain x.roles) with hp|hp
  ·rw [hp,if_pos rfl] at h
   rw [hp]
   clear hp
   simp [af,rD,e1,e2]
   repeat' (first | (split<;>(try simp only [jZ,kz,kE,pR,pU])<;>(try simp [*])) | (simp only [jZ,kz,kE,pR,pU]<;>(try simp [*]))|omega)
  ·rw [hp,if_neg (by simp)] at h
   rw [hp]
   clear hp
   simp [af,rD,e1,e2]
   repeat' (first | (split<;>(try simp only [jZ,kz,kE,pR,pU])<;>(try simp [*])) | (simp only [jZ,kz,kE,pR,pU]<;>(try simp [*]))|omega)
mutual
def nD:C→Bool
 | .mk k _ _ _ _ ps=>if k=4 then true else if k=5 then rO ps else false
def rO:List C→Bool
 | []=>false
 | p::r=>nD p || rO r
end
theorem Gi (c:C):nD c=if c.kind=4 then true else if c.kind=5 then rO c.parts else false:=by cases c;simp only [nD,C.aew,C.acN];rfl
theorem NV (s:St) (cx:Ctx) (z:Bool) (ps:List C) (hps:ps.length≤100000)
  (ih:∀p∈ps,∀(s:St) (cx:Ctx),ah P0 (.fn (.func gJ) [] []) [bF p] s cx=.ret (.b (nD p)) s):∀(rest:List C) (i:Nat),ps.drop i=rest→
  ∃j:Int,0≤j∧eY (aB P0.glob (ah P0) cx false dh) [0,1,7,8] [(0,.v (slf z (ps.map bF))),(1,.v (.fn (.func gJ) [] [])),(7,.v (.i .i64 ps.length)),(8,.v (.i .i64 i))] s=
   if rO rest=true then .ret [(4,.v (.i .i64 j))] s else .exit 0 [(0,.v (slf z (ps.map bF))),(1,.v (.fn (.func gJ) [] [])),(7,.v (.i .i64 ps.length)),(8,.v (.i .i64 j)),(9,.v (.b false))] s
 | [],i,h=>by
  have h1:¬i<ps.length:=Nat.not_lt.2 (drop_nil h)
  refine ⟨i,by omega,ak fun K hK=>?_⟩
  simp [dh,h1,rO]
 | p::r,i,h=>by
  obtain ⟨h1,h2,h3,h4⟩:=drop_cons h
  have h5:=h4 h3
  have hp:p∈ps:=by rw [←h5];exact List.getElem_mem h3
  have hw:=wI (i:=i) (by omega)
  have e1:=ih p hp
  rcases Bool.eq_false_or_eq_true (nD p) with hb|hb
  ·refine ⟨i,by omega,ak fun K hK=>?_⟩
   clear hK h4 ih
   simp [dh,h3,h5,hw,e1,rO,hb]
  ·obtain ⟨j,hj,ih2⟩:=NV s cx z ps hps ih r (i+1) h2
   refine ⟨j,hj,ak fun K hK=>?_⟩
   rw [←hK,show ((i+1:Nat):Int)=(i:Int)+1 from rfl] at ih2
   clear hK h4 ih
   simp [dh,h3,h5,hw,e1,rO,hb,ih2]
theorem F8:∀(c:C),wC c≤100000→∀(s:St) (cx:Ctx),ah P0 (.fn (.func gJ) [] []) [bF c] s cx=.ret (.b (nD c)) s:=by
 refine C.ind' fun c ih hw s cx=>?_
 have hlen:=yD c.parts
 have hw':=hw
 rw [qj] at hw'
 have ihp:∀p∈c.parts,∀(s:St) (cx:Ctx),ah P0 (.fn (.func gJ) [] []) [bF p] s cx=.ret (.b (nD p)) s:=fun p hp=>ih p hp (by have:=wM hp;omega)
 have hI:∀(s:St) (cx:Ctx),∃j:Int,ah P0 (.fn (.func dQ) [] []) [slf c.z (c.parts.map bF),.fn (.func gJ) [] []] s cx=.ret (.i .i64 (if rO c.parts=true then j else -1)) s∧0≤j:=by
  intro s cx
  obtain ⟨j,hj,h⟩:=NV s ⟨cx.lim,s.length⟩ c.z c.parts (by omega) ihp c.parts 0 rfl
  refine ⟨j,rY (by simp) ?_,hj⟩
  simp at h
  rcases Bool.eq_false_or_eq_true (rO c.parts) with hb|hb<;>simp [af,fF,h,hb]
 have hC:∀(s:St) (cx:Ctx),ah P0 (.fn (.func dF) [] []) [slf c.z (c.parts.map bF),.fn (.func gJ) [] []] s cx=.ret (.b (rO c.parts)) s:=by
  intro s cx
  obtain ⟨j,e1,hj⟩:=hI s ⟨cx.lim,s.length⟩
  refine qK (by simp) ?_
  rcases Bool.eq_false_or_eq_true (rO c.parts) with hb|hb<;>simp [hb] at e1<;>simp [af,dZ,e1,hb,hj]
 refine OY (by simp) ?_
 rw [Gi]
 by_cases k4:c.kind=4
 ·rw [if_pos k4];simp [af,pX,kd k4]
 ·by_cases k5:c.kind=5
  ·rw [if_neg k4,if_pos k5];simp [af,pX,k4,kd k5,hC]
  ·rw [if_neg k4,if_neg k5];simp [af,pX,k4,k5]
end Go.Ai.Z
