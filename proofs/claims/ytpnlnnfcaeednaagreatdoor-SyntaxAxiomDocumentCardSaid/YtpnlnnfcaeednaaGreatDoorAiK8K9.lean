/-
 Axioms: their data, and the first checks.
-/
import Derived.Test.YtpnlnnfcaeednaaGreatDoorAiK5K6K7InjInj2Inj3Inj4KI
set_option maxRecDepth 100000
set_option linter.unusedSimpArgs false
set_option linter.unusedVariables false
set_option linter.unusedSectionVars false
namespace Go.Ai.Z
structure Ax where
 kind:Int
 op:Bool
 left:C
 right:C
 z:Bool
 roles:List (List UInt8)
 role:List UInt8
 a:List UInt8
 b:List UInt8
def cellsA (x:Ax):List AV:=[.i .i64 x.kind,.b x.op,.i .i64 x.left.kind,.s x.left.name,.i .i64 x.left.lo,.i .i64 x.left.hi,slf x.left.z (x.left.parts.map bG),
 .i .i64 x.right.kind,.s x.right.name,.i .i64 x.right.lo,.i .i64 x.right.hi,slf x.right.z (x.right.parts.map bG),slf x.z (x.roles.map .s),.s x.role,.s x.a,.s x.b]
def gG (x:Ax):AV:=.ag (cellsA x)
@[simp] theorem ae5 (x:Ax):(gG x).plain=gG x:=by simp [gG,cellsA]
@[simp] theorem afv (x:Ax):(gG x).cells=[.i .i64 x.kind,.b x.op,.i .i64 x.left.kind,.s x.left.name,.i .i64 x.left.lo,.i .i64 x.left.hi,slf x.left.z (x.left.parts.map bG),
 .i .i64 x.right.kind,.s x.right.name,.i .i64 x.right.lo,.i .i64 x.right.hi,slf x.right.z (x.right.parts.map bG),slf x.z (x.roles.map .s),.s x.role,.s x.a,.s x.b]:=rfl
@[simp] theorem LZ (x:Ax):AV.ag [.i .i64 x.kind,.b x.op,.i .i64 x.left.kind,.s x.left.name,.i .i64 x.left.lo,.i .i64 x.left.hi,slf x.left.z (x.left.parts.map bG),
 .i .i64 x.right.kind,.s x.right.name,.i .i64 x.right.lo,.i .i64 x.right.hi,slf x.right.z (x.right.parts.map bG),slf x.z (x.roles.map .s),.s x.role,.s x.a,.s x.b]=gG x:=rfl
def emptyS (c:C):Bool:=decide (c.kind=0) && decide (c.name=[]) && decide (c.lo=0) && decide (c.hi=0) && decide ((c.parts.length:Int)=0)
@[simp] theorem aa2 (c:C) (s:St) (cx:Ctx):ah P0 (.fn (.func pW) [] []) [bG c] s cx=.ret (.b (emptyS c)) s:=by
 refine LM (by simp) ?_
 simp [af,uP,emptyS]
 repeat' (first | (split<;>(try simp only [jZ,kz,jU,pG,pI])<;>(try simp [*])) | (simp only [jZ,kz,jU,pG,pI]<;>(try simp [*]))|omega)
theorem Bq (l:List UInt8) (hl:l.length≤1152921504606846976) (s:St) (cx:Ctx):ah P0 (.fn (.func gV) [] []) [.s l] s cx=.ret (.i .i64 (if (lq l || PV l)=true then 0 else 20)) s:=by
 refine wG (by simp) ?_
 have e1:=wM l hl
 rcases Bool.eq_false_or_eq_true (lq l) with h1|h1<;>rcases Bool.eq_false_or_eq_true (PV l) with h2|h2<;>simp [af,lV,e1,h1,h2]
structure Use where
 l:Bool
 r:Bool
 role:Bool
 a:Bool
 b:Bool
 lo:Int
 hi:Int
def kV (k:Int):Use:=
 if k=1 then ⟨true,true,false,false,false,0,0⟩ else if k=2 then ⟨true,true,false,false,false,0,0⟩ else if k=3 then ⟨true,true,false,false,false,0,0⟩
 else if k=4 then ⟨false,true,true,false,false,0,0⟩ else if k=5 then ⟨false,false,true,false,false,1,1⟩ else if k=6 then ⟨false,false,true,false,false,2,4⟩
 else if k=7 then ⟨false,false,true,false,false,0,0⟩ else if k=8 then ⟨false,true,false,true,false,0,0⟩ else if k=9 then ⟨false,false,true,true,true,0,0⟩ else ⟨false,false,false,false,false,0,0⟩
def YA (u:Use):AV:=.ag [.b u.l,.b u.r,.b u.role,.b u.a,.b u.b,.i .i64 u.lo,.i .i64 u.hi]
@[simp] theorem ae2 (u:Use):(YA u).plain=YA u:=by simp [YA]
@[simp] theorem afs (u:Use):(YA u).cells=[.b u.l,.b u.r,.b u.role,.b u.a,.b u.b,.i .i64 u.lo,.i .i64 u.hi]:=rfl
@[simp] theorem af5 (u:Use):AV.ag [.b u.l,.b u.r,.b u.role,.b u.a,.b u.b,.i .i64 u.lo,.i .i64 u.hi]=YA u:=rfl
def XQ:List AV:=(P0.glob vk).getD []
theorem pV:P0.glob vk=some XQ:=rfl
theorem sF:XQ.length=70:=rfl
theorem Uj {k:Int} (h1:1≤k) (h9:k≤9):(XQ.drop (k.toNat * 7)).take 7=[.b (kV k).l,.b (kV k).r,.b (kV k).role,.b (kV k).a,.b (kV k).b,.i .i64 (kV k).lo,.i .i64 (kV k).hi]:=by
 have:k=1∨k=2∨k=3∨k=4∨k=5∨k=6∨k=7∨k=8∨k=9:=by omega
 rcases this with rfl|rfl|rfl|rfl|rfl|rfl|rfl|rfl|rfl<;>rfl
def I4 (x:Ax):Bool:=decide (1≤x.kind) && decide (x.kind≤9)
def yH (x:Ax):Bool:=I4 x && ((kV x.kind).l || emptyS x.left) && ((kV x.kind).r || emptyS x.right) && ((kV x.kind).role || decide (x.role=[])) && ((kV x.kind).a || decide (x.a=[])) && ((kV x.kind).b || decide (x.b=[])) &&
 decide ((kV x.kind).lo≤x.roles.length) && decide ((x.roles.length:Int)≤(kV x.kind).hi)
set_option maxHeartbeats 2000000 in
@[simp] theorem aaQ (x:Ax) (s:St) (cx:Ctx):ah P0 (.fn (.func qY) [] []) [gG x] s cx=.ret (.b (yH x)) s:=by
 refine JX (by simp) ?_
 by_cases h1:x.kind<1
 ·simp [af,nC,h1,yH,I4,show ¬(1≤x.kind) by omega]
 by_cases h9:9<x.kind
 ·simp [af,nC,h1,h9,yH,I4,show ¬(x.kind≤9) by omega]
 have b1:0≤x.kind:=by omega
 have b2:x.kind.toNat<10:=by omega
 have b3:7≤70 - x.kind.toNat * 7:=by omega
 have hu:=Uj (k:=x.kind) (by omega) (by omega)
 have hk:I4 x=true:=by simp [I4];omega
 unfold yH
 rw [hk]
 have hk9:x.kind=1∨x.kind=2∨x.kind=3∨x.kind=4∨x.kind=5∨x.kind=6∨x.kind=7∨x.kind=8∨x.kind=9:=by omega
 clear hk
 rcases hk9 with k|k|k|k|k|k|k|k|k
 all_goals
  have ku:=congrArg kV k
  rw [ku] at hu ⊢
  clear ku k
  simp [kV] at hu ⊢
  simp [af,nC,h1,h9,b1,b2,b3,pV,sF,hu]
  clear hu b1 b2 b3 h1 h9
  repeat' (first | (split<;>(try simp only [jZ,kz,jU,pG,pI])<;>(try simp [*])) | (simp only [jZ,kz,jU,pG,pI]<;>(try simp [*]))|omega)
end Go.Ai.Z
namespace Go.Ai.Z
def allPlain:List (List UInt8)→Bool
 | []=>true
 | r::l=>lq r && allPlain l
def A7 (l:List UInt8):Bool:=lq l || PV l
def UM (x:Ax) (u:Use):Bool:=(!u.role || lq x.role) && (!u.a || A7 x.a) && (!u.b || A7 x.b) && allPlain x.roles
theorem Ef (s:St) (cx:Ctx) (z:Bool) (l:List (List UInt8)) (hl:l.length≤1152921504606846976):∀(rest:List (List UInt8)) (i:Nat),l.drop i=rest→
  ∃j:Int,fH (aB P0.glob (ah P0) cx false qB) [36,37,38] [(36,.v (slf z (l.map .s))),(37,.v (.i .i64 l.length)),(38,.v (.i .i64 i))] s=
   if allPlain rest=true then .exit 0 [(36,.v (slf z (l.map .s))),(37,.v (.i .i64 l.length)),(38,.v (.i .i64 j)),(39,.v (.b false))] s else .ret [(4,.v (.b false))] s
 | [],i,h=>by
  have h1:¬i<l.length:=Nat.not_lt.2 (drop_nil h)
  refine ⟨i,ak fun K hK=>?_⟩
  simp [qB,h1,allPlain]
 | b::r,i,h=>by
  obtain ⟨h1,h2,h3,h4⟩:=drop_cons h
  have h5:=h4 h3
  have hw:=wI (i:=i) (by omega)
  obtain ⟨j,ih⟩:=Ef s cx z l hl r (i+1) h2
  refine ⟨j,ak fun K hK=>?_⟩
  rw [←hK,show ((i+1:Nat):Int)=(i:Int)+1 from rfl] at ih
  clear hK h4
  rcases Bool.eq_false_or_eq_true (lq b) with hin|hin <;>
   simp [qB,h3,h5,hw,ih,allPlain,hin]
set_option maxHeartbeats 1000000 in
theorem OC (x:Ax) (u:Use) (hl:x.roles.length≤1152921504606846976) (ha:x.a.length≤1152921504606846976) (hb:x.b.length≤1152921504606846976) (s:St) (cx:Ctx):
  ah P0 (.fn (.func sN) [] []) [gG x,YA u] s cx=.ret (.b (UM x u)) s:=by
 refine LK (by simp) ?_
 obtain ⟨j,h⟩:=Ef s ⟨s.length,s.length⟩ x.z x.roles hl x.roles 0 rfl
 have e1:∀(s:St) (cx:Ctx),ah P0 (.fn (.func gV) [] []) [.s x.a] s cx=.ret (.i .i64 (if A7 x.a=true then 0 else 20)) s:=Bq x.a ha
 have e2:∀(s:St) (cx:Ctx),ah P0 (.fn (.func gV) [] []) [.s x.b] s cx=.ret (.i .i64 (if A7 x.b=true then 0 else 20)) s:=Bq x.b hb
 simp at h
 unfold UM
 generalize A7 x.a=pa at e1 ⊢
 generalize A7 x.b=pb at e2 ⊢
 cases pa<;>cases pb<;>simp only [if_true,Bool.false_eq_true,if_false] at e1 e2
 all_goals
  rcases Bool.eq_false_or_eq_true (allPlain x.roles) with hp|hp
  ·rw [hp,if_pos rfl] at h
   rw [hp]
   clear hp
   simp [af,qL,e1,e2]
   repeat' (first | (split<;>(try simp only [jZ,kz,jU,pG,pI])<;>(try simp [*])) | (simp only [jZ,kz,jU,pG,pI]<;>(try simp [*]))|omega)
  ·rw [hp,if_neg (by simp)] at h
   rw [hp]
   clear hp
   simp [af,qL,e1,e2]
   repeat' (first | (split<;>(try simp only [jZ,kz,jU,pG,pI])<;>(try simp [*])) | (simp only [jZ,kz,jU,pG,pI]<;>(try simp [*]))|omega)
mutual
def Gj:C→Bool
 | .mk k _ _ _ _ ps=>if k=4 then true else if k=5 then AO ps else false
def AO:List C→Bool
 | []=>false
 | p::r=>Gj p || AO r
end
theorem acU (c:C):Gj c=if c.kind=4 then true else if c.kind=5 then AO c.parts else false:=by cases c;simp only [Gj,C.adx,C.abJ];rfl
theorem Nz (s:St) (cx:Ctx) (z:Bool) (ps:List C) (hps:ps.length≤100000)
  (ih:∀p∈ps,∀(s:St) (cx:Ctx),ah P0 (.fn (.func gU) [] []) [bG p] s cx=.ret (.b (Gj p)) s):∀(rest:List C) (i:Nat),ps.drop i=rest→
  ∃j:Int,0≤j∧fH (aB P0.glob (ah P0) cx false dh) [0,1,7,8] [(0,.v (slf z (ps.map bG))),(1,.v (.fn (.func gU) [] [])),(7,.v (.i .i64 ps.length)),(8,.v (.i .i64 i))] s=
   if AO rest=true then .ret [(4,.v (.i .i64 j))] s else .exit 0 [(0,.v (slf z (ps.map bG))),(1,.v (.fn (.func gU) [] [])),(7,.v (.i .i64 ps.length)),(8,.v (.i .i64 j)),(9,.v (.b false))] s
 | [],i,h=>by
  have h1:¬i<ps.length:=Nat.not_lt.2 (drop_nil h)
  refine ⟨i,by omega,ak fun K hK=>?_⟩
  simp [dh,h1,AO]
 | p::r,i,h=>by
  obtain ⟨h1,h2,h3,h4⟩:=drop_cons h
  have h5:=h4 h3
  have hp:p∈ps:=by rw [←h5];exact List.getElem_mem h3
  have hw:=wI (i:=i) (by omega)
  have e1:=ih p hp
  rcases Bool.eq_false_or_eq_true (Gj p) with hb|hb
  ·refine ⟨i,by omega,ak fun K hK=>?_⟩
   clear hK h4 ih
   simp [dh,h3,h5,hw,e1,AO,hb]
  ·obtain ⟨j,hj,ih2⟩:=Nz s cx z ps hps ih r (i+1) h2
   refine ⟨j,hj,ak fun K hK=>?_⟩
   rw [←hK,show ((i+1:Nat):Int)=(i:Int)+1 from rfl] at ih2
   clear hK h4 ih
   simp [dh,h3,h5,hw,e1,AO,hb,ih2]
theorem F9:∀(c:C),wC c≤100000→∀(s:St) (cx:Ctx),ah P0 (.fn (.func gU) [] []) [bG c] s cx=.ret (.b (Gj c)) s:=by
 refine C.ind' fun c ih hw s cx=>?_
 have hlen:=yX c.parts
 have hw':=hw
 rw [sD] at hw'
 have ihp:∀p∈c.parts,∀(s:St) (cx:Ctx),ah P0 (.fn (.func gU) [] []) [bG p] s cx=.ret (.b (Gj p)) s:=fun p hp=>ih p hp (by have:=xq hp;omega)
 have hI:∀(s:St) (cx:Ctx),∃j:Int,ah P0 (.fn (.func dP) [] []) [slf c.z (c.parts.map bG),.fn (.func gU) [] []] s cx=.ret (.i .i64 (if AO c.parts=true then j else -1)) s∧0≤j:=by
  intro s cx
  obtain ⟨j,hj,h⟩:=Nz s ⟨cx.lim,s.length⟩ c.z c.parts (by omega) ihp c.parts 0 rfl
  refine ⟨j,rD (by simp) ?_,hj⟩
  simp at h
  rcases Bool.eq_false_or_eq_true (AO c.parts) with hb|hb<;>simp [af,fD,h,hb]
 have hC:∀(s:St) (cx:Ctx),ah P0 (.fn (.func dG) [] []) [slf c.z (c.parts.map bG),.fn (.func gU) [] []] s cx=.ret (.b (AO c.parts)) s:=by
  intro s cx
  obtain ⟨j,e1,hj⟩:=hI s ⟨cx.lim,s.length⟩
  refine qA (by simp) ?_
  rcases Bool.eq_false_or_eq_true (AO c.parts) with hb|hb<;>simp [hb] at e1<;>simp [af,eu,e1,hb,hj]
 refine Oz (by simp) ?_
 rw [acU]
 by_cases k4:c.kind=4
 ·rw [if_pos k4];simp [af,pR,kd k4]
 ·by_cases k5:c.kind=5
  ·rw [if_neg k4,if_pos k5];simp [af,pR,k4,kd k5,hC]
  ·rw [if_neg k4,if_neg k5];simp [af,pR,k4,k5]
end Go.Ai.Z
