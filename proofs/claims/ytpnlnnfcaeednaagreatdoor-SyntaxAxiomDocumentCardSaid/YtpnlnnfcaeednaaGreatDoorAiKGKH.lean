/-
 terms.Compare: the order of concepts.
-/
import Derived.Test.YtpnlnnfcaeednaaGreatDoorAiK4
set_option maxRecDepth 100000
set_option linter.unusedSimpArgs false
set_option linter.unusedVariables false
set_option linter.unusedSectionVars false
namespace Go.Ai.Z
open Go.Lib (compareBytes)
mutual
def kE:C→AV
 | .mk k n l h z ps=>.ag [.i .i64 k,.s n,.i .i64 l,.i .i64 h,slf z (Kt ps),.i .i64 ((1+jH ps:Nat):Int),slf true (NR ps)]
def NR:List C→List AV
 | []=>[]
 | a::r=>kE a::NR r
end
theorem QV:∀ps:List C,NR ps=ps.map kE
 | []=>by simp [NR]
 | a::r=>by simp [NR,QV r]
theorem DZ (c:C):kE c=.ag [.i .i64 c.kind,.s c.name,.i .i64 c.lo,.i .i64 c.hi,slf c.z (c.parts.map bG),.i .i64 (dX c:Int),slf true (c.parts.map kE)]:=by
 cases c;simp [kE,Kr,QV,dX]
@[simp] theorem ae3 (c:C):(kE c).plain=kE c:=by rw [DZ];simp
@[simp] theorem aft (c:C):(kE c).cells=[.i .i64 c.kind,.s c.name,.i .i64 c.lo,.i .i64 c.hi,slf c.z (c.parts.map bG),.i .i64 (dX c:Int),slf true (c.parts.map kE)]:=by rw [DZ];rfl
@[simp] theorem af6 (c:C):AV.ag [.i .i64 c.kind,.s c.name,.i .i64 c.lo,.i .i64 c.hi,slf c.z (c.parts.map bG),.i .i64 (dX c:Int),slf true (c.parts.map kE)]=kE c:=(DZ c).symm
mutual
theorem MN (n:Nat):∀c:C,(kE c).under n=true
 | .mk k nm l h z ps=>by simp [kE,zo n ps,Di n ps]
theorem Di (n:Nat):∀ps:List C,dK n (NR ps)=true
 | []=>by simp [NR]
 | a::r=>by simp [NR,MN n a,Di n r]
end
@[simp] theorem aeJ (n:Nat) (c:C):(kE c).under n=true:=MN n c
@[simp] theorem aea (n:Nat) (ps:List C):dK n (ps.map kE)=true:=by rw [←QV];exact Di n ps
theorem Gu:∀x y:List C,jH (x++y)=jH x+jH y
 | [],y=>by simp [jH]
 | a::x,y=>by simp only [List.cons_append,jH,Gu x y];omega
def avP (s:St) (t:List C):AV:=match t with | []=>.ns|t=>.st s.length (t.map kE)
def stP (s:St) (t:List C):St:=match t with | []=>s|t=>s++[.row aW 7 t.length]
theorem ab2 (c:C) (hps:c.parts.length≤100000) (hw:dX c≤100000) (s:St) (ih:∀p∈c.parts,∀(s:St) (cx:Ctx),ah P0 (.fn (.func mP) [] []) [bG p] s cx=.ret (kE p) s):
  ∀(rest:List C) (i:Nat) (t:List C),c.parts.drop i=rest→c.parts=t++rest→t.length=i→
  ∃j:Int,fH (aB P0.glob (ah P0) ⟨s.length,s.length⟩ false qM) [2,9,10,11]
   [(2,.bx [.i .i64 c.kind,.s c.name,.i .i64 c.lo,.i .i64 c.hi,slf c.z (c.parts.map bG),.i .i64 ((1+jH t:Nat):Int),avP s t]),(9,.v (slf c.z (c.parts.map bG))),(10,.v (.i .i64 c.parts.length)),(11,.v (.i .i64 i))] (stP s t)=
   .exit 0 [(2,.bx [.i .i64 c.kind,.s c.name,.i .i64 c.lo,.i .i64 c.hi,slf c.z (c.parts.map bG),.i .i64 (dX c:Int),avP s c.parts]),(9,.v (slf c.z (c.parts.map bG))),(10,.v (.i .i64 c.parts.length)),(11,.v (.i .i64 j)),(12,.v (.b false))] (stP s c.parts)
 | [],i,t,h,hc,ht=>by
  have h1:¬i<c.parts.length:=Nat.not_lt.2 (drop_nil h)
  have hc':c.parts=t:=by simpa using hc
  refine ⟨i,ak fun K hK=>?_⟩
  rw [xA,hc']
  rw [hc'] at h1
  simp [qM,h1]
 | p::r,i,t,h,hc,ht=>by
  obtain ⟨h1,h2,h3,h4⟩:=drop_cons h
  have h5:=h4 h3
  have hp:p∈c.parts:=by rw [←h5];exact List.getElem_mem h3
  have hwi:=wI (i:=i) (by omega)
  have hsz:jH (t++[p])=jH t+dX p:=by rw [Gu];simp [jH]
  have hle:jH (t++[p])≤jH c.parts:=by rw [hc,Gu,Gu];simp [jH]
  have hw2:=xA c
  obtain ⟨j,ih2⟩:=ab2 c hps hw s ih r (i+1) (t++[p]) h2 (by simp [hc]) (by simp [ht])
  refine ⟨j,ak fun K hK=>?_⟩
  rw [←hK] at ih2
  have e1:=ih p hp
  have hadd:IntKind.i64.wrap (((1+jH t:Nat):Int)+(dX p:Int))=((1+jH (t++[p]):Nat):Int):=by
   rw [hsz];rw [w64]<;>omega
  clear hK h4 ih hle hw2 hsz
  have hm:t.length+1≤fE:=by unfold fE;omega
  cases t with
  | nil=>
   simp at ht
   subst ht
   simp [avP,stP] at ih2 hadd hm hwi
   simp [qM,avP,stP,h3,h5,hwi,e1,hm,ih2,hadd,List.range_succ]
  | cons a t=>
   simp [avP,stP] at ih2 hadd
   simp at ht hm
   simp [qM,avP,stP,h3,h5,hwi,e1,hm,ih2,hadd,List.range_succ]
theorem zK:∀(c:C),wC c≤1000→∀(s:St) (cx:Ctx),ah P0 (.fn (.func mP) [] []) [bG c] s cx=.ret (kE c) s:=by
 refine C.ind' fun c ih hw s cx=>?_
 have h1:=EX c
 have h2:=yX c.parts
 have h3:=sD c
 obtain ⟨j,hl⟩:=ab2 c (by omega) (by omega) s (fun p hp=>ih p hp (by have:=xq hp;omega)) c.parts 0 [] rfl rfl rfl
 refine RQ (by simp) ?_
 have hn:∀k v,avP s c.parts=.st k v→k=s.length∧v=c.parts.map kE:=by
  intro k v h
  cases hps:c.parts with
  | nil=>rw [hps] at h;simp [avP] at h
  | cons a r=>rw [hps] at h;simp [avP] at h;exact ⟨h.1.symm,by simpa using h.2.symm⟩
 clear hn ih
 rw [DZ]
 cases hps:c.parts with
 | nil=>
  rw [hps] at hl
  simp [avP,stP,jH] at hl
  simp [af,vO,hps,dZ,hl]
 | cons a r=>
  rw [hps] at hl
  simp [avP,stP,jH] at hl
  simp [af,vO,hps,dZ,hl,frz]
end Go.Ai.Z
namespace Go.Ai.Z
open Go.Lib (compareBytes)
def wJ (a b:Int):Int:=if a<b then -1 else if b<a then 1 else 0
theorem TW {a b:Int}:wJ a b=0 ↔ a=b:=by unfold wJ;(repeat' split)<;>simp<;>omega
@[simp] theorem aa4 (a:Int) (s:St) (cx:Ctx):ah P0 (.fn (.func lK) [] []) [.i .i64 a] s cx=.ret (.b false) s:=by
 refine LW (by simp) ?_
 simp [af,oC]
@[simp] theorem Zw (a b:Int) (s:St) (cx:Ctx):ah P0 (.fn (.func fV) [] []) [.i .i64 a,.i .i64 b] s cx=.ret (.i .i64 (wJ a b)) s:=by
 refine Ja (by simp) ?_
 unfold wJ
 by_cases h1:a<b
 ·simp [af,ig,h1]
 ·by_cases h2:b<a
  ·simp [af,ig,h1,h2]
  ·simp [af,ig,h1,h2]
def orI:List Int→Int
 | []=>0
 | a::r=>if a=0 then orI r else a
theorem JB:∀{l:List Int},orI l=0 ↔ ∀a∈l,a=0
 | []=>by simp [orI]
 | a::r=>by
  unfold orI
  by_cases h:a=0
  ·simp [h,JB (l:=r)]
  ·simp [h]
theorem WW (l:List Int) (hl:l.length≤100000) (s:St) (cx:Ctx):∀(rest:List Int) (i:Nat),l.drop i=rest→
  ∃j:Int,fH (aB P0.glob (ah P0) cx false jA) [3,6,7,8] [(3,.v (.i .i64 0)),(6,.v (.sl (l.map (AV.i .i64)))),(7,.v (.i .i64 l.length)),(8,.v (.i .i64 i))] s=
   if orI rest=0 then .exit 0 [(3,.v (.i .i64 0)),(6,.v (.sl (l.map (AV.i .i64)))),(7,.v (.i .i64 l.length)),(8,.v (.i .i64 j)),(9,.v (.b false))] s
   else .ret [(2,.v (.i .i64 (orI rest)))] s
 | [],i,h=>by
  have h1:¬i<l.length:=Nat.not_lt.2 (drop_nil h)
  refine ⟨i,ak fun K hK=>?_⟩
  simp [jA,h1,orI]
 | p::r,i,h=>by
  obtain ⟨h1,h2,h3,h4⟩:=drop_cons h
  have h5:=h4 h3
  have hwi:=wI (i:=i) (by omega)
  obtain ⟨j,ih⟩:=WW l hl s cx r (i+1) h2
  refine ⟨j,ak fun K hK=>?_⟩
  rw [←hK] at ih
  clear hK h4
  simp at ih
  by_cases hp:p=0
  ·simp [jA,h3,h5,hwi,ih,orI,hp]
  ·simp [jA,h3,h5,hwi,orI,hp]
theorem D8 (l:List Int) (hl:l.length≤100000) (s:St) (cx:Ctx):ah P0 (.fn (.func nZ) [] []) [.sl (l.map (AV.i .i64))] s cx=.ret (.i .i64 (orI l)) s:=by
 refine RY (by simp) ?_
 obtain ⟨j,h⟩:=WW l hl s ⟨s.length,s.length⟩ l 0 rfl
 simp at h
 by_cases h0:orI l=0
 ·simp [h0] at h
  simp [af,oq,h,h0]
 ·simp [h0] at h
  simp [af,oq,h]
@[simp] theorem Zu (a b:List UInt8) (s:St) (cx:Ctx):ah P0 (.fn (.func jM) [] []) [.s a,.s b] s cx=.ret (.i .i64 (compareBytes a b)) s:=
 xM (h:=Ia yQ) rfl (by simp [yQ])
mutual
def jT:C→C→Int
 | .mk k n l h z ps,d=>
  let x:=orI [wJ ((1+jH ps:Nat):Int) (dX d:Int),wJ k d.kind,compareBytes n d.name,wJ l d.lo,wJ h d.hi]
  if x=0 then nR ps d.parts else x
def nR:List C→List C→Int
 | [],[]=>0
 | [],_::_=>-1
 | _::_,[]=>1
 | a::r,b::q=>if jT a b=0 then nR r q else jT a b
end
def CG (c d:C):Int:=orI [wJ (dX c:Int) (dX d:Int),wJ c.kind d.kind,compareBytes c.name d.name,wJ c.lo d.lo,wJ c.hi d.hi]
theorem xI (c d:C):jT c d=if CG c d=0 then nR c.parts d.parts else CG c d:=by
 cases c;simp only [jT,CG,dX];rfl
def nY:List C→List C→Option Int
 | [],_=>none
 | _::_,[]=>some 1
 | a::r,b::q=>if jT a b=0 then nY r q else some (jT a b)
theorem Jh:∀(x y:List C),nR x y=(nY x y).getD (if x.length<y.length then -1 else 0)
 | [],[]=>by simp [nR,nY]
 | [],_::_=>by simp [nR,nY]
 | _::_,[]=>by simp [nR,nY]
 | a::r,b::q=>by
  by_cases h:jT a b=0
  ·simp [nR,nY,h,Jh r q]
  ·simp [nR,nY,h]
theorem Ig (x y:List C) (hx:x.length≤100000) (hy:y.length≤100000) (s:St) (cx:Ctx)
  (ih:∀p∈x,∀q∈y,∀(s:St) (cx:Ctx),ah P0 (.fn (.func aH) [] []) [kE p,kE q] s cx=.ret (.i .i64 (jT p q)) s):∀(rest:List C) (i:Nat),x.drop i=rest→
  ∃j:Int,fH (aB P0.glob (ah P0) cx false au) [0,1,2,11,12,13]
   [(0,.v (slf true (x.map kE))),(1,.v (slf true (y.map kE))),(2,.v (.fn (.func aH) [] [])),(11,.v (slf true (x.map kE))),(12,.v (.i .i64 x.length)),(13,.v (.i .i64 i))] s=
   match nY rest (y.drop i) with
   | none=>.exit 0 [(0,.v (slf true (x.map kE))),(1,.v (slf true (y.map kE))),(2,.v (.fn (.func aH) [] [])),(11,.v (slf true (x.map kE))),(12,.v (.i .i64 x.length)),(13,.v (.i .i64 j)),(14,.v (.b false))] s
   | some v=>.ret [(6,.v (.i .i64 v))] s
 | [],i,h=>by
  have h1:¬i<x.length:=Nat.not_lt.2 (drop_nil h)
  refine ⟨i,ak fun K hK=>?_⟩
  simp [au,h1,nY]
 | p::r,i,h=>by
  obtain ⟨h1,h2,h3,h4⟩:=drop_cons h
  have h5:=h4 h3
  have hp:p∈x:=by rw [←h5];exact List.getElem_mem h3
  have hwi:=wI (i:=i) (by omega)
  cases hq:y.drop i with
  | nil=>
   have h6:y.length≤i:=drop_nil hq
   refine ⟨0,ak fun K hK=>?_⟩
   clear hK h4 ih
   simp [au,h3,h5,h6,nY]
  | cons q t=>
   obtain ⟨g1,g2,g3,g4⟩:=drop_cons hq
   have g5:=g4 g3
   have g6:¬y.length≤i:=by omega
   have hqm:q∈y:=by rw [←g5];exact List.getElem_mem g3
   obtain ⟨j,ih2⟩:=Ig x y hx hy s cx ih r (i+1) h2
   have e1:=ih p hp q hqm
   refine ⟨j,ak fun K hK=>?_⟩
   rw [←hK] at ih2
   clear hK h4 g4 ih
   rw [g2] at ih2
   simp at ih2
   by_cases hz:jT p q=0
   ·simp [au,h3,h5,hwi,g3,g5,g6,e1,ih2,nY,hz]
   ·simp [au,h3,h5,hwi,g3,g5,g6,e1,nY,hz]
theorem Sr (x y:List C) (hx:x.length≤100000) (hy:y.length≤100000)
  (ih:∀p∈x,∀q∈y,∀(s:St) (cx:Ctx),ah P0 (.fn (.func aH) [] []) [kE p,kE q] s cx=.ret (.i .i64 (jT p q)) s) (s:St) (cx:Ctx):
  ah P0 (.fn (.func aG) [] []) [slf true (x.map kE),slf true (y.map kE),.fn (.func aH) [] []] s cx=.ret (.i .i64 (nR x y)) s:=by
 refine kN (by simp) ?_
 obtain ⟨j,h⟩:=Ig x y hx hy s ⟨cx.lim,s.length⟩ ih x 0 rfl
 rw [Jh]
 simp at h
 clear ih
 cases hc:nY x y with
 | none=>
  simp [hc] at h
  by_cases hl:x.length<y.length
  ·simp [af,ay,h,hl]
  ·simp [af,ay,h,hl]
 | some v=>
  simp [hc] at h
  simp [af,ay,h]
theorem F6:∀(c:C),wC c≤1000→∀(d:C),wC d≤1000→∀(s:St) (cx:Ctx),ah P0 (.fn (.func aH) [] []) [kE c,kE d] s cx=.ret (.i .i64 (jT c d)) s:=by
 refine C.ind' fun c ih hw d hd s cx=>?_
 have hwc:=sD c
 have hwd:=sD d
 have hlc:=yX c.parts
 have hld:=yX d.parts
 have e1:=Sr c.parts d.parts (by omega) (by omega) (fun p hp q hq=>ih p hp (by have:=xq hp;omega) q (by have:=xq hq;omega))
 have e2:=D8 [wJ (dX c:Int) (dX d:Int),wJ c.kind d.kind,compareBytes c.name d.name,wJ c.lo d.lo,wJ c.hi d.hi] (by simp)
 refine EH (by simp) ?_
 rw [xI]
 clear ih
 change ∀(s:St) (cx:Ctx),_=CO.ret (.i .i64 (CG c d)) s at e2
 simp at e2
 by_cases hz:CG c d=0
 ·simp [af,iD,e1,e2,hz,List.range_succ]
 ·simp [af,iD,e2,hz,List.range_succ]
theorem zf (c d:C) (hc:wC c≤1000) (hd:wC d≤1000) (s:St) (cx:Ctx):ah P0 (.fn (.func nN) [] []) [bG c,bG d] s cx=.ret (.i .i64 (jT c d)) s:=by
 refine LP (by simp) ?_
 have e1:=zK c hc
 have e2:=zK d hd
 have e3:=F6 c hc d hd
 simp [af,uV,e1,e2,e3]
end Go.Ai.Z
