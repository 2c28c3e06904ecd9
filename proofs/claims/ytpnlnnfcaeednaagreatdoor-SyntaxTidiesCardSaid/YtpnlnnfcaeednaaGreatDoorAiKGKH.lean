/-
 terms.Compare: the order of concepts.
-/
import Derived.Test.YtpnlnnfcaeednaaGreatDoorAiK4
set_option maxRecDepth 100000
set_option linter.unusedSimpArgs false
set_option linter.unusedVariables false
set_option linter.unusedSectionVars false
namespace Go.Ai.Z
open Go.Lib (compareBytes)
mutual
def kG:C→AV
 | .mk k n l h z ps=>.ag [.i .i64 k,.s n,.i .i64 l,.i .i64 h,slf z (KJ ps),.i .i64 ((1+dY ps:Nat):Int),slf true (N9 ps)]
def N9:List C→List AV
 | []=>[]
 | a::r=>kG a::N9 r
end
theorem Rl:∀ps:List C,N9 ps=ps.map kG
 | []=>by simp [N9]
 | a::r=>by simp [N9,Rl r]
theorem Ed (c:C):kG c=.ag [.i .i64 c.kind,.s c.name,.i .i64 c.lo,.i .i64 c.hi,slf c.z (c.parts.map bF),.i .i64 (dH c:Int),slf true (c.parts.map kG)]:=by
 cases c;simp [kG,KI,Rl,dH]
@[simp] theorem afM (c:C):(kG c).plain=kG c:=by rw [Ed];simp
@[simp] theorem agh (c:C):(kG c).cells=[.i .i64 c.kind,.s c.name,.i .i64 c.lo,.i .i64 c.hi,slf c.z (c.parts.map bF),.i .i64 (dH c:Int),slf true (c.parts.map kG)]:=by rw [Ed];rfl
@[simp] theorem agW (c:C):AV.ag [.i .i64 c.kind,.s c.name,.i .i64 c.lo,.i .i64 c.hi,slf c.z (c.parts.map bF),.i .i64 (dH c:Int),slf true (c.parts.map kG)]=kG c:=(Ed c).symm
mutual
theorem MZ (n:Nat):∀c:C,(kG c).under n=true
 | .mk k nm l h z ps=>by simp [kG,zo n ps,Dv n ps]
theorem Dv (n:Nat):∀ps:List C,dK n (N9 ps)=true
 | []=>by simp [N9]
 | a::r=>by simp [N9,MZ n a,Dv n r]
end
@[simp] theorem afs (n:Nat) (c:C):(kG c).under n=true:=MZ n c
@[simp] theorem aeY (n:Nat) (ps:List C):dK n (ps.map kG)=true:=by rw [←Rl];exact Dv n ps
theorem BU:∀x y:List C,dY (x++y)=dY x+dY y
 | [],y=>by simp [dY]
 | a::x,y=>by simp only [List.cons_append,dY,BU x y];omega
def avP (s:St) (t:List C):AV:=match t with | []=>.ns|t=>.st s.length (t.map kG)
def stP (s:St) (t:List C):St:=match t with | []=>s|t=>s++[.row aU 7 t.length]
theorem acS (c:C) (hps:c.parts.length≤100000) (hw:dH c≤100000) (s:St) (ih:∀p∈c.parts,∀(s:St) (cx:Ctx),ah P0 (.fn (.func mX) [] []) [bF p] s cx=.ret (kG p) s):
  ∀(rest:List C) (i:Nat) (t:List C),c.parts.drop i=rest→c.parts=t++rest→t.length=i→
  ∃j:Int,fC (aB P0.glob (ah P0) ⟨s.length,s.length⟩ false qX) [2,9,10,11]
   [(2,.bx [.i .i64 c.kind,.s c.name,.i .i64 c.lo,.i .i64 c.hi,slf c.z (c.parts.map bF),.i .i64 ((1+dY t:Nat):Int),avP s t]),(9,.v (slf c.z (c.parts.map bF))),(10,.v (.i .i64 c.parts.length)),(11,.v (.i .i64 i))] (stP s t)=
   .exit 0 [(2,.bx [.i .i64 c.kind,.s c.name,.i .i64 c.lo,.i .i64 c.hi,slf c.z (c.parts.map bF),.i .i64 (dH c:Int),avP s c.parts]),(9,.v (slf c.z (c.parts.map bF))),(10,.v (.i .i64 c.parts.length)),(11,.v (.i .i64 j)),(12,.v (.b false))] (stP s c.parts)
 | [],i,t,h,hc,ht=>by
  have h1:¬i<c.parts.length:=Nat.not_lt.2 (drop_nil h)
  have hc':c.parts=t:=by simpa using hc
  refine ⟨i,ak fun K hK=>?_⟩
  rw [oN,hc']
  rw [hc'] at h1
  simp [qX,h1]
 | p::r,i,t,h,hc,ht=>by
  obtain ⟨h1,h2,h3,h4⟩:=drop_cons h
  have h5:=h4 h3
  have hp:p∈c.parts:=by rw [←h5];exact List.getElem_mem h3
  have hwi:=wI (i:=i) (by omega)
  have hsz:dY (t++[p])=dY t+dH p:=by rw [BU];simp [dY]
  have hle:dY (t++[p])≤dY c.parts:=by rw [hc,BU,BU];simp [dY]
  have hw2:=oN c
  obtain ⟨j,ih2⟩:=acS c hps hw s ih r (i+1) (t++[p]) h2 (by simp [hc]) (by simp [ht])
  refine ⟨j,ak fun K hK=>?_⟩
  rw [←hK] at ih2
  have e1:=ih p hp
  have hadd:IntKind.i64.wrap (((1+dY t:Nat):Int)+(dH p:Int))=((1+dY (t++[p]):Nat):Int):=by
   rw [hsz];rw [w64]<;>omega
  clear hK h4 ih hle hw2 hsz
  have hm:t.length+1≤fQ:=by unfold fQ;omega
  cases t with
  | nil=>
   simp at ht
   subst ht
   simp [avP,stP] at ih2 hadd hm hwi
   simp [qX,avP,stP,h3,h5,hwi,e1,hm,ih2,hadd,List.range_succ]
  | cons a t=>
   simp [avP,stP] at ih2 hadd
   simp at ht hm
   simp [qX,avP,stP,h3,h5,hwi,e1,hm,ih2,hadd,List.range_succ]
theorem zL:∀(c:C),wC c≤1000→∀(s:St) (cx:Ctx),ah P0 (.fn (.func mX) [] []) [bF c] s cx=.ret (kG c) s:=by
 refine C.ind' fun c ih hw s cx=>?_
 have h1:=Fv c
 have h2:=y8 c.parts
 have h3:=rV c
 obtain ⟨j,hl⟩:=acS c (by omega) (by omega) s (fun p hp=>ih p hp (by have:=xB hp;omega)) c.parts 0 [] rfl rfl rfl
 refine SG (by simp) ?_
 have hn:∀k v,avP s c.parts=.st k v→k=s.length∧v=c.parts.map kG:=by
  intro k v h
  cases hps:c.parts with
  | nil=>rw [hps] at h;simp [avP] at h
  | cons a r=>rw [hps] at h;simp [avP] at h;exact ⟨h.1.symm,by simpa using h.2.symm⟩
 clear hn ih
 rw [Ed]
 cases hps:c.parts with
 | nil=>
  rw [hps] at hl
  simp [avP,stP,dY] at hl
  simp [af,vV,hps,dV,hl]
 | cons a r=>
  rw [hps] at hl
  simp [avP,stP,dY] at hl
  simp [af,vV,hps,dV,hl,frz]
end Go.Ai.Z
namespace Go.Ai.Z
open Go.Lib (compareBytes)
def wO (a b:Int):Int:=if a<b then -1 else if b<a then 1 else 0
theorem Ut {a b:Int}:wO a b=0 ↔ a=b:=by unfold wO;(repeat' split)<;>simp<;>omega
@[simp] theorem abH (a:Int) (s:St) (cx:Ctx):ah P0 (.fn (.func lK) [] []) [.i .i64 a] s cx=.ret (.b false) s:=by
 refine MC (by simp) ?_
 simp [af,oD]
@[simp] theorem aae (a b:Int) (s:St) (cx:Ctx):ah P0 (.fn (.func fP) [] []) [.i .i64 a,.i .i64 b] s cx=.ret (.i .i64 (wO a b)) s:=by
 refine Jm (by simp) ?_
 unfold wO
 by_cases h1:a<b
 ·simp [af,gX,h1]
 ·by_cases h2:b<a
  ·simp [af,gX,h1,h2]
  ·simp [af,gX,h1,h2]
def orI:List Int→Int
 | []=>0
 | a::r=>if a=0 then orI r else a
theorem JO:∀{l:List Int},orI l=0 ↔ ∀a∈l,a=0
 | []=>by simp [orI]
 | a::r=>by
  unfold orI
  by_cases h:a=0
  ·simp [h,JO (l:=r)]
  ·simp [h]
theorem Xi (l:List Int) (hl:l.length≤100000) (s:St) (cx:Ctx):∀(rest:List Int) (i:Nat),l.drop i=rest→
  ∃j:Int,fC (aB P0.glob (ah P0) cx false jF) [3,6,7,8] [(3,.v (.i .i64 0)),(6,.v (.sl (l.map (AV.i .i64)))),(7,.v (.i .i64 l.length)),(8,.v (.i .i64 i))] s=
   if orI rest=0 then .exit 0 [(3,.v (.i .i64 0)),(6,.v (.sl (l.map (AV.i .i64)))),(7,.v (.i .i64 l.length)),(8,.v (.i .i64 j)),(9,.v (.b false))] s
   else .ret [(2,.v (.i .i64 (orI rest)))] s
 | [],i,h=>by
  have h1:¬i<l.length:=Nat.not_lt.2 (drop_nil h)
  refine ⟨i,ak fun K hK=>?_⟩
  simp [jF,h1,orI]
 | p::r,i,h=>by
  obtain ⟨h1,h2,h3,h4⟩:=drop_cons h
  have h5:=h4 h3
  have hwi:=wI (i:=i) (by omega)
  obtain ⟨j,ih⟩:=Xi l hl s cx r (i+1) h2
  refine ⟨j,ak fun K hK=>?_⟩
  rw [←hK] at ih
  clear hK h4
  simp at ih
  by_cases hp:p=0
  ·simp [jF,h3,h5,hwi,ih,orI,hp]
  ·simp [jF,h3,h5,hwi,orI,hp]
theorem Eg (l:List Int) (hl:l.length≤100000) (s:St) (cx:Ctx):ah P0 (.fn (.func nZ) [] []) [.sl (l.map (AV.i .i64))] s cx=.ret (.i .i64 (orI l)) s:=by
 refine SL (by simp) ?_
 obtain ⟨j,h⟩:=Xi l hl s ⟨s.length,s.length⟩ l 0 rfl
 simp at h
 by_cases h0:orI l=0
 ·simp [h0] at h
  simp [af,oq,h,h0]
 ·simp [h0] at h
  simp [af,oq,h]
@[simp] theorem aac (a b:List UInt8) (s:St) (cx:Ctx):ah P0 (.fn (.func jP) [] []) [.s a,.s b] s cx=.ret (.i .i64 (compareBytes a b)) s:=
 xO (h:=Il yX) rfl (by simp [yX])
mutual
def jB:C→C→Int
 | .mk k n l h z ps,d=>
  let x:=orI [wO ((1+dY ps:Nat):Int) (dH d:Int),wO k d.kind,compareBytes n d.name,wO l d.lo,wO h d.hi]
  if x=0 then nU ps d.parts else x
def nU:List C→List C→Int
 | [],[]=>0
 | [],_::_=>-1
 | _::_,[]=>1
 | a::r,b::q=>if jB a b=0 then nU r q else jB a b
end
def CZ (c d:C):Int:=orI [wO (dH c:Int) (dH d:Int),wO c.kind d.kind,compareBytes c.name d.name,wO c.lo d.lo,wO c.hi d.hi]
theorem xJ (c d:C):jB c d=if CZ c d=0 then nU c.parts d.parts else CZ c d:=by
 cases c;simp only [jB,CZ,dH];rfl
def nY:List C→List C→Option Int
 | [],_=>none
 | _::_,[]=>some 1
 | a::r,b::q=>if jB a b=0 then nY r q else some (jB a b)
theorem Jt:∀(x y:List C),nU x y=(nY x y).getD (if x.length<y.length then -1 else 0)
 | [],[]=>by simp [nU,nY]
 | [],_::_=>by simp [nU,nY]
 | _::_,[]=>by simp [nU,nY]
 | a::r,b::q=>by
  by_cases h:jB a b=0
  ·simp [nU,nY,h,Jt r q]
  ·simp [nU,nY,h]
theorem Ir (x y:List C) (hx:x.length≤100000) (hy:y.length≤100000) (s:St) (cx:Ctx)
  (ih:∀p∈x,∀q∈y,∀(s:St) (cx:Ctx),ah P0 (.fn (.func aH) [] []) [kG p,kG q] s cx=.ret (.i .i64 (jB p q)) s):∀(rest:List C) (i:Nat),x.drop i=rest→
  ∃j:Int,fC (aB P0.glob (ah P0) cx false au) [0,1,2,11,12,13]
   [(0,.v (slf true (x.map kG))),(1,.v (slf true (y.map kG))),(2,.v (.fn (.func aH) [] [])),(11,.v (slf true (x.map kG))),(12,.v (.i .i64 x.length)),(13,.v (.i .i64 i))] s=
   match nY rest (y.drop i) with
   | none=>.exit 0 [(0,.v (slf true (x.map kG))),(1,.v (slf true (y.map kG))),(2,.v (.fn (.func aH) [] [])),(11,.v (slf true (x.map kG))),(12,.v (.i .i64 x.length)),(13,.v (.i .i64 j)),(14,.v (.b false))] s
   | some v=>.ret [(6,.v (.i .i64 v))] s
 | [],i,h=>by
  have h1:¬i<x.length:=Nat.not_lt.2 (drop_nil h)
  refine ⟨i,ak fun K hK=>?_⟩
  simp [au,h1,nY]
 | p::r,i,h=>by
  obtain ⟨h1,h2,h3,h4⟩:=drop_cons h
  have h5:=h4 h3
  have hp:p∈x:=by rw [←h5];exact List.getElem_mem h3
  have hwi:=wI (i:=i) (by omega)
  cases hq:y.drop i with
  | nil=>
   have h6:y.length≤i:=drop_nil hq
   refine ⟨0,ak fun K hK=>?_⟩
   clear hK h4 ih
   simp [au,h3,h5,h6,nY]
  | cons q t=>
   obtain ⟨g1,g2,g3,g4⟩:=drop_cons hq
   have g5:=g4 g3
   have g6:¬y.length≤i:=by omega
   have hqm:q∈y:=by rw [←g5];exact List.getElem_mem g3
   obtain ⟨j,ih2⟩:=Ir x y hx hy s cx ih r (i+1) h2
   have e1:=ih p hp q hqm
   refine ⟨j,ak fun K hK=>?_⟩
   rw [←hK] at ih2
   clear hK h4 g4 ih
   rw [g2] at ih2
   simp at ih2
   by_cases hz:jB p q=0
   ·simp [au,h3,h5,hwi,g3,g5,g6,e1,ih2,nY,hz]
   ·simp [au,h3,h5,hwi,g3,g5,g6,e1,nY,hz]
theorem S9 (x y:List C) (hx:x.length≤100000) (hy:y.length≤100000)
  (ih:∀p∈x,∀q∈y,∀(s:St) (cx:Ctx),ah P0 (.fn (.func aH) [] []) [kG p,kG q] s cx=.ret (.i .i64 (jB p q)) s) (s:St) (cx:Ctx):
  ah P0 (.fn (.func aG) [] []) [slf true (x.map kG),slf true (y.map kG),.fn (.func aH) [] []] s cx=.ret (.i .i64 (nU x y)) s:=by
 refine kT (by simp) ?_
 obtain ⟨j,h⟩:=Ir x y hx hy s ⟨cx.lim,s.length⟩ ih x 0 rfl
 rw [Jt]
 simp at h
 clear ih
 cases hc:nY x y with
 | none=>
  simp [hc] at h
  by_cases hl:x.length<y.length
  ·simp [af,ay,h,hl]
  ·simp [af,ay,h,hl]
 | some v=>
  simp [hc] at h
  simp [af,ay,h]
theorem Gj:∀(c:C),wC c≤1000→∀(d:C),wC d≤1000→∀(s:St) (cx:Ctx),ah P0 (.fn (.func aH) [] []) [kG c,kG d] s cx=.ret (.i .i64 (jB c d)) s:=by
 refine C.ind' fun c ih hw d hd s cx=>?_
 have hwc:=rV c
 have hwd:=rV d
 have hlc:=y8 c.parts
 have hld:=y8 d.parts
 have e1:=S9 c.parts d.parts (by omega) (by omega) (fun p hp q hq=>ih p hp (by have:=xB hp;omega) q (by have:=xB hq;omega))
 have e2:=Eg [wO (dH c:Int) (dH d:Int),wO c.kind d.kind,compareBytes c.name d.name,wO c.lo d.lo,wO c.hi d.hi] (by simp)
 refine ES (by simp) ?_
 rw [xJ]
 clear ih
 change ∀(s:St) (cx:Ctx),_=CO.ret (.i .i64 (CZ c d)) s at e2
 simp at e2
 by_cases hz:CZ c d=0
 ·simp [af,iw,e1,e2,hz,List.range_succ]
 ·simp [af,iw,e2,hz,List.range_succ]
theorem zh (c d:C) (hc:wC c≤1000) (hd:wC d≤1000) (s:St) (cx:Ctx):ah P0 (.fn (.func nP) [] []) [bF c,bF d] s cx=.ret (.i .i64 (jB c d)) s:=by
 refine Mc (by simp) ?_
 have e1:=zL c hc
 have e2:=zL d hd
 have e3:=Gj c hc d hd
 simp [af,uY,e1,e2,e3]
end Go.Ai.Z
