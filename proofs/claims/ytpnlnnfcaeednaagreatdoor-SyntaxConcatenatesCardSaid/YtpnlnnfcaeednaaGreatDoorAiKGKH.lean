/-
 terms.Compare: the order of concepts.
-/
import Derived.Test.YtpnlnnfcaeednaaGreatDoorAiK4
set_option maxRecDepth 100000
set_option linter.unusedSimpArgs false
set_option linter.unusedVariables false
set_option linter.unusedSectionVars false
namespace Go.Ai.Z
open Go.Lib (compareBytes)
mutual
def kD:C→AV
 | .mk k n l h z ps=>.ag [.i .i64 k,.s n,.i .i64 l,.i .i64 h,slf z (KD ps),.i .i64 ((1+fD ps:Nat):Int),slf true (Oi ps)]
def Oi:List C→List AV
 | []=>[]
 | a::r=>kD a::Oi r
end
theorem RU:∀ps:List C,Oi ps=ps.map kD
 | []=>by simp [Oi]
 | a::r=>by simp [Oi,RU r]
theorem Eb (c:C):kD c=.ag [.i .i64 c.kind,.s c.name,.i .i64 c.lo,.i .i64 c.hi,slf c.z (c.parts.map bF),.i .i64 (dS c:Int),slf true (c.parts.map kD)]:=by
 cases c;simp [kD,KC,RU,dS]
@[simp] theorem af7 (c:C):(kD c).plain=kD c:=by rw [Eb];simp
@[simp] theorem agC (c:C):(kD c).cells=[.i .i64 c.kind,.s c.name,.i .i64 c.lo,.i .i64 c.hi,slf c.z (c.parts.map bF),.i .i64 (dS c:Int),slf true (c.parts.map kD)]:=by rw [Eb];rfl
@[simp] theorem ahe (c:C):AV.ag [.i .i64 c.kind,.s c.name,.i .i64 c.lo,.i .i64 c.hi,slf c.z (c.parts.map bF),.i .i64 (dS c:Int),slf true (c.parts.map kD)]=kD c:=(Eb c).symm
mutual
theorem Nl (n:Nat):∀c:C,(kD c).under n=true
 | .mk k nm l h z ps=>by simp [kD,zu n ps,Dt n ps]
theorem Dt (n:Nat):∀ps:List C,dL n (Oi ps)=true
 | []=>by simp [Oi]
 | a::r=>by simp [Oi,Nl n a,Dt n r]
end
@[simp] theorem afK (n:Nat) (c:C):(kD c).under n=true:=Nl n c
@[simp] theorem afh (n:Nat) (ps:List C):dL n (ps.map kD)=true:=by rw [←RU];exact Dt n ps
theorem BQ:∀x y:List C,fD (x++y)=fD x+fD y
 | [],y=>by simp [fD]
 | a::x,y=>by simp only [List.cons_append,fD,BQ x y];omega
def avP (s:St) (t:List C):AV:=match t with | []=>.ns|t=>.st s.length (t.map kD)
def stP (s:St) (t:List C):St:=match t with | []=>s|t=>s++[.row aV 7 t.length]
theorem ac7 (c:C) (hps:c.parts.length≤100000) (hw:dS c≤100000) (s:St) (ih:∀p∈c.parts,∀(s:St) (cx:Ctx),ah P0 (.fn (.func mZ) [] []) [bF p] s cx=.ret (kD p) s):
  ∀(rest:List C) (i:Nat) (t:List C),c.parts.drop i=rest→c.parts=t++rest→t.length=i→
  ∃j:Int,eY (aB P0.glob (ah P0) ⟨s.length,s.length⟩ false rE) [2,9,10,11]
   [(2,.bx [.i .i64 c.kind,.s c.name,.i .i64 c.lo,.i .i64 c.hi,slf c.z (c.parts.map bF),.i .i64 ((1+fD t:Nat):Int),avP s t]),(9,.v (slf c.z (c.parts.map bF))),(10,.v (.i .i64 c.parts.length)),(11,.v (.i .i64 i))] (stP s t)=
   .exit 0 [(2,.bx [.i .i64 c.kind,.s c.name,.i .i64 c.lo,.i .i64 c.hi,slf c.z (c.parts.map bF),.i .i64 (dS c:Int),avP s c.parts]),(9,.v (slf c.z (c.parts.map bF))),(10,.v (.i .i64 c.parts.length)),(11,.v (.i .i64 j)),(12,.v (.b false))] (stP s c.parts)
 | [],i,t,h,hc,ht=>by
  have h1:¬i<c.parts.length:=Nat.not_lt.2 (drop_nil h)
  have hc':c.parts=t:=by simpa using hc
  refine ⟨i,ak fun K hK=>?_⟩
  rw [nV,hc']
  rw [hc'] at h1
  simp [rE,h1]
 | p::r,i,t,h,hc,ht=>by
  obtain ⟨h1,h2,h3,h4⟩:=drop_cons h
  have h5:=h4 h3
  have hp:p∈c.parts:=by rw [←h5];exact List.getElem_mem h3
  have hwi:=wI (i:=i) (by omega)
  have hsz:fD (t++[p])=fD t+dS p:=by rw [BQ];simp [fD]
  have hle:fD (t++[p])≤fD c.parts:=by rw [hc,BQ,BQ];simp [fD]
  have hw2:=nV c
  obtain ⟨j,ih2⟩:=ac7 c hps hw s ih r (i+1) (t++[p]) h2 (by simp [hc]) (by simp [ht])
  refine ⟨j,ak fun K hK=>?_⟩
  rw [←hK] at ih2
  have e1:=ih p hp
  have hadd:IntKind.i64.wrap (((1+fD t:Nat):Int)+(dS p:Int))=((1+fD (t++[p]):Nat):Int):=by
   rw [hsz];rw [w64]<;>omega
  clear hK h4 ih hle hw2 hsz
  have hm:t.length+1≤dK:=by unfold dK;omega
  cases t with
  | nil=>
   simp at ht
   subst ht
   simp [avP,stP] at ih2 hadd hm hwi
   simp [rE,avP,stP,h3,h5,hwi,e1,hm,ih2,hadd,List.range_succ]
  | cons a t=>
   simp [avP,stP] at ih2 hadd
   simp at ht hm
   simp [rE,avP,stP,h3,h5,hwi,e1,hm,ih2,hadd,List.range_succ]
theorem zO:∀(c:C),wC c≤1000→∀(s:St) (cx:Ctx),ah P0 (.fn (.func mZ) [] []) [bF c] s cx=.ret (kD c) s:=by
 refine C.ind' fun c ih hw s cx=>?_
 have h1:=WV c
 have h2:=yD c.parts
 have h3:=qj c
 obtain ⟨j,hl⟩:=ac7 c (by omega) (by omega) s (fun p hp=>ih p hp (by have:=wM hp;omega)) c.parts 0 [] rfl rfl rfl
 refine Tq (by simp) ?_
 have hn:∀k v,avP s c.parts=.st k v→k=s.length∧v=c.parts.map kD:=by
  intro k v h
  cases hps:c.parts with
  | nil=>rw [hps] at h;simp [avP] at h
  | cons a r=>rw [hps] at h;simp [avP] at h;exact ⟨h.1.symm,by simpa using h.2.symm⟩
 clear hn ih
 rw [Eb]
 cases hps:c.parts with
 | nil=>
  rw [hps] at hl
  simp [avP,stP,fD] at hl
  simp [af,vY,hps,dV,hl]
 | cons a r=>
  rw [hps] at hl
  simp [avP,stP,fD] at hl
  simp [af,vY,hps,dV,hl,frz]
end Go.Ai.Z
namespace Go.Ai.Z
open Go.Lib (compareBytes)
def yJ (a b:Int):Int:=if a<b then -1 else if b<a then 1 else 0
theorem abE {a b:Int}:yJ a b=0 ↔ a=b:=by unfold yJ;(repeat' split)<;>simp<;>omega
@[simp] theorem ab3 (a:Int) (s:St) (cx:Ctx):ah P0 (.fn (.func lN) [] []) [.i .i64 a] s cx=.ret (.b false) s:=by
 refine MP (by simp) ?_
 simp [af,oK]
@[simp] theorem aaw (a b:Int) (s:St) (cx:Ctx):ah P0 (.fn (.func iH) [] []) [.i .i64 a,.i .i64 b] s cx=.ret (.i .i64 (yJ a b)) s:=by
 refine Jc (by simp) ?_
 unfold yJ
 by_cases h1:a<b
 ·simp [af,gX,h1]
 ·by_cases h2:b<a
  ·simp [af,gX,h1,h2]
  ·simp [af,gX,h1,h2]
def orI:List Int→Int
 | []=>0
 | a::r=>if a=0 then orI r else a
theorem Xo:∀{l:List Int},orI l=0 ↔ ∀a∈l,a=0
 | []=>by simp [orI]
 | a::r=>by
  unfold orI
  by_cases h:a=0
  ·simp [h,Xo (l:=r)]
  ·simp [h]
theorem XB (l:List Int) (hl:l.length≤100000) (s:St) (cx:Ctx):∀(rest:List Int) (i:Nat),l.drop i=rest→
  ∃j:Int,eY (aB P0.glob (ah P0) cx false jG) [3,6,7,8] [(3,.v (.i .i64 0)),(6,.v (.sl (l.map (AV.i .i64)))),(7,.v (.i .i64 l.length)),(8,.v (.i .i64 i))] s=
   if orI rest=0 then .exit 0 [(3,.v (.i .i64 0)),(6,.v (.sl (l.map (AV.i .i64)))),(7,.v (.i .i64 l.length)),(8,.v (.i .i64 j)),(9,.v (.b false))] s
   else .ret [(2,.v (.i .i64 (orI rest)))] s
 | [],i,h=>by
  have h1:¬i<l.length:=Nat.not_lt.2 (drop_nil h)
  refine ⟨i,ak fun K hK=>?_⟩
  simp [jG,h1,orI]
 | p::r,i,h=>by
  obtain ⟨h1,h2,h3,h4⟩:=drop_cons h
  have h5:=h4 h3
  have hwi:=wI (i:=i) (by omega)
  obtain ⟨j,ih⟩:=XB l hl s cx r (i+1) h2
  refine ⟨j,ak fun K hK=>?_⟩
  rw [←hK] at ih
  clear hK h4
  simp at ih
  by_cases hp:p=0
  ·simp [jG,h3,h5,hwi,ih,orI,hp]
  ·simp [jG,h3,h5,hwi,orI,hp]
theorem V5 (l:List Int) (hl:l.length≤100000) (s:St) (cx:Ctx):ah P0 (.fn (.func sU) [] []) [.sl (l.map (AV.i .i64))] s cx=.ret (.i .i64 (orI l)) s:=by
 refine TA (by simp) ?_
 obtain ⟨j,h⟩:=XB l hl s ⟨s.length,s.length⟩ l 0 rfl
 simp at h
 by_cases h0:orI l=0
 ·simp [h0] at h
  simp [af,oG,h,h0]
 ·simp [h0] at h
  simp [af,oG,h]
@[simp] theorem aau (a b:List UInt8) (s:St) (cx:Ctx):ah P0 (.fn (.func qF) [] []) [.s a,.s b] s cx=.ret (.i .i64 (compareBytes a b)) s:=
 xX (h:=Ib y5) rfl (by simp [y5])
mutual
def kR:C→C→Int
 | .mk k n l h z ps,d=>
  let x:=orI [yJ ((1+fD ps:Nat):Int) (dS d:Int),yJ k d.kind,compareBytes n d.name,yJ l d.lo,yJ h d.hi]
  if x=0 then oq ps d.parts else x
def oq:List C→List C→Int
 | [],[]=>0
 | [],_::_=>-1
 | _::_,[]=>1
 | a::r,b::q=>if kR a b=0 then oq r q else kR a b
end
def CX (c d:C):Int:=orI [yJ (dS c:Int) (dS d:Int),yJ c.kind d.kind,compareBytes c.name d.name,yJ c.lo d.lo,yJ c.hi d.hi]
theorem xR (c d:C):kR c d=if CX c d=0 then oq c.parts d.parts else CX c d:=by
 cases c;simp only [kR,CX,dS];rfl
def oC:List C→List C→Option Int
 | [],_=>none
 | _::_,[]=>some 1
 | a::r,b::q=>if kR a b=0 then oC r q else some (kR a b)
theorem Jj:∀(x y:List C),oq x y=(oC x y).getD (if x.length<y.length then -1 else 0)
 | [],[]=>by simp [oq,oC]
 | [],_::_=>by simp [oq,oC]
 | _::_,[]=>by simp [oq,oC]
 | a::r,b::q=>by
  by_cases h:kR a b=0
  ·simp [oq,oC,h,Jj r q]
  ·simp [oq,oC,h]
theorem Ih (x y:List C) (hx:x.length≤100000) (hy:y.length≤100000) (s:St) (cx:Ctx)
  (ih:∀p∈x,∀q∈y,∀(s:St) (cx:Ctx),ah P0 (.fn (.func aI) [] []) [kD p,kD q] s cx=.ret (.i .i64 (kR p q)) s):∀(rest:List C) (i:Nat),x.drop i=rest→
  ∃j:Int,eY (aB P0.glob (ah P0) cx false au) [0,1,2,11,12,13]
   [(0,.v (slf true (x.map kD))),(1,.v (slf true (y.map kD))),(2,.v (.fn (.func aI) [] [])),(11,.v (slf true (x.map kD))),(12,.v (.i .i64 x.length)),(13,.v (.i .i64 i))] s=
   match oC rest (y.drop i) with
   | none=>.exit 0 [(0,.v (slf true (x.map kD))),(1,.v (slf true (y.map kD))),(2,.v (.fn (.func aI) [] [])),(11,.v (slf true (x.map kD))),(12,.v (.i .i64 x.length)),(13,.v (.i .i64 j)),(14,.v (.b false))] s
   | some v=>.ret [(6,.v (.i .i64 v))] s
 | [],i,h=>by
  have h1:¬i<x.length:=Nat.not_lt.2 (drop_nil h)
  refine ⟨i,ak fun K hK=>?_⟩
  simp [au,h1,oC]
 | p::r,i,h=>by
  obtain ⟨h1,h2,h3,h4⟩:=drop_cons h
  have h5:=h4 h3
  have hp:p∈x:=by rw [←h5];exact List.getElem_mem h3
  have hwi:=wI (i:=i) (by omega)
  cases hq:y.drop i with
  | nil=>
   have h6:y.length≤i:=drop_nil hq
   refine ⟨0,ak fun K hK=>?_⟩
   clear hK h4 ih
   simp [au,h3,h5,h6,oC]
  | cons q t=>
   obtain ⟨g1,g2,g3,g4⟩:=drop_cons hq
   have g5:=g4 g3
   have g6:¬y.length≤i:=by omega
   have hqm:q∈y:=by rw [←g5];exact List.getElem_mem g3
   obtain ⟨j,ih2⟩:=Ih x y hx hy s cx ih r (i+1) h2
   have e1:=ih p hp q hqm
   refine ⟨j,ak fun K hK=>?_⟩
   rw [←hK] at ih2
   clear hK h4 g4 ih
   rw [g2] at ih2
   simp at ih2
   by_cases hz:kR p q=0
   ·simp [au,h3,h5,hwi,g3,g5,g6,e1,ih2,oC,hz]
   ·simp [au,h3,h5,hwi,g3,g5,g6,e1,oC,hz]
theorem TL (x y:List C) (hx:x.length≤100000) (hy:y.length≤100000)
  (ih:∀p∈x,∀q∈y,∀(s:St) (cx:Ctx),ah P0 (.fn (.func aI) [] []) [kD p,kD q] s cx=.ret (.i .i64 (kR p q)) s) (s:St) (cx:Ctx):
  ah P0 (.fn (.func aG) [] []) [slf true (x.map kD),slf true (y.map kD),.fn (.func aI) [] []] s cx=.ret (.i .i64 (oq x y)) s:=by
 refine kQ (by simp) ?_
 obtain ⟨j,h⟩:=Ih x y hx hy s ⟨cx.lim,s.length⟩ ih x 0 rfl
 rw [Jj]
 simp at h
 clear ih
 cases hc:oC x y with
 | none=>
  simp [hc] at h
  by_cases hl:x.length<y.length
  ·simp [af,ay,h,hl]
  ·simp [af,ay,h,hl]
 | some v=>
  simp [hc] at h
  simp [af,ay,h]
theorem F6:∀(c:C),wC c≤1000→∀(d:C),wC d≤1000→∀(s:St) (cx:Ctx),ah P0 (.fn (.func aI) [] []) [kD c,kD d] s cx=.ret (.i .i64 (kR c d)) s:=by
 refine C.ind' fun c ih hw d hd s cx=>?_
 have hwc:=qj c
 have hwd:=qj d
 have hlc:=yD c.parts
 have hld:=yD d.parts
 have e1:=TL c.parts d.parts (by omega) (by omega) (fun p hp q hq=>ih p hp (by have:=wM hp;omega) q (by have:=wM hq;omega))
 have e2:=V5 [yJ (dS c:Int) (dS d:Int),yJ c.kind d.kind,compareBytes c.name d.name,yJ c.lo d.lo,yJ c.hi d.hi] (by simp)
 refine EN (by simp) ?_
 rw [xR]
 clear ih
 change ∀(s:St) (cx:Ctx),_=CO.ret (.i .i64 (CX c d)) s at e2
 simp at e2
 by_cases hz:CX c d=0
 ·simp [af,iq,e1,e2,hz,List.range_succ]
 ·simp [af,iq,e2,hz,List.range_succ]
theorem O7 (c d:C) (hc:wC c≤1000) (hd:wC d≤1000) (s:St) (cx:Ctx):ah P0 (.fn (.func tC) [] []) [bF c,bF d] s cx=.ret (.i .i64 (kR c d)) s:=by
 refine MI (by simp) ?_
 have e1:=zO c hc
 have e2:=zO d hd
 have e3:=F6 c hc d hd
 simp [af,uX,e1,e2,e3]
end Go.Ai.Z
