/-
 terms.Compare: the order of concepts.
-/
import Derived.Test.YtpnlnnfcaeednaaGreatDoorAiK4
set_option maxRecDepth 100000
set_option linter.unusedSimpArgs false
set_option linter.unusedVariables false
set_option linter.unusedSectionVars false
namespace Go.Ai.Z
open Go.Lib (compareBytes)
mutual
def kE:C→AV
 | .mk k n l h z ps=>.ag [.i .i64 k,.s n,.i .i64 l,.i .i64 h,slf z (KD ps),.i .i64 ((1+fC ps:Nat):Int),slf true (Oc ps)]
def Oc:List C→List AV
 | []=>[]
 | a::r=>kE a::Oc r
end
theorem RF:∀ps:List C,Oc ps=ps.map kE
 | []=>by simp [Oc]
 | a::r=>by simp [Oc,RF r]
theorem Eg (c:C):kE c=.ag [.i .i64 c.kind,.s c.name,.i .i64 c.lo,.i .i64 c.hi,slf c.z (c.parts.map bD),.i .i64 (dR c:Int),slf true (c.parts.map kE)]:=by
 cases c;simp [kE,KC,RF,dR]
@[simp] theorem af4 (c:C):(kE c).plain=kE c:=by rw [Eg];simp
@[simp] theorem agy (c:C):(kE c).cells=[.i .i64 c.kind,.s c.name,.i .i64 c.lo,.i .i64 c.hi,slf c.z (c.parts.map bD),.i .i64 (dR c:Int),slf true (c.parts.map kE)]:=by rw [Eg];rfl
@[simp] theorem ahc (c:C):AV.ag [.i .i64 c.kind,.s c.name,.i .i64 c.lo,.i .i64 c.hi,slf c.z (c.parts.map bD),.i .i64 (dR c:Int),slf true (c.parts.map kE)]=kE c:=(Eg c).symm
mutual
theorem Nc (n:Nat):∀c:C,(kE c).under n=true
 | .mk k nm l h z ps=>by simp [kE,zy n ps,Dv n ps]
theorem Dv (n:Nat):∀ps:List C,dA n (Oc ps)=true
 | []=>by simp [Oc]
 | a::r=>by simp [Oc,Nc n a,Dv n r]
end
@[simp] theorem afH (n:Nat) (c:C):(kE c).under n=true:=Nc n c
@[simp] theorem afe (n:Nat) (ps:List C):dA n (ps.map kE)=true:=by rw [←RF];exact Dv n ps
theorem BV:∀x y:List C,fC (x++y)=fC x+fC y
 | [],y=>by simp [fC]
 | a::x,y=>by simp only [List.cons_append,fC,BV x y];omega
def avP (s:St) (t:List C):AV:=match t with | []=>.ns|t=>.st s.length (t.map kE)
def stP (s:St) (t:List C):St:=match t with | []=>s|t=>s++[.row aV 7 t.length]
theorem adb (c:C) (hps:c.parts.length≤100000) (hw:dR c≤100000) (s:St) (ih:∀p∈c.parts,∀(s:St) (cx:Ctx),ah P0 (.fn (.func mQ) [] []) [bD p] s cx=.ret (kE p) s):
  ∀(rest:List C) (i:Nat) (t:List C),c.parts.drop i=rest→c.parts=t++rest→t.length=i→
  ∃j:Int,eX (aC P0.glob (ah P0) ⟨s.length,s.length⟩ false rD) [2,9,10,11]
   [(2,.bx [.i .i64 c.kind,.s c.name,.i .i64 c.lo,.i .i64 c.hi,slf c.z (c.parts.map bD),.i .i64 ((1+fC t:Nat):Int),avP s t]),(9,.v (slf c.z (c.parts.map bD))),(10,.v (.i .i64 c.parts.length)),(11,.v (.i .i64 i))] (stP s t)=
   .exit 0 [(2,.bx [.i .i64 c.kind,.s c.name,.i .i64 c.lo,.i .i64 c.hi,slf c.z (c.parts.map bD),.i .i64 (dR c:Int),avP s c.parts]),(9,.v (slf c.z (c.parts.map bD))),(10,.v (.i .i64 c.parts.length)),(11,.v (.i .i64 j)),(12,.v (.b false))] (stP s c.parts)
 | [],i,t,h,hc,ht=>by
  have h1:¬i<c.parts.length:=Nat.not_lt.2 (drop_nil h)
  have hc':c.parts=t:=by simpa using hc
  refine ⟨i,ak fun K hK=>?_⟩
  rw [nT,hc']
  rw [hc'] at h1
  simp [rD,h1]
 | p::r,i,t,h,hc,ht=>by
  obtain ⟨h1,h2,h3,h4⟩:=drop_cons h
  have h5:=h4 h3
  have hp:p∈c.parts:=by rw [←h5];exact List.getElem_mem h3
  have hwi:=wI (i:=i) (by omega)
  have hsz:fC (t++[p])=fC t+dR p:=by rw [BV];simp [fC]
  have hle:fC (t++[p])≤fC c.parts:=by rw [hc,BV,BV];simp [fC]
  have hw2:=nT c
  obtain ⟨j,ih2⟩:=adb c hps hw s ih r (i+1) (t++[p]) h2 (by simp [hc]) (by simp [ht])
  refine ⟨j,ak fun K hK=>?_⟩
  rw [←hK] at ih2
  have e1:=ih p hp
  have hadd:IntKind.i64.wrap (((1+fC t:Nat):Int)+(dR p:Int))=((1+fC (t++[p]):Nat):Int):=by
   rw [hsz];rw [w64]<;>omega
  clear hK h4 ih hle hw2 hsz
  have hm:t.length+1≤eu:=by unfold eu;omega
  cases t with
  | nil=>
   simp at ht
   subst ht
   simp [avP,stP] at ih2 hadd hm hwi
   simp [rD,avP,stP,h3,h5,hwi,e1,hm,ih2,hadd,List.range_succ]
  | cons a t=>
   simp [avP,stP] at ih2 hadd
   simp at ht hm
   simp [rD,avP,stP,h3,h5,hwi,e1,hm,ih2,hadd,List.range_succ]
theorem zQ:∀(c:C),wC c≤1000→∀(s:St) (cx:Ctx),ah P0 (.fn (.func mQ) [] []) [bD c] s cx=.ret (kE c) s:=by
 refine C.ind' fun c ih hw s cx=>?_
 have h1:=WO c
 have h2:=yE c.parts
 have h3:=qm c
 obtain ⟨j,hl⟩:=adb c (by omega) (by omega) s (fun p hp=>ih p hp (by have:=wM hp;omega)) c.parts 0 [] rfl rfl rfl
 refine SY (by simp) ?_
 have hn:∀k v,avP s c.parts=.st k v→k=s.length∧v=c.parts.map kE:=by
  intro k v h
  cases hps:c.parts with
  | nil=>rw [hps] at h;simp [avP] at h
  | cons a r=>rw [hps] at h;simp [avP] at h;exact ⟨h.1.symm,by simpa using h.2.symm⟩
 clear hn ih
 rw [Eg]
 cases hps:c.parts with
 | nil=>
  rw [hps] at hl
  simp [avP,stP,fC] at hl
  simp [af,vY,hps,dX,hl]
 | cons a r=>
  rw [hps] at hl
  simp [avP,stP,fC] at hl
  simp [af,vY,hps,dX,hl,frz]
end Go.Ai.Z
namespace Go.Ai.Z
open Go.Lib (compareBytes)
def yL (a b:Int):Int:=if a<b then -1 else if b<a then 1 else 0
theorem abJ {a b:Int}:yL a b=0 ↔ a=b:=by unfold yL;(repeat' split)<;>simp<;>omega
@[simp] theorem ab6 (a:Int) (s:St) (cx:Ctx):ah P0 (.fn (.func lJ) [] []) [.i .i64 a] s cx=.ret (.b false) s:=by
 refine MJ (by simp) ?_
 simp [af,oK]
@[simp] theorem aaw (a b:Int) (s:St) (cx:Ctx):ah P0 (.fn (.func iG) [] []) [.i .i64 a,.i .i64 b] s cx=.ret (.i .i64 (yL a b)) s:=by
 refine Jf (by simp) ?_
 unfold yL
 by_cases h1:a<b
 ·simp [af,gX,h1]
 ·by_cases h2:b<a
  ·simp [af,gX,h1,h2]
  ·simp [af,gX,h1,h2]
def orI:List Int→Int
 | []=>0
 | a::r=>if a=0 then orI r else a
theorem Xj:∀{l:List Int},orI l=0 ↔ ∀a∈l,a=0
 | []=>by simp [orI]
 | a::r=>by
  unfold orI
  by_cases h:a=0
  ·simp [h,Xj (l:=r)]
  ·simp [h]
theorem Xx (l:List Int) (hl:l.length≤100000) (s:St) (cx:Ctx):∀(rest:List Int) (i:Nat),l.drop i=rest→
  ∃j:Int,eX (aC P0.glob (ah P0) cx false jD) [3,6,7,8] [(3,.v (.i .i64 0)),(6,.v (.sl (l.map (AV.i .i64)))),(7,.v (.i .i64 l.length)),(8,.v (.i .i64 i))] s=
   if orI rest=0 then .exit 0 [(3,.v (.i .i64 0)),(6,.v (.sl (l.map (AV.i .i64)))),(7,.v (.i .i64 l.length)),(8,.v (.i .i64 j)),(9,.v (.b false))] s
   else .ret [(2,.v (.i .i64 (orI rest)))] s
 | [],i,h=>by
  have h1:¬i<l.length:=Nat.not_lt.2 (drop_nil h)
  refine ⟨i,ak fun K hK=>?_⟩
  simp [jD,h1,orI]
 | p::r,i,h=>by
  obtain ⟨h1,h2,h3,h4⟩:=drop_cons h
  have h5:=h4 h3
  have hwi:=wI (i:=i) (by omega)
  obtain ⟨j,ih⟩:=Xx l hl s cx r (i+1) h2
  refine ⟨j,ak fun K hK=>?_⟩
  rw [←hK] at ih
  clear hK h4
  simp at ih
  by_cases hp:p=0
  ·simp [jD,h3,h5,hwi,ih,orI,hp]
  ·simp [jD,h3,h5,hwi,orI,hp]
theorem VX (l:List Int) (hl:l.length≤100000) (s:St) (cx:Ctx):ah P0 (.fn (.func sV) [] []) [.sl (l.map (AV.i .i64))] s cx=.ret (.i .i64 (orI l)) s:=by
 refine Ti (by simp) ?_
 obtain ⟨j,h⟩:=Xx l hl s ⟨s.length,s.length⟩ l 0 rfl
 simp at h
 by_cases h0:orI l=0
 ·simp [h0] at h
  simp [af,oD,h,h0]
 ·simp [h0] at h
  simp [af,oD,h]
@[simp] theorem aau (a b:List UInt8) (s:St) (cx:Ctx):ah P0 (.fn (.func qF) [] []) [.s a,.s b] s cx=.ret (.i .i64 (compareBytes a b)) s:=
 xX (h:=Ig y8) rfl (by simp [y8])
mutual
def kS:C→C→Int
 | .mk k n l h z ps,d=>
  let x:=orI [yL ((1+fC ps:Nat):Int) (dR d:Int),yL k d.kind,compareBytes n d.name,yL l d.lo,yL h d.hi]
  if x=0 then nY ps d.parts else x
def nY:List C→List C→Int
 | [],[]=>0
 | [],_::_=>-1
 | _::_,[]=>1
 | a::r,b::q=>if kS a b=0 then nY r q else kS a b
end
def CZ (c d:C):Int:=orI [yL (dR c:Int) (dR d:Int),yL c.kind d.kind,compareBytes c.name d.name,yL c.lo d.lo,yL c.hi d.hi]
theorem xR (c d:C):kS c d=if CZ c d=0 then nY c.parts d.parts else CZ c d:=by
 cases c;simp only [kS,CZ,dR];rfl
def oz:List C→List C→Option Int
 | [],_=>none
 | _::_,[]=>some 1
 | a::r,b::q=>if kS a b=0 then oz r q else some (kS a b)
theorem Jl:∀(x y:List C),nY x y=(oz x y).getD (if x.length<y.length then -1 else 0)
 | [],[]=>by simp [nY,oz]
 | [],_::_=>by simp [nY,oz]
 | _::_,[]=>by simp [nY,oz]
 | a::r,b::q=>by
  by_cases h:kS a b=0
  ·simp [nY,oz,h,Jl r q]
  ·simp [nY,oz,h]
theorem Ik (x y:List C) (hx:x.length≤100000) (hy:y.length≤100000) (s:St) (cx:Ctx)
  (ih:∀p∈x,∀q∈y,∀(s:St) (cx:Ctx),ah P0 (.fn (.func aH) [] []) [kE p,kE q] s cx=.ret (.i .i64 (kS p q)) s):∀(rest:List C) (i:Nat),x.drop i=rest→
  ∃j:Int,eX (aC P0.glob (ah P0) cx false au) [0,1,2,11,12,13]
   [(0,.v (slf true (x.map kE))),(1,.v (slf true (y.map kE))),(2,.v (.fn (.func aH) [] [])),(11,.v (slf true (x.map kE))),(12,.v (.i .i64 x.length)),(13,.v (.i .i64 i))] s=
   match oz rest (y.drop i) with
   | none=>.exit 0 [(0,.v (slf true (x.map kE))),(1,.v (slf true (y.map kE))),(2,.v (.fn (.func aH) [] [])),(11,.v (slf true (x.map kE))),(12,.v (.i .i64 x.length)),(13,.v (.i .i64 j)),(14,.v (.b false))] s
   | some v=>.ret [(6,.v (.i .i64 v))] s
 | [],i,h=>by
  have h1:¬i<x.length:=Nat.not_lt.2 (drop_nil h)
  refine ⟨i,ak fun K hK=>?_⟩
  simp [au,h1,oz]
 | p::r,i,h=>by
  obtain ⟨h1,h2,h3,h4⟩:=drop_cons h
  have h5:=h4 h3
  have hp:p∈x:=by rw [←h5];exact List.getElem_mem h3
  have hwi:=wI (i:=i) (by omega)
  cases hq:y.drop i with
  | nil=>
   have h6:y.length≤i:=drop_nil hq
   refine ⟨0,ak fun K hK=>?_⟩
   clear hK h4 ih
   simp [au,h3,h5,h6,oz]
  | cons q t=>
   obtain ⟨g1,g2,g3,g4⟩:=drop_cons hq
   have g5:=g4 g3
   have g6:¬y.length≤i:=by omega
   have hqm:q∈y:=by rw [←g5];exact List.getElem_mem g3
   obtain ⟨j,ih2⟩:=Ik x y hx hy s cx ih r (i+1) h2
   have e1:=ih p hp q hqm
   refine ⟨j,ak fun K hK=>?_⟩
   rw [←hK] at ih2
   clear hK h4 g4 ih
   rw [g2] at ih2
   simp at ih2
   by_cases hz:kS p q=0
   ·simp [au,h3,h5,hwi,g3,g5,g6,e1,ih2,oz,hz]
   ·simp [au,h3,h5,hwi,g3,g5,g6,e1,oz,hz]
theorem TA (x y:List C) (hx:x.length≤100000) (hy:y.length≤100000)
  (ih:∀p∈x,∀q∈y,∀(s:St) (cx:Ctx),ah P0 (.fn (.func aH) [] []) [kE p,kE q] s cx=.ret (.i .i64 (kS p q)) s) (s:St) (cx:Ctx):
  ah P0 (.fn (.func aG) [] []) [slf true (x.map kE),slf true (y.map kE),.fn (.func aH) [] []] s cx=.ret (.i .i64 (nY x y)) s:=by
 refine kR (by simp) ?_
 obtain ⟨j,h⟩:=Ik x y hx hy s ⟨cx.lim,s.length⟩ ih x 0 rfl
 rw [Jl]
 simp at h
 clear ih
 cases hc:oz x y with
 | none=>
  simp [hc] at h
  by_cases hl:x.length<y.length
  ·simp [af,ay,h,hl]
  ·simp [af,ay,h,hl]
 | some v=>
  simp [hc] at h
  simp [af,ay,h]
theorem Gf:∀(c:C),wC c≤1000→∀(d:C),wC d≤1000→∀(s:St) (cx:Ctx),ah P0 (.fn (.func aH) [] []) [kE c,kE d] s cx=.ret (.i .i64 (kS c d)) s:=by
 refine C.ind' fun c ih hw d hd s cx=>?_
 have hwc:=qm c
 have hwd:=qm d
 have hlc:=yE c.parts
 have hld:=yE d.parts
 have e1:=TA c.parts d.parts (by omega) (by omega) (fun p hp q hq=>ih p hp (by have:=wM hp;omega) q (by have:=wM hq;omega))
 have e2:=VX [yL (dR c:Int) (dR d:Int),yL c.kind d.kind,compareBytes c.name d.name,yL c.lo d.lo,yL c.hi d.hi] (by simp)
 refine ES (by simp) ?_
 rw [xR]
 clear ih
 change ∀(s:St) (cx:Ctx),_=CO.ret (.i .i64 (CZ c d)) s at e2
 simp at e2
 by_cases hz:CZ c d=0
 ·simp [af,iq,e1,e2,hz,List.range_succ]
 ·simp [af,iq,e2,hz,List.range_succ]
theorem OY (c d:C) (hc:wC c≤1000) (hd:wC d≤1000) (s:St) (cx:Ctx):ah P0 (.fn (.func tH) [] []) [bD c,bD d] s cx=.ret (.i .i64 (kS c d)) s:=by
 refine MB (by simp) ?_
 have e1:=zQ c hc
 have e2:=zQ d hd
 have e3:=Gf c hc d hd
 simp [af,ve,e1,e2,e3]
end Go.Ai.Z
