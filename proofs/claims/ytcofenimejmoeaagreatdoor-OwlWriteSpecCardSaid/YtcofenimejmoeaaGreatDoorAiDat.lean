/-
 Slices that may be nil, numbers, lists: more rules for symbolic runs.
-/
import Derived.Test.YtcofenimejmoeaaGreatDoorAiSx
import Derived.IntWalk
set_option maxRecDepth 100000
set_option linter.unusedSimpArgs false
set_option linter.unusedVariables false
set_option linter.unusedSectionVars false
namespace Go.Ai
def slf (z:Bool) (es:List AV):AV:=
 match z,es with
 | true,[]=>.ns
 | _,es=>.sl es
@[simp] theorem Sr (es:List AV):slf false es=.sl es:=by cases es<;>rfl
@[simp] theorem agS:slf true []=.ns:=rfl
@[simp] theorem afF (z:Bool) (e:AV) (es:List AV):slf z (e::es)=.sl (e::es):=by cases z<;>rfl
theorem wU (z:Bool) (es:List AV):slf z es=.sl es∨(slf z es=.ns∧es=[]):=by
 cases z<;>cases es<;>simp
@[simp] theorem aez (z:Bool) (es:List AV):(slf z es).cells=[slf z es]:=by rcases wU z es with h|⟨h,_⟩<;>rw [h]<;>rfl
@[simp] theorem agX (z:Bool) (es:List AV):(slf z es).one=true:=by rcases wU z es with h|⟨h,_⟩<;>rw [h]<;>rfl
@[simp] theorem aei (z:Bool) (es:List AV):(slf z es).plain=slf z es:=by rcases wU z es with h|⟨h,_⟩<;>rw [h]<;>rfl
@[simp] theorem adA (z:Bool) (es:List AV):(slf z es).plain1=slf z es:=by rcases wU z es with h|⟨h,_⟩<;>rw [h]<;>rfl
section
variable {glob:Nat→Option (List AV)} {call:AV→List AV→St→Ctx→CO} {cx:Ctx}
def uz (env:Env):Option EV→Option (List AV)
 | some (.v (.sl es))=>some es
 | some (.v (.st _ es))=>some es
 | some (.v .ns)=>some []
 | some (.v .se)=>some []
 | some (.v .sz)=>some []
 | some (.own _ _ _ es)=>some es
 | some (.al j)=>match lk env j with
  | some (.own _ _ _ es)=>some es
  | _=>none
 | _=>none
@[simp] theorem afZ {env:Env} {x:IX}:elems glob env x=uz env (ev glob env x):=by unfold elems uz;rfl
@[simp] theorem aer {env:Env} {es:List AV}:uz env (some (.v (.sl es)))=some es:=rfl
@[simp] theorem aep {env:Env} {l:Nat} {es:List AV}:uz env (some (.v (.st l es)))=some es:=rfl
@[simp] theorem aeu {env:Env}:uz env (some (.v .se))=some []:=rfl
@[simp] theorem aeo {env:Env}:uz env (some (.v .sz))=some []:=rfl
@[simp] theorem aev {env:Env}:uz env (some (.v .ns))=some []:=rfl
@[simp] theorem adH {env:Env} {z:Bool} {es:List AV}:uz env (some (.v (slf z es)))=some es:=by
 rcases wU z es with h|⟨h,h'⟩
 ·rw [h];rfl
 ·rw [h,h'];rfl
@[simp] theorem adJ {env:Env} {t sz:Nat} {tip:Bool} {es:List AV}:uz env (some (.own tip t sz es))=some es:=rfl
@[simp] theorem aew {env:Env} {j:Nat}:uz env (some (.al j))=match lk env j with
  | some (.own _ _ _ es)=>some es
  | _=>none:=rfl
def aaF (env:Env) (s:St) (sz:Nat) (v:Option AV) (n:Int):RO:=
 match v with
 | some (.sl es)=>match es[n.toNat]? with
  | some e=>if 0≤n∧e.cells.length=sz then .ok (.v (.ip e.cells)) env s else .fail
  | none=>.fail
 | some (.sk l ver sz' o m)=>if sz=sz'∧0≤n∧n.toNat<m then .ok (.v (.sp l ver (o+n.toNat * sz))) env s else .fail
 | _=>.fail
@[simp] theorem ag4 {env:Env} {s:St} {sz l ver sz' o m:Nat} {n:Int}:aaF env s sz (some (.sk l ver sz' o m)) n=if sz=sz'∧0≤n∧n.toNat<m then .ok (.v (.sp l ver (o+n.toNat * sz))) env s else .fail:=rfl
def afU (env:Env) (s:St) (sz:Nat) (k:Nat) (e:Option EV) (n:Int):RO:=
 match e with
 | some (.own _ _ sz' es)=>if sz=sz'∧0≤n∧n.toNat<es.length then .ok (.ep k sz n.toNat 0) env s else .fail
 | _=>.fail
@[simp] theorem agF {sz:Nat} {x i:IX} {env:Env} {s:St}:aop glob call cx env s (.idx sz x i)=match rd glob env i with
  | some (.i _ n)=>match iK env x with
   | some k=>afU env s sz k (lk env k) n
   | none=>aaF env s sz (rd glob env x) n
  | _=>.fail:=rfl
@[simp] theorem afT {env:Env} {s:St} {sz k t sz':Nat} {tip:Bool} {es:List AV} {n:Int}:
  afU env s sz k (some (.own tip t sz' es)) n=if sz=sz'∧0≤n∧n.toNat<es.length then .ok (.ep k sz n.toNat 0) env s else .fail:=rfl
@[simp] theorem ag3 {env:Env} {s:St} {sz:Nat} {es:List AV} {n:Int}:aaF env s sz (some (.sl es)) n=match es[n.toNat]? with
  | some e=>if 0≤n∧e.cells.length=sz then .ok (.v (.ip e.cells)) env s else .fail
  | none=>.fail:=rfl
@[simp] theorem afS {env:Env} {s:St} {sz:Nat} {z:Bool} {es:List AV} {n:Int}:aaF env s sz (some (slf z es)) n=aaF env s sz (some (.sl es)) n:=by
 rcases wU z es with h|⟨h,h'⟩<;>rw [h]
 subst h';rfl
def ZY (glob:Nat→Option (List AV)) (sz:Nat) (lo hi:Option IX) (s:St):Option (AV×Env)→RO
 | some (.sl es,env)=>match bound glob env 0 lo,bound glob env es.length hi with
   | some l,some h=>if l≤h∧h≤es.length∧(es.all fun e=>e.cells.length == sz) then .ok (.v (.sl ((es.drop l).take (h - l)))) env s else .fail
   | _,_=>.fail
 | some (.ns,env)=>match bound glob env 0 lo,bound glob env 0 hi with
   | some 0,some 0=>.ok (.v .ns) env s
   | _,_=>.fail
 | some (.sk k ver sz' o m,env)=>match bound glob env 0 lo,bound glob env m hi with
   | some l,some h=>if sz=sz'∧l≤h∧h≤m then .ok (.v (.sk k ver sz (o+l * sz) (h - l))) env s else .fail
   | _,_=>.fail
 | _=>.fail
@[simp] theorem agU {sz:Nat} {lo hi:Option IX} {s:St} {k ver sz' o m:Nat} {env:Env}:ZY glob sz lo hi s (some (.sk k ver sz' o m,env))=match bound glob env 0 lo,bound glob env m hi with
   | some l,some h=>if sz=sz'∧l≤h∧h≤m then .ok (.v (.sk k ver sz (o+l * sz) (h - l))) env s else .fail
   | _,_=>.fail:=rfl
@[simp] theorem agz {sz:Nat} {x:IX} {lo hi:Option IX} {env:Env} {s:St}:aop glob call cx env s (.slc sz x lo hi)=ZY glob sz lo hi s (esc glob env x):=by
 simp only [aop,ZY]
 cases esc glob env x with
 | none=>rfl
 | some p=>obtain ⟨a,e⟩:=p;cases a<;>rfl
@[simp] theorem agT {sz:Nat} {lo hi:Option IX} {s:St} {es:List AV} {env:Env}:ZY glob sz lo hi s (some (.sl es,env))=match bound glob env 0 lo,bound glob env es.length hi with
   | some l,some h=>if l≤h∧h≤es.length∧(es.all fun e=>e.cells.length == sz) then .ok (.v (.sl ((es.drop l).take (h - l)))) env s else .fail
   | _,_=>.fail:=rfl
@[simp] theorem agV {sz:Nat} {lo hi:Option IX} {s:St} {env:Env}:ZY glob sz lo hi s (some (.ns,env))=match bound glob env 0 lo,bound glob env 0 hi with
   | some 0,some 0=>.ok (.v .ns) env s
   | _,_=>.fail:=rfl
end
theorem w64 {n:Int} (h:-9223372036854775808≤n) (h':n≤9223372036854775807):IntKind.i64.wrap n=n:=IntWalk.i64_in n ⟨h,h'⟩
theorem w8 {n:Int} (h:0≤n) (h':n≤255):IntKind.u8.wrap n=n:=by rw [IntKind.wrap_u8];omega
theorem wI {i:Nat} (h:i≤1152921504606846976):IntKind.i64.wrap ((i:Int)+1)=(i:Int)+1:=by rw [w64]<;>omega
theorem drop_cons {α:Type} {l r:List α} {i:Nat} {a:α} (h:l.drop i=a::r):l[i]?=some a∧l.drop (i+1)=r∧i<l.length∧∀h:i<l.length,l[i]=a:=by
 have hi:i<l.length:=by
  rcases Nat.lt_or_ge i l.length with h1|h1
  ·exact h1
  ·rw [List.drop_eq_nil_of_le h1] at h;cases h
 rw [List.drop_eq_getElem_cons hi] at h
 injection h with h1 h2
 exact ⟨by rw [List.getElem?_eq_getElem hi,h1],h2,hi,fun _=>h1⟩
theorem drop_nil {α:Type} {l:List α} {i:Nat} (h:l.drop i=[]):l.length≤i:=by simpa using h
inductive C where
 | mk (kind:Int) (name:List UInt8) (lo hi:Int) (z:Bool) (parts:List C)
namespace C
def kind:C→Int | .mk k _ _ _ _ _=>k
def name:C→List UInt8 | .mk _ n _ _ _ _=>n
def lo:C→Int | .mk _ _ l _ _ _=>l
def hi:C→Int | .mk _ _ _ h _ _=>h
def z:C→Bool | .mk _ _ _ _ z _=>z
def parts:C→List C | .mk _ _ _ _ _ ps=>ps
@[simp] theorem ab8 (k:Int) (n:List UInt8) (l h:Int) (z:Bool) (ps:List C):(C.mk k n l h z ps).kind=k:=rfl
@[simp] theorem ag0 (k:Int) (n:List UInt8) (l h:Int) (z:Bool) (ps:List C):(C.mk k n l h z ps).name=n:=rfl
@[simp] theorem ah3 (k:Int) (n:List UInt8) (l h:Int) (z:Bool) (ps:List C):(C.mk k n l h z ps).lo=l:=rfl
@[simp] theorem ah4 (k:Int) (n:List UInt8) (l h:Int) (z:Bool) (ps:List C):(C.mk k n l h z ps).hi=h:=rfl
@[simp] theorem ah8 (k:Int) (n:List UInt8) (l h:Int) (z:Bool) (ps:List C):(C.mk k n l h z ps).z=z:=rfl
@[simp] theorem aak (k:Int) (n:List UInt8) (l h:Int) (z:Bool) (ps:List C):(C.mk k n l h z ps).parts=ps:=rfl
end C
mutual
theorem C.ind {P:C→Prop} (h:∀k n l hi z ps,(∀p∈ps,P p)→P (.mk k n l hi z ps)):∀c,P c
 | .mk k n l hi z ps=>h k n l hi z ps (C.indL h ps)
theorem C.indL {P:C→Prop} (h:∀k n l hi z ps,(∀p∈ps,P p)→P (.mk k n l hi z ps)):∀(ps:List C),∀p∈ps,P p
 | []=>fun p hp=>by cases hp
 | a::r=>fun p hp=>(List.mem_cons.1 hp).elim (fun e=>e ▸ C.ind h a) (fun hp=>C.indL h r p hp)
end
mutual
def bn:C→AV
 | .mk k n l h z ps=>.ag [.i .i64 k,.s n,.i .i64 l,.i .i64 h,slf z (MK ps)]
def MK:List C→List AV
 | []=>[]
 | a::r=>bn a::MK r
end
theorem P8:∀ps:List C,MK ps=ps.map bn
 | []=>by simp [MK]
 | a::r=>by simp [MK,P8 r]
theorem UE (c:C):bn c=.ag [.i .i64 c.kind,.s c.name,.i .i64 c.lo,.i .i64 c.hi,slf c.z (c.parts.map bn)]:=by
 cases c;simp [bn,P8]
@[simp] theorem ady (c:C):(bn c).plain=bn c:=by rw [UE];simp
@[simp] theorem XB (c:C):(bn c).cells=[.i .i64 c.kind,.s c.name,.i .i64 c.lo,.i .i64 c.hi,slf c.z (c.parts.map bn)]:=by rw [UE];rfl
@[simp] theorem ael (c:C):AV.ag [.i .i64 c.kind,.s c.name,.i .i64 c.lo,.i .i64 c.hi,slf c.z (c.parts.map bn)]=bn c:=(UE c).symm
theorem C.ind' {P:C→Prop} (h:∀c:C,(∀p∈c.parts,P p)→P c):∀c,P c:=C.ind fun k n l hi z ps ih=>h _ ih
@[simp] theorem ac9 (n:Nat):eF n []=true:=by simp [eF]
@[simp] theorem acP (n:Nat) (a:AV) (r:List AV):eF n (a::r)=(a.under n && eF n r):=by simp [eF]
@[simp] theorem agv (n:Nat) (k:IntKind) (x:Int):(AV.i k x).under n=true:=by simp [AV.under]
@[simp] theorem agw (n:Nat) (x:Bool):(AV.b x).under n=true:=by simp [AV.under]
@[simp] theorem agu (n:Nat) (x:List UInt8):(AV.s x).under n=true:=by simp [AV.under]
@[simp] theorem aeJ (n:Nat) (x:List AV):(AV.sl x).under n=eF n x:=by simp [AV.under]
@[simp] theorem aeP (n:Nat) (x:List AV):(AV.ag x).under n=eF n x:=by simp [AV.under]
@[simp] theorem aeH (n:Nat) (x:List AV):(AV.tu x).under n=eF n x:=by simp [AV.under]
@[simp] theorem aeN (n:Nat) (x:List AV):(AV.ip x).under n=eF n x:=by simp [AV.under]
@[simp] theorem aeI (n l:Nat) (x:List AV):(AV.st l x).under n=(decide (l<n) && eF n x):=by simp [AV.under]
@[simp] theorem aeL (n:Nat):AV.ns.under n=true:=by simp [AV.under]
@[simp] theorem aeM (n:Nat):AV.nm.under n=true:=by simp [AV.under]
@[simp] theorem aeK (n l o:Nat):(AV.pt l o).under n=decide (l<n):=by simp [AV.under]
@[simp] theorem aeO (n:Nat) (f:Fn) (as cs:List AV):(AV.fn f as cs).under n=(eF n as && eF n cs):=by simp [AV.under]
@[simp] theorem adY (n:Nat) (z:Bool) (es:List AV):(slf z es).under n=eF n es:=by
 rcases wU z es with h|⟨h,h'⟩
 ·rw [h];simp
 ·rw [h,h'];simp
@[simp] theorem ah6 (s:St) (n:Nat) (k:IntKind) (x:Int):frz s n (.i k x)=some (.i k x):=by simp [frz]
@[simp] theorem ah7 (s:St) (n:Nat) (x:Bool):frz s n (.b x)=some (.b x):=by simp [frz]
@[simp] theorem ah5 (s:St) (n:Nat) (x:List UInt8):frz s n (.s x)=some (.s x):=by simp [frz]
mutual
theorem Lu (n:Nat):∀c:C,(bn c).under n=true
 | .mk k nm l h z ps=>by simp [bn,CB n ps]
theorem CB (n:Nat):∀ps:List C,eF n (MK ps)=true
 | []=>by simp [MK]
 | a::r=>by simp [MK,Lu n a,CB n r]
end
@[simp] theorem ac8 (n:Nat) (c:C):(bn c).under n=true:=Lu n c
@[simp] theorem acO (n:Nat) (ps:List C):eF n (ps.map bn)=true:=by rw [←P8];exact CB n ps
inductive C.Ok:C→Prop where
 | mk (c:C) (hn:c.name.length≤1152921504606846976) (hps:c.parts.length≤1152921504606846976)
  (hk:-9223372036854775808≤c.kind∧c.kind≤9223372036854775807) (hl:-9223372036854775808≤c.lo∧c.lo≤9223372036854775807) (hh:-9223372036854775808≤c.hi∧c.hi≤9223372036854775807)
  (hp:∀p∈c.parts,C.Ok p):C.Ok c
mutual
def jG:C→Nat
 | .mk _ _ _ _ _ ps=>1+qK ps
def qK:List C→Nat
 | []=>0
 | p::r=>jG p+qK r
end
mutual
def jq:C→Nat
 | .mk _ _ _ _ _ ps=>vT ps
def vT:List C→Nat
 | []=>0
 | p::r=>max (1+jq p) (vT r)
end
mutual
def wC:C→Nat
 | .mk _ n _ _ _ ps=>1+n.length / 40+wL ps
def wL:List C→Nat
 | []=>0
 | p::r=>wC p+wL r
end
theorem xM (c:C):jG c=1+qK c.parts:=by cases c;simp [jG]
theorem KX (c:C):jq c=vT c.parts:=by cases c;simp [jq]
theorem nY (c:C):wC c=1+c.name.length / 40+wL c.parts:=by cases c;simp [wC]
theorem wS {p:C}:∀{l:List C},p∈l→wC p≤wL l
 | [],h=>by cases h
 | q::r,h=>by
  simp only [wL]
  rcases List.mem_cons.1 h with rfl|h
  ·omega
  ·have:=wS h;omega
theorem ac5 (c:C):1≤wC c:=by rw [nY];omega
theorem Ba:∀l:List C,l.length≤wL l
 | []=>by simp
 | p::r=>by have:=Ba r;have:=ac5 p;simp only [wL,List.length_cons];omega
theorem U7:∀c:C,jG c≤wC c:=by
 refine C.ind' fun c ih=>?_
 have:∀l:List C,(∀p∈l,jG p≤wC p)→qK l≤wL l:=by
  intro l
  induction l with
  | nil=>intro _;simp [qK,wL]
  | cons p r ih=>intro h;have h1:=ih (fun q hq=>h q (by simp [hq]));have h2:=h p (by simp);simp only [qK,wL];omega
 have:=this c.parts ih
 rw [xM,nY];omega
theorem Tz:∀l:List C,(∀p∈l,jq p+1≤jG p)→vT l≤qK l
 | [],_=>by simp [vT]
 | p::r,h=>by
  have h1:=Tz r (fun q hq=>h q (by simp [hq]));have h2:=h p (by simp)
  simp only [vT,qK];omega
theorem Zq:∀c:C,jq c+1≤jG c:=by
 refine C.ind' fun c ih=>?_
 have:=Tz c.parts ih
 rw [KX,xM];omega
end Go.Ai
