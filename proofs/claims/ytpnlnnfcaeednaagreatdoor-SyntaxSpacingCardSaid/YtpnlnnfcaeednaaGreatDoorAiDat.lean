/-
 Slices that may be nil, numbers, lists: more rules for symbolic runs.
-/
import Derived.Test.YtpnlnnfcaeednaaGreatDoorAiSx
import Derived.IntWalk
set_option maxRecDepth 100000
set_option linter.unusedSimpArgs false
set_option linter.unusedVariables false
set_option linter.unusedSectionVars false
namespace Go.Ai
def slf (z:Bool) (es:List AV):AV:=
 match z,es with
 | true,[]=>.ns
 | _,es=>.sl es
@[simp] theorem ag3 (es:List AV):slf false es=.sl es:=by cases es<;>rfl
@[simp] theorem ajy:slf true []=.ns:=rfl
@[simp] theorem BR (z:Bool) (e:AV) (es:List AV):slf z (e::es)=.sl (e::es):=by cases z<;>rfl
theorem yF (z:Bool) (es:List AV):slf z es=.sl es∨(slf z es=.ns∧es=[]):=by
 cases z<;>cases es<;>simp
@[simp] theorem ahm (z:Bool) (es:List AV):(slf z es).cells=[slf z es]:=by rcases yF z es with h|⟨h,_⟩<;>rw [h]<;>rfl
@[simp] theorem Z5 (z:Bool) (es:List AV):(slf z es).one=true:=by rcases yF z es with h|⟨h,_⟩<;>rw [h]<;>rfl
@[simp] theorem ag7 (z:Bool) (es:List AV):(slf z es).plain=slf z es:=by rcases yF z es with h|⟨h,_⟩<;>rw [h]<;>rfl
@[simp] theorem af7 (z:Bool) (es:List AV):(slf z es).plain1=slf z es:=by rcases yF z es with h|⟨h,_⟩<;>rw [h]<;>rfl
section
variable {glob:Nat→Option (List AV)} {call:AV→List AV→St→Ctx→CO} {cx:Ctx}
def AL (env:Env):Option EV→Option (List AV)
 | some (.v (.sl es))=>some es
 | some (.v (.st _ es))=>some es
 | some (.v .ns)=>some []
 | some (.v .se)=>some []
 | some (.own _ _ _ es)=>some es
 | some (.al j)=>match lk env j with
  | some (.own _ _ _ es)=>some es
  | _=>none
 | _=>none
@[simp] theorem aiK {env:Env} {x:IX}:elems glob env x=AL env (ev glob env x):=by unfold elems AL;rfl
@[simp] theorem ahg {env:Env} {es:List AV}:AL env (some (.v (.sl es)))=some es:=rfl
@[simp] theorem ahf {env:Env} {l:Nat} {es:List AV}:AL env (some (.v (.st l es)))=some es:=rfl
@[simp] theorem ahh {env:Env}:AL env (some (.v .se))=some []:=rfl
@[simp] theorem ahi {env:Env}:AL env (some (.v .ns))=some []:=rfl
@[simp] theorem agm {env:Env} {z:Bool} {es:List AV}:AL env (some (.v (slf z es)))=some es:=by
 rcases yF z es with h|⟨h,h'⟩
 ·rw [h];rfl
 ·rw [h,h'];rfl
@[simp] theorem agq {env:Env} {t sz:Nat} {tip:Bool} {es:List AV}:AL env (some (.own tip t sz es))=some es:=rfl
@[simp] theorem ahj {env:Env} {j:Nat}:AL env (some (.al j))=match lk env j with
  | some (.own _ _ _ es)=>some es
  | _=>none:=rfl
def adp (env:Env) (s:St) (sz:Nat) (v:Option AV) (n:Int):RO:=
 match v with
 | some (.sl es)=>match es[n.toNat]? with
  | some e=>if 0≤n∧e.cells.length=sz then .ok (.v (.ip e.cells)) env s else .fail
  | none=>.fail
 | some (.sk l ver sz' o m)=>if sz=sz'∧0≤n∧n.toNat<m then .ok (.v (.sp l ver (o+n.toNat * sz))) env s else .fail
 | _=>.fail
@[simp] theorem ajJ {env:Env} {s:St} {sz l ver sz' o m:Nat} {n:Int}:adp env s sz (some (.sk l ver sz' o m)) n=if sz=sz'∧0≤n∧n.toNat<m then .ok (.v (.sp l ver (o+n.toNat * sz))) env s else .fail:=rfl
def aiC (env:Env) (s:St) (sz:Nat) (k:Nat) (e:Option EV) (n:Int):RO:=
 match e with
 | some (.own _ _ sz' es)=>if sz=sz'∧0≤n∧n.toNat<es.length then .ok (.ep k sz n.toNat 0) env s else .fail
 | _=>.fail
@[simp] theorem ajm {sz:Nat} {x i:IX} {env:Env} {s:St}:aop glob call cx env s (.idx sz x i)=match rd glob env i with
  | some (.i _ n)=>match nN env x with
   | some k=>aiC env s sz k (lk env k) n
   | none=>adp env s sz (rd glob env x) n
  | _=>.fail:=rfl
@[simp] theorem aiB {env:Env} {s:St} {sz k t sz':Nat} {tip:Bool} {es:List AV} {n:Int}:
  aiC env s sz k (some (.own tip t sz' es)) n=if sz=sz'∧0≤n∧n.toNat<es.length then .ok (.ep k sz n.toNat 0) env s else .fail:=rfl
@[simp] theorem ajI {env:Env} {s:St} {sz:Nat} {es:List AV} {n:Int}:adp env s sz (some (.sl es)) n=match es[n.toNat]? with
  | some e=>if 0≤n∧e.cells.length=sz then .ok (.v (.ip e.cells)) env s else .fail
  | none=>.fail:=rfl
@[simp] theorem aiA {env:Env} {s:St} {sz:Nat} {z:Bool} {es:List AV} {n:Int}:adp env s sz (some (slf z es)) n=adp env s sz (some (.sl es)) n:=by
 rcases yF z es with h|⟨h,h'⟩<;>rw [h]
 subst h';rfl
def acA (glob:Nat→Option (List AV)) (sz:Nat) (lo hi:Option IX) (s:St):Option (AV×Env)→RO
 | some (.sl es,env)=>match bound glob env 0 lo,bound glob env es.length hi with
   | some l,some h=>if l≤h∧h≤es.length∧(es.all fun e=>e.cells.length == sz) then .ok (.v (.sl ((es.drop l).take (h - l)))) env s else .fail
   | _,_=>.fail
 | some (.ns,env)=>match bound glob env 0 lo,bound glob env 0 hi with
   | some 0,some 0=>.ok (.v .ns) env s
   | _,_=>.fail
 | some (.sk k ver sz' o m,env)=>match bound glob env 0 lo,bound glob env m hi with
   | some l,some h=>if sz=sz'∧l≤h∧h≤m then .ok (.v (.sk k ver sz (o+l * sz) (h - l))) env s else .fail
   | _,_=>.fail
 | _=>.fail
@[simp] theorem ajA {sz:Nat} {lo hi:Option IX} {s:St} {k ver sz' o m:Nat} {env:Env}:acA glob sz lo hi s (some (.sk k ver sz' o m,env))=match bound glob env 0 lo,bound glob env m hi with
   | some l,some h=>if sz=sz'∧l≤h∧h≤m then .ok (.v (.sk k ver sz (o+l * sz) (h - l))) env s else .fail
   | _,_=>.fail:=rfl
@[simp] theorem ajg {sz:Nat} {x:IX} {lo hi:Option IX} {env:Env} {s:St}:aop glob call cx env s (.slc sz x lo hi)=acA glob sz lo hi s (esc glob env x):=by
 simp only [aop,acA]
 cases esc glob env x with
 | none=>rfl
 | some p=>obtain ⟨a,e⟩:=p;cases a<;>rfl
@[simp] theorem ajz {sz:Nat} {lo hi:Option IX} {s:St} {es:List AV} {env:Env}:acA glob sz lo hi s (some (.sl es,env))=match bound glob env 0 lo,bound glob env es.length hi with
   | some l,some h=>if l≤h∧h≤es.length∧(es.all fun e=>e.cells.length == sz) then .ok (.v (.sl ((es.drop l).take (h - l)))) env s else .fail
   | _,_=>.fail:=rfl
@[simp] theorem ajB {sz:Nat} {lo hi:Option IX} {s:St} {env:Env}:acA glob sz lo hi s (some (.ns,env))=match bound glob env 0 lo,bound glob env 0 hi with
   | some 0,some 0=>.ok (.v .ns) env s
   | _,_=>.fail:=rfl
end
theorem w64 {n:Int} (h:-9223372036854775808≤n) (h':n≤9223372036854775807):IntKind.i64.wrap n=n:=IntWalk.i64_in n ⟨h,h'⟩
theorem w8 {n:Int} (h:0≤n) (h':n≤255):IntKind.u8.wrap n=n:=by rw [IntKind.wrap_u8];omega
theorem wI {i:Nat} (h:i≤1152921504606846976):IntKind.i64.wrap ((i:Int)+1)=(i:Int)+1:=by rw [w64]<;>omega
theorem drop_cons {α:Type} {l r:List α} {i:Nat} {a:α} (h:l.drop i=a::r):l[i]?=some a∧l.drop (i+1)=r∧i<l.length∧∀h:i<l.length,l[i]=a:=by
 have hi:i<l.length:=by
  rcases Nat.lt_or_ge i l.length with h1|h1
  ·exact h1
  ·rw [List.drop_eq_nil_of_le h1] at h;cases h
 rw [List.drop_eq_getElem_cons hi] at h
 injection h with h1 h2
 exact ⟨by rw [List.getElem?_eq_getElem hi,h1],h2,hi,fun _=>h1⟩
theorem drop_nil {α:Type} {l:List α} {i:Nat} (h:l.drop i=[]):l.length≤i:=by simpa using h
inductive C where
 | mk (kind:Int) (name:List UInt8) (lo hi:Int) (z:Bool) (parts:List C)
namespace C
def kind:C→Int | .mk k _ _ _ _ _=>k
def name:C→List UInt8 | .mk _ n _ _ _ _=>n
def lo:C→Int | .mk _ _ l _ _ _=>l
def hi:C→Int | .mk _ _ _ h _ _=>h
def z:C→Bool | .mk _ _ _ _ z _=>z
def parts:C→List C | .mk _ _ _ _ _ ps=>ps
@[simp] theorem aex (k:Int) (n:List UInt8) (l h:Int) (z:Bool) (ps:List C):(C.mk k n l h z ps).kind=k:=rfl
@[simp] theorem ajF (k:Int) (n:List UInt8) (l h:Int) (z:Bool) (ps:List C):(C.mk k n l h z ps).name=n:=rfl
@[simp] theorem akQ (k:Int) (n:List UInt8) (l h:Int) (z:Bool) (ps:List C):(C.mk k n l h z ps).lo=l:=rfl
@[simp] theorem akR (k:Int) (n:List UInt8) (l h:Int) (z:Bool) (ps:List C):(C.mk k n l h z ps).hi=h:=rfl
@[simp] theorem akV (k:Int) (n:List UInt8) (l h:Int) (z:Bool) (ps:List C):(C.mk k n l h z ps).z=z:=rfl
@[simp] theorem acP (k:Int) (n:List UInt8) (l h:Int) (z:Bool) (ps:List C):(C.mk k n l h z ps).parts=ps:=rfl
end C
mutual
theorem C.ind {P:C→Prop} (h:∀k n l hi z ps,(∀p∈ps,P p)→P (.mk k n l hi z ps)):∀c,P c
 | .mk k n l hi z ps=>h k n l hi z ps (C.indL h ps)
theorem C.indL {P:C→Prop} (h:∀k n l hi z ps,(∀p∈ps,P p)→P (.mk k n l hi z ps)):∀(ps:List C),∀p∈ps,P p
 | []=>fun p hp=>by cases hp
 | a::r=>fun p hp=>(List.mem_cons.1 hp).elim (fun e=>e ▸ C.ind h a) (fun hp=>C.indL h r p hp)
end
mutual
def bD:C→AV
 | .mk k n l h z ps=>.ag [.i .i64 k,.s n,.i .i64 l,.i .i64 h,slf z (KD ps)]
def KD:List C→List AV
 | []=>[]
 | a::r=>bD a::KD r
end
theorem KC:∀ps:List C,KD ps=ps.map bD
 | []=>by simp [KD]
 | a::r=>by simp [KD,KC r]
theorem vF (c:C):bD c=.ag [.i .i64 c.kind,.s c.name,.i .i64 c.lo,.i .i64 c.hi,slf c.z (c.parts.map bD)]:=by
 cases c;simp [bD,KC]
@[simp] theorem af5 (c:C):(bD c).plain=bD c:=by rw [vF];simp
@[simp] theorem agz (c:C):(bD c).cells=[.i .i64 c.kind,.s c.name,.i .i64 c.lo,.i .i64 c.hi,slf c.z (c.parts.map bD)]:=by rw [vF];rfl
@[simp] theorem ahd (c:C):AV.ag [.i .i64 c.kind,.s c.name,.i .i64 c.lo,.i .i64 c.hi,slf c.z (c.parts.map bD)]=bD c:=(vF c).symm
theorem C.ind' {P:C→Prop} (h:∀c:C,(∀p∈c.parts,P p)→P c):∀c,P c:=C.ind fun k n l hi z ps ih=>h _ ih
@[simp] theorem afI (n:Nat):dA n []=true:=by simp [dA]
@[simp] theorem afg (n:Nat) (a:AV) (r:List AV):dA n (a::r)=(a.under n && dA n r):=by simp [dA]
@[simp] theorem aeh (n:Nat) (k:IntKind) (x:Int):(AV.i k x).under n=true:=by simp [AV.under]
@[simp] theorem ajb (n:Nat) (x:Bool):(AV.b x).under n=true:=by simp [AV.under]
@[simp] theorem aeg (n:Nat) (x:List UInt8):(AV.s x).under n=true:=by simp [AV.under]
@[simp] theorem ahu (n:Nat) (x:List AV):(AV.sl x).under n=dA n x:=by simp [AV.under]
@[simp] theorem ahA (n:Nat) (x:List AV):(AV.ag x).under n=dA n x:=by simp [AV.under]
@[simp] theorem ahs (n:Nat) (x:List AV):(AV.tu x).under n=dA n x:=by simp [AV.under]
@[simp] theorem ahy (n:Nat) (x:List AV):(AV.ip x).under n=dA n x:=by simp [AV.under]
@[simp] theorem aht (n l:Nat) (x:List AV):(AV.st l x).under n=(decide (l<n) && dA n x):=by simp [AV.under]
@[simp] theorem ahw (n:Nat):AV.ns.under n=true:=by simp [AV.under]
@[simp] theorem ahx (n:Nat):AV.nm.under n=true:=by simp [AV.under]
@[simp] theorem ahv (n l o:Nat):(AV.pt l o).under n=decide (l<n):=by simp [AV.under]
@[simp] theorem ahz (n:Nat) (f:Fn) (as cs:List AV):(AV.fn f as cs).under n=(dA n as && dA n cs):=by simp [AV.under]
@[simp] theorem agP (n:Nat) (z:Bool) (es:List AV):(slf z es).under n=dA n es:=by
 rcases yF z es with h|⟨h,h'⟩
 ·rw [h];simp
 ·rw [h,h'];simp
@[simp] theorem akT (s:St) (n:Nat) (k:IntKind) (x:Int):frz s n (.i k x)=some (.i k x):=by simp [frz]
@[simp] theorem akU (s:St) (n:Nat) (x:Bool):frz s n (.b x)=some (.b x):=by simp [frz]
@[simp] theorem akS (s:St) (n:Nat) (x:List UInt8):frz s n (.s x)=some (.s x):=by simp [frz]
mutual
theorem Nh (n:Nat):∀c:C,(bD c).under n=true
 | .mk k nm l h z ps=>by simp [bD,zy n ps]
theorem zy (n:Nat):∀ps:List C,dA n (KD ps)=true
 | []=>by simp [KD]
 | a::r=>by simp [KD,Nh n a,zy n r]
end
@[simp] theorem Yu (n:Nat) (c:C):(bD c).under n=true:=Nh n c
@[simp] theorem aff (n:Nat) (ps:List C):dA n (ps.map bD)=true:=by rw [←KC];exact zy n ps
inductive C.Ok:C→Prop where
 | mk (c:C) (hn:c.name.length≤1152921504606846976) (hps:c.parts.length≤1152921504606846976)
  (hk:-9223372036854775808≤c.kind∧c.kind≤9223372036854775807) (hl:-9223372036854775808≤c.lo∧c.lo≤9223372036854775807) (hh:-9223372036854775808≤c.hi∧c.hi≤9223372036854775807)
  (hp:∀p∈c.parts,C.Ok p):C.Ok c
mutual
def dR:C→Nat
 | .mk _ _ _ _ _ ps=>1+fC ps
def fC:List C→Nat
 | []=>0
 | p::r=>dR p+fC r
end
mutual
def mW:C→Nat
 | .mk _ _ _ _ _ ps=>qL ps
def qL:List C→Nat
 | []=>0
 | p::r=>max (1+mW p) (qL r)
end
mutual
def wC:C→Nat
 | .mk _ n _ _ _ ps=>1+n.length / 40+wL ps
def wL:List C→Nat
 | []=>0
 | p::r=>wC p+wL r
end
theorem nT (c:C):dR c=1+fC c.parts:=by cases c;simp [dR]
theorem vH (c:C):mW c=qL c.parts:=by cases c;simp [mW]
theorem qm (c:C):wC c=1+c.name.length / 40+wL c.parts:=by cases c;simp [wC]
theorem BU {p:C}:∀{l:List C},p∈l→dR p≤fC l
 | [],h=>by cases h
 | q::r,h=>by
  simp only [fC]
  rcases List.mem_cons.1 h with rfl|h
  ·omega
  ·have:=BU h;omega
theorem wM {p:C}:∀{l:List C},p∈l→wC p≤wL l
 | [],h=>by cases h
 | q::r,h=>by
  simp only [wL]
  rcases List.mem_cons.1 h with rfl|h
  ·omega
  ·have:=wM h;omega
theorem afG (c:C):1≤wC c:=by rw [qm];omega
theorem yE:∀l:List C,l.length≤wL l
 | []=>by simp
 | p::r=>by have:=yE r;have:=afG p;simp only [wL,List.length_cons];omega
theorem WO:∀c:C,dR c≤wC c:=by
 refine C.ind' fun c ih=>?_
 have:∀l:List C,(∀p∈l,dR p≤wC p)→fC l≤wL l:=by
  intro l
  induction l with
  | nil=>intro _;simp [fC,wL]
  | cons p r ih=>intro h;have h1:=ih (fun q hq=>h q (by simp [hq]));have h2:=h p (by simp);simp only [fC,wL];omega
 have:=this c.parts ih
 rw [nT,qm];omega
theorem GV:∀l:List C,(∀p∈l,mW p+1≤dR p)→qL l≤fC l
 | [],_=>by simp [qL]
 | p::r,h=>by
  have h1:=GV r (fun q hq=>h q (by simp [hq]));have h2:=h p (by simp)
  simp only [qL,fC];omega
end Go.Ai
