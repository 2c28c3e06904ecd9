/-
 Slices that may be nil, numbers, lists: more rules for symbolic runs.
-/
import Derived.Test.YtpnlnnfcaeednaaGreatDoorAiSx
import Derived.IntWalk
set_option maxRecDepth 100000
set_option linter.unusedSimpArgs false
set_option linter.unusedVariables false
set_option linter.unusedSectionVars false
namespace Go.Ai
def slf (z:Bool) (es:List AV):AV:=
 match z,es with
 | true,[]=>.ns
 | _,es=>.sl es
@[simp] theorem agN (es:List AV):slf false es=.sl es:=by cases es<;>rfl
@[simp] theorem aji:slf true []=.ns:=rfl
@[simp] theorem Fq (z:Bool) (e:AV) (es:List AV):slf z (e::es)=.sl (e::es):=by cases z<;>rfl
theorem yA (z:Bool) (es:List AV):slf z es=.sl es∨(slf z es=.ns∧es=[]):=by
 cases z<;>cases es<;>simp
@[simp] theorem ag6 (z:Bool) (es:List AV):(slf z es).cells=[slf z es]:=by rcases yA z es with h|⟨h,_⟩<;>rw [h]<;>rfl
@[simp] theorem ZG (z:Bool) (es:List AV):(slf z es).one=true:=by rcases yA z es with h|⟨h,_⟩<;>rw [h]<;>rfl
@[simp] theorem agR (z:Bool) (es:List AV):(slf z es).plain=slf z es:=by rcases yA z es with h|⟨h,_⟩<;>rw [h]<;>rfl
@[simp] theorem afP (z:Bool) (es:List AV):(slf z es).plain1=slf z es:=by rcases yA z es with h|⟨h,_⟩<;>rw [h]<;>rfl
section
variable {glob:Nat→Option (List AV)} {call:AV→List AV→St→Ctx→CO} {cx:Ctx}
def AA (env:Env):Option EV→Option (List AV)
 | some (.v (.sl es))=>some es
 | some (.v (.st _ es))=>some es
 | some (.v .ns)=>some []
 | some (.v .se)=>some []
 | some (.own _ _ _ es)=>some es
 | some (.al j)=>match lk env j with
  | some (.own _ _ _ es)=>some es
  | _=>none
 | _=>none
@[simp] theorem aiu {env:Env} {x:IX}:elems glob env x=AA env (ev glob env x):=by unfold elems AA;rfl
@[simp] theorem ag0 {env:Env} {es:List AV}:AA env (some (.v (.sl es)))=some es:=rfl
@[simp] theorem agZ {env:Env} {l:Nat} {es:List AV}:AA env (some (.v (.st l es)))=some es:=rfl
@[simp] theorem ag1 {env:Env}:AA env (some (.v .se))=some []:=rfl
@[simp] theorem ag2 {env:Env}:AA env (some (.v .ns))=some []:=rfl
@[simp] theorem af4 {env:Env} {z:Bool} {es:List AV}:AA env (some (.v (slf z es)))=some es:=by
 rcases yA z es with h|⟨h,h'⟩
 ·rw [h];rfl
 ·rw [h,h'];rfl
@[simp] theorem af7 {env:Env} {t sz:Nat} {tip:Bool} {es:List AV}:AA env (some (.own tip t sz es))=some es:=rfl
@[simp] theorem ag3 {env:Env} {j:Nat}:AA env (some (.al j))=match lk env j with
  | some (.own _ _ _ es)=>some es
  | _=>none:=rfl
def ac2 (env:Env) (s:St) (sz:Nat) (v:Option AV) (n:Int):RO:=
 match v with
 | some (.sl es)=>match es[n.toNat]? with
  | some e=>if 0≤n∧e.cells.length=sz then .ok (.v (.ip e.cells)) env s else .fail
  | none=>.fail
 | some (.sk l ver sz' o m)=>if sz=sz'∧0≤n∧n.toNat<m then .ok (.v (.sp l ver (o+n.toNat * sz))) env s else .fail
 | _=>.fail
@[simp] theorem ajt {env:Env} {s:St} {sz l ver sz' o m:Nat} {n:Int}:ac2 env s sz (some (.sk l ver sz' o m)) n=if sz=sz'∧0≤n∧n.toNat<m then .ok (.v (.sp l ver (o+n.toNat * sz))) env s else .fail:=rfl
def aim (env:Env) (s:St) (sz:Nat) (k:Nat) (e:Option EV) (n:Int):RO:=
 match e with
 | some (.own _ _ sz' es)=>if sz=sz'∧0≤n∧n.toNat<es.length then .ok (.ep k sz n.toNat 0) env s else .fail
 | _=>.fail
@[simp] theorem ai6 {sz:Nat} {x i:IX} {env:Env} {s:St}:aop glob call cx env s (.idx sz x i)=match rd glob env i with
  | some (.i _ n)=>match nN env x with
   | some k=>aim env s sz k (lk env k) n
   | none=>ac2 env s sz (rd glob env x) n
  | _=>.fail:=rfl
@[simp] theorem ail {env:Env} {s:St} {sz k t sz':Nat} {tip:Bool} {es:List AV} {n:Int}:
  aim env s sz k (some (.own tip t sz' es)) n=if sz=sz'∧0≤n∧n.toNat<es.length then .ok (.ep k sz n.toNat 0) env s else .fail:=rfl
@[simp] theorem ajs {env:Env} {s:St} {sz:Nat} {es:List AV} {n:Int}:ac2 env s sz (some (.sl es)) n=match es[n.toNat]? with
  | some e=>if 0≤n∧e.cells.length=sz then .ok (.v (.ip e.cells)) env s else .fail
  | none=>.fail:=rfl
@[simp] theorem aik {env:Env} {s:St} {sz:Nat} {z:Bool} {es:List AV} {n:Int}:ac2 env s sz (some (slf z es)) n=ac2 env s sz (some (.sl es)) n:=by
 rcases yA z es with h|⟨h,h'⟩<;>rw [h]
 subst h';rfl
def ab7 (glob:Nat→Option (List AV)) (sz:Nat) (lo hi:Option IX) (s:St):Option (AV×Env)→RO
 | some (.sl es,env)=>match bound glob env 0 lo,bound glob env es.length hi with
   | some l,some h=>if l≤h∧h≤es.length∧(es.all fun e=>e.cells.length == sz) then .ok (.v (.sl ((es.drop l).take (h - l)))) env s else .fail
   | _,_=>.fail
 | some (.ns,env)=>match bound glob env 0 lo,bound glob env 0 hi with
   | some 0,some 0=>.ok (.v .ns) env s
   | _,_=>.fail
 | some (.sk k ver sz' o m,env)=>match bound glob env 0 lo,bound glob env m hi with
   | some l,some h=>if sz=sz'∧l≤h∧h≤m then .ok (.v (.sk k ver sz (o+l * sz) (h - l))) env s else .fail
   | _,_=>.fail
 | _=>.fail
@[simp] theorem ajk {sz:Nat} {lo hi:Option IX} {s:St} {k ver sz' o m:Nat} {env:Env}:ab7 glob sz lo hi s (some (.sk k ver sz' o m,env))=match bound glob env 0 lo,bound glob env m hi with
   | some l,some h=>if sz=sz'∧l≤h∧h≤m then .ok (.v (.sk k ver sz (o+l * sz) (h - l))) env s else .fail
   | _,_=>.fail:=rfl
@[simp] theorem ai0 {sz:Nat} {x:IX} {lo hi:Option IX} {env:Env} {s:St}:aop glob call cx env s (.slc sz x lo hi)=ab7 glob sz lo hi s (esc glob env x):=by
 simp only [aop,ab7]
 cases esc glob env x with
 | none=>rfl
 | some p=>obtain ⟨a,e⟩:=p;cases a<;>rfl
@[simp] theorem ajj {sz:Nat} {lo hi:Option IX} {s:St} {es:List AV} {env:Env}:ab7 glob sz lo hi s (some (.sl es,env))=match bound glob env 0 lo,bound glob env es.length hi with
   | some l,some h=>if l≤h∧h≤es.length∧(es.all fun e=>e.cells.length == sz) then .ok (.v (.sl ((es.drop l).take (h - l)))) env s else .fail
   | _,_=>.fail:=rfl
@[simp] theorem ajl {sz:Nat} {lo hi:Option IX} {s:St} {env:Env}:ab7 glob sz lo hi s (some (.ns,env))=match bound glob env 0 lo,bound glob env 0 hi with
   | some 0,some 0=>.ok (.v .ns) env s
   | _,_=>.fail:=rfl
end
theorem w64 {n:Int} (h:-9223372036854775808≤n) (h':n≤9223372036854775807):IntKind.i64.wrap n=n:=IntWalk.i64_in n ⟨h,h'⟩
theorem w8 {n:Int} (h:0≤n) (h':n≤255):IntKind.u8.wrap n=n:=by rw [IntKind.wrap_u8];omega
theorem wI {i:Nat} (h:i≤1152921504606846976):IntKind.i64.wrap ((i:Int)+1)=(i:Int)+1:=by rw [w64]<;>omega
theorem drop_cons {α:Type} {l r:List α} {i:Nat} {a:α} (h:l.drop i=a::r):l[i]?=some a∧l.drop (i+1)=r∧i<l.length∧∀h:i<l.length,l[i]=a:=by
 have hi:i<l.length:=by
  rcases Nat.lt_or_ge i l.length with h1|h1
  ·exact h1
  ·rw [List.drop_eq_nil_of_le h1] at h;cases h
 rw [List.drop_eq_getElem_cons hi] at h
 injection h with h1 h2
 exact ⟨by rw [List.getElem?_eq_getElem hi,h1],h2,hi,fun _=>h1⟩
theorem drop_nil {α:Type} {l:List α} {i:Nat} (h:l.drop i=[]):l.length≤i:=by simpa using h
inductive C where
 | mk (kind:Int) (name:List UInt8) (lo hi:Int) (z:Bool) (parts:List C)
namespace C
def kind:C→Int | .mk k _ _ _ _ _=>k
def name:C→List UInt8 | .mk _ n _ _ _ _=>n
def lo:C→Int | .mk _ _ l _ _ _=>l
def hi:C→Int | .mk _ _ _ h _ _=>h
def z:C→Bool | .mk _ _ _ _ z _=>z
def parts:C→List C | .mk _ _ _ _ _ ps=>ps
@[simp] theorem aeh (k:Int) (n:List UInt8) (l h:Int) (z:Bool) (ps:List C):(C.mk k n l h z ps).kind=k:=rfl
@[simp] theorem ajp (k:Int) (n:List UInt8) (l h:Int) (z:Bool) (ps:List C):(C.mk k n l h z ps).name=n:=rfl
@[simp] theorem akA (k:Int) (n:List UInt8) (l h:Int) (z:Bool) (ps:List C):(C.mk k n l h z ps).lo=l:=rfl
@[simp] theorem akB (k:Int) (n:List UInt8) (l h:Int) (z:Bool) (ps:List C):(C.mk k n l h z ps).hi=h:=rfl
@[simp] theorem akF (k:Int) (n:List UInt8) (l h:Int) (z:Bool) (ps:List C):(C.mk k n l h z ps).z=z:=rfl
@[simp] theorem acu (k:Int) (n:List UInt8) (l h:Int) (z:Bool) (ps:List C):(C.mk k n l h z ps).parts=ps:=rfl
end C
mutual
theorem C.ind {P:C→Prop} (h:∀k n l hi z ps,(∀p∈ps,P p)→P (.mk k n l hi z ps)):∀c,P c
 | .mk k n l hi z ps=>h k n l hi z ps (C.indL h ps)
theorem C.indL {P:C→Prop} (h:∀k n l hi z ps,(∀p∈ps,P p)→P (.mk k n l hi z ps)):∀(ps:List C),∀p∈ps,P p
 | []=>fun p hp=>by cases hp
 | a::r=>fun p hp=>(List.mem_cons.1 hp).elim (fun e=>e ▸ C.ind h a) (fun hp=>C.indL h r p hp)
end
mutual
def bF:C→AV
 | .mk k n l h z ps=>.ag [.i .i64 k,.s n,.i .i64 l,.i .i64 h,slf z (KJ ps)]
def KJ:List C→List AV
 | []=>[]
 | a::r=>bF a::KJ r
end
theorem KI:∀ps:List C,KJ ps=ps.map bF
 | []=>by simp [KJ]
 | a::r=>by simp [KJ,KI r]
theorem vg (c:C):bF c=.ag [.i .i64 c.kind,.s c.name,.i .i64 c.lo,.i .i64 c.hi,slf c.z (c.parts.map bF)]:=by
 cases c;simp [bF,KI]
@[simp] theorem afN (c:C):(bF c).plain=bF c:=by rw [vg];simp
@[simp] theorem agi (c:C):(bF c).cells=[.i .i64 c.kind,.s c.name,.i .i64 c.lo,.i .i64 c.hi,slf c.z (c.parts.map bF)]:=by rw [vg];rfl
@[simp] theorem agX (c:C):AV.ag [.i .i64 c.kind,.s c.name,.i .i64 c.lo,.i .i64 c.hi,slf c.z (c.parts.map bF)]=bF c:=(vg c).symm
theorem C.ind' {P:C→Prop} (h:∀c:C,(∀p∈c.parts,P p)→P c):∀c,P c:=C.ind fun k n l hi z ps ih=>h _ ih
@[simp] theorem aft (n:Nat):dK n []=true:=by simp [dK]
@[simp] theorem ae0 (n:Nat) (a:AV) (r:List AV):dK n (a::r)=(a.under n && dK n r):=by simp [dK]
@[simp] theorem ad2 (n:Nat) (k:IntKind) (x:Int):(AV.i k x).under n=true:=by simp [AV.under]
@[simp] theorem aiV (n:Nat) (x:Bool):(AV.b x).under n=true:=by simp [AV.under]
@[simp] theorem ad1 (n:Nat) (x:List UInt8):(AV.s x).under n=true:=by simp [AV.under]
@[simp] theorem ahe (n:Nat) (x:List AV):(AV.sl x).under n=dK n x:=by simp [AV.under]
@[simp] theorem ahk (n:Nat) (x:List AV):(AV.ag x).under n=dK n x:=by simp [AV.under]
@[simp] theorem ahc (n:Nat) (x:List AV):(AV.tu x).under n=dK n x:=by simp [AV.under]
@[simp] theorem ahi (n:Nat) (x:List AV):(AV.ip x).under n=dK n x:=by simp [AV.under]
@[simp] theorem ahd (n l:Nat) (x:List AV):(AV.st l x).under n=(decide (l<n) && dK n x):=by simp [AV.under]
@[simp] theorem ahg (n:Nat):AV.ns.under n=true:=by simp [AV.under]
@[simp] theorem ahh (n:Nat):AV.nm.under n=true:=by simp [AV.under]
@[simp] theorem ahf (n l o:Nat):(AV.pt l o).under n=decide (l<n):=by simp [AV.under]
@[simp] theorem ahj (n:Nat) (f:Fn) (as cs:List AV):(AV.fn f as cs).under n=(dK n as && dK n cs):=by simp [AV.under]
@[simp] theorem agz (n:Nat) (z:Bool) (es:List AV):(slf z es).under n=dK n es:=by
 rcases yA z es with h|⟨h,h'⟩
 ·rw [h];simp
 ·rw [h,h'];simp
@[simp] theorem akD (s:St) (n:Nat) (k:IntKind) (x:Int):frz s n (.i k x)=some (.i k x):=by simp [frz]
@[simp] theorem akE (s:St) (n:Nat) (x:Bool):frz s n (.b x)=some (.b x):=by simp [frz]
@[simp] theorem akC (s:St) (n:Nat) (x:List UInt8):frz s n (.s x)=some (.s x):=by simp [frz]
mutual
theorem Na (n:Nat):∀c:C,(bF c).under n=true
 | .mk k nm l h z ps=>by simp [bF,zo n ps]
theorem zo (n:Nat):∀ps:List C,dK n (KJ ps)=true
 | []=>by simp [KJ]
 | a::r=>by simp [KJ,Na n a,zo n r]
end
@[simp] theorem Yh (n:Nat) (c:C):(bF c).under n=true:=Na n c
@[simp] theorem aeZ (n:Nat) (ps:List C):dK n (ps.map bF)=true:=by rw [←KI];exact zo n ps
inductive C.Ok:C→Prop where
 | mk (c:C) (hn:c.name.length≤1152921504606846976) (hps:c.parts.length≤1152921504606846976)
  (hk:-9223372036854775808≤c.kind∧c.kind≤9223372036854775807) (hl:-9223372036854775808≤c.lo∧c.lo≤9223372036854775807) (hh:-9223372036854775808≤c.hi∧c.hi≤9223372036854775807)
  (hp:∀p∈c.parts,C.Ok p):C.Ok c
mutual
def dH:C→Nat
 | .mk _ _ _ _ _ ps=>1+dY ps
def dY:List C→Nat
 | []=>0
 | p::r=>dH p+dY r
end
mutual
def mY:C→Nat
 | .mk _ _ _ _ _ ps=>qH ps
def qH:List C→Nat
 | []=>0
 | p::r=>max (1+mY p) (qH r)
end
mutual
def wC:C→Nat
 | .mk _ n _ _ _ ps=>1+n.length / 40+wL ps
def wL:List C→Nat
 | []=>0
 | p::r=>wC p+wL r
end
theorem oN (c:C):dH c=1+dY c.parts:=by cases c;simp [dH]
theorem vw (c:C):mY c=qH c.parts:=by cases c;simp [mY]
theorem rV (c:C):wC c=1+c.name.length / 40+wL c.parts:=by cases c;simp [wC]
theorem BR {p:C}:∀{l:List C},p∈l→dH p≤dY l
 | [],h=>by cases h
 | q::r,h=>by
  simp only [dY]
  rcases List.mem_cons.1 h with rfl|h
  ·omega
  ·have:=BR h;omega
theorem xB {p:C}:∀{l:List C},p∈l→wC p≤wL l
 | [],h=>by cases h
 | q::r,h=>by
  simp only [wL]
  rcases List.mem_cons.1 h with rfl|h
  ·omega
  ·have:=xB h;omega
theorem afr (c:C):1≤wC c:=by rw [rV];omega
theorem y8:∀l:List C,l.length≤wL l
 | []=>by simp
 | p::r=>by have:=y8 r;have:=afr p;simp only [wL,List.length_cons];omega
theorem Fv:∀c:C,dH c≤wC c:=by
 refine C.ind' fun c ih=>?_
 have:∀l:List C,(∀p∈l,dH p≤wC p)→dY l≤wL l:=by
  intro l
  induction l with
  | nil=>intro _;simp [dY,wL]
  | cons p r ih=>intro h;have h1:=ih (fun q hq=>h q (by simp [hq]));have h2:=h p (by simp);simp only [dY,wL];omega
 have:=this c.parts ih
 rw [oN,rV];omega
theorem G7:∀l:List C,(∀p∈l,mY p+1≤dH p)→qH l≤dY l
 | [],_=>by simp [qH]
 | p::r,h=>by
  have h1:=G7 r (fun q hq=>h q (by simp [hq]));have h2:=h p (by simp)
  simp only [qH,dY];omega
end Go.Ai
