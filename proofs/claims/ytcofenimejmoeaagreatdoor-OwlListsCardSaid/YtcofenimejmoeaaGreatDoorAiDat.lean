/-
 Slices that may be nil, numbers, lists: more rules for symbolic runs.
-/
import Derived.Test.YtcofenimejmoeaaGreatDoorAiSx
import Derived.IntWalk
set_option maxRecDepth 100000
set_option linter.unusedSimpArgs false
set_option linter.unusedVariables false
set_option linter.unusedSectionVars false
namespace Go.Ai
def slf (z:Bool) (es:List AV):AV:=
 match z,es with
 | true,[]=>.ns
 | _,es=>.sl es
@[simp] theorem WW (es:List AV):slf false es=.sl es:=by cases es<;>rfl
@[simp] theorem agB:slf true []=.ns:=rfl
@[simp] theorem ae6 (z:Bool) (e:AV) (es:List AV):slf z (e::es)=.sl (e::es):=by cases z<;>rfl
theorem vk (z:Bool) (es:List AV):slf z es=.sl es∨(slf z es=.ns∧es=[]):=by
 cases z<;>cases es<;>simp
@[simp] theorem adX (z:Bool) (es:List AV):(slf z es).cells=[slf z es]:=by rcases vk z es with h|⟨h,_⟩<;>rw [h]<;>rfl
@[simp] theorem agG (z:Bool) (es:List AV):(slf z es).one=true:=by rcases vk z es with h|⟨h,_⟩<;>rw [h]<;>rfl
@[simp] theorem O7 (z:Bool) (es:List AV):(slf z es).plain=slf z es:=by rcases vk z es with h|⟨h,_⟩<;>rw [h]<;>rfl
@[simp] theorem acF (z:Bool) (es:List AV):(slf z es).plain1=slf z es:=by rcases vk z es with h|⟨h,_⟩<;>rw [h]<;>rfl
section
variable {glob:Nat→Option (List AV)} {call:AV→List AV→St→Ctx→CO} {cx:Ctx}
def tC (env:Env):Option EV→Option (List AV)
 | some (.v (.sl es))=>some es
 | some (.v (.st _ es))=>some es
 | some (.v .ns)=>some []
 | some (.v .se)=>some []
 | some (.v .sz)=>some []
 | some (.own _ _ _ es)=>some es
 | some (.al j)=>match lk env j with
  | some (.own _ _ _ es)=>some es
  | _=>none
 | _=>none
@[simp] theorem afB {env:Env} {x:IX}:elems glob env x=tC env (ev glob env x):=by unfold elems tC;rfl
@[simp] theorem adQ {env:Env} {es:List AV}:tC env (some (.v (.sl es)))=some es:=rfl
@[simp] theorem adP {env:Env} {l:Nat} {es:List AV}:tC env (some (.v (.st l es)))=some es:=rfl
@[simp] theorem adS {env:Env}:tC env (some (.v .se))=some []:=rfl
@[simp] theorem adO {env:Env}:tC env (some (.v .sz))=some []:=rfl
@[simp] theorem adT {env:Env}:tC env (some (.v .ns))=some []:=rfl
@[simp] theorem acX {env:Env} {z:Bool} {es:List AV}:tC env (some (.v (slf z es)))=some es:=by
 rcases vk z es with h|⟨h,h'⟩
 ·rw [h];rfl
 ·rw [h,h'];rfl
@[simp] theorem acZ {env:Env} {t sz:Nat} {tip:Bool} {es:List AV}:tC env (some (.own tip t sz es))=some es:=rfl
@[simp] theorem adU {env:Env} {j:Nat}:tC env (some (.al j))=match lk env j with
  | some (.own _ _ _ es)=>some es
  | _=>none:=rfl
def Zu (env:Env) (s:St) (sz:Nat) (v:Option AV) (n:Int):RO:=
 match v with
 | some (.sl es)=>match es[n.toNat]? with
  | some e=>if 0≤n∧e.cells.length=sz then .ok (.v (.ip e.cells)) env s else .fail
  | none=>.fail
 | some (.sk l ver sz' o m)=>if sz=sz'∧0≤n∧n.toNat<m then .ok (.v (.sp l ver (o+n.toNat * sz))) env s else .fail
 | _=>.fail
@[simp] theorem agN {env:Env} {s:St} {sz l ver sz' o m:Nat} {n:Int}:Zu env s sz (some (.sk l ver sz' o m)) n=if sz=sz'∧0≤n∧n.toNat<m then .ok (.v (.sp l ver (o+n.toNat * sz))) env s else .fail:=rfl
def afr (env:Env) (s:St) (sz:Nat) (k:Nat) (e:Option EV) (n:Int):RO:=
 match e with
 | some (.own _ _ sz' es)=>if sz=sz'∧0≤n∧n.toNat<es.length then .ok (.ep k sz n.toNat 0) env s else .fail
 | _=>.fail
@[simp] theorem agm {sz:Nat} {x i:IX} {env:Env} {s:St}:aop glob call cx env s (.idx sz x i)=match rd glob env i with
  | some (.i _ n)=>match rV env x with
   | some k=>afr env s sz k (lk env k) n
   | none=>Zu env s sz (rd glob env x) n
  | _=>.fail:=rfl
@[simp] theorem afq {env:Env} {s:St} {sz k t sz':Nat} {tip:Bool} {es:List AV} {n:Int}:
  afr env s sz k (some (.own tip t sz' es)) n=if sz=sz'∧0≤n∧n.toNat<es.length then .ok (.ep k sz n.toNat 0) env s else .fail:=rfl
@[simp] theorem agM {env:Env} {s:St} {sz:Nat} {es:List AV} {n:Int}:Zu env s sz (some (.sl es)) n=match es[n.toNat]? with
  | some e=>if 0≤n∧e.cells.length=sz then .ok (.v (.ip e.cells)) env s else .fail
  | none=>.fail:=rfl
@[simp] theorem afp {env:Env} {s:St} {sz:Nat} {z:Bool} {es:List AV} {n:Int}:Zu env s sz (some (slf z es)) n=Zu env s sz (some (.sl es)) n:=by
 rcases vk z es with h|⟨h,h'⟩<;>rw [h]
 subst h';rfl
def YH (glob:Nat→Option (List AV)) (sz:Nat) (lo hi:Option IX) (s:St):Option (AV×Env)→RO
 | some (.sl es,env)=>match bound glob env 0 lo,bound glob env es.length hi with
   | some l,some h=>if l≤h∧h≤es.length∧(es.all fun e=>e.cells.length == sz) then .ok (.v (.sl ((es.drop l).take (h - l)))) env s else .fail
   | _,_=>.fail
 | some (.ns,env)=>match bound glob env 0 lo,bound glob env 0 hi with
   | some 0,some 0=>.ok (.v .ns) env s
   | _,_=>.fail
 | some (.sk k ver sz' o m,env)=>match bound glob env 0 lo,bound glob env m hi with
   | some l,some h=>if sz=sz'∧l≤h∧h≤m then .ok (.v (.sk k ver sz (o+l * sz) (h - l))) env s else .fail
   | _,_=>.fail
 | _=>.fail
@[simp] theorem agD {sz:Nat} {lo hi:Option IX} {s:St} {k ver sz' o m:Nat} {env:Env}:YH glob sz lo hi s (some (.sk k ver sz' o m,env))=match bound glob env 0 lo,bound glob env m hi with
   | some l,some h=>if sz=sz'∧l≤h∧h≤m then .ok (.v (.sk k ver sz (o+l * sz) (h - l))) env s else .fail
   | _,_=>.fail:=rfl
@[simp] theorem agf {sz:Nat} {x:IX} {lo hi:Option IX} {env:Env} {s:St}:aop glob call cx env s (.slc sz x lo hi)=YH glob sz lo hi s (esc glob env x):=by
 simp only [aop,YH]
 cases esc glob env x with
 | none=>rfl
 | some p=>obtain ⟨a,e⟩:=p;cases a<;>rfl
@[simp] theorem agC {sz:Nat} {lo hi:Option IX} {s:St} {es:List AV} {env:Env}:YH glob sz lo hi s (some (.sl es,env))=match bound glob env 0 lo,bound glob env es.length hi with
   | some l,some h=>if l≤h∧h≤es.length∧(es.all fun e=>e.cells.length == sz) then .ok (.v (.sl ((es.drop l).take (h - l)))) env s else .fail
   | _,_=>.fail:=rfl
@[simp] theorem agE {sz:Nat} {lo hi:Option IX} {s:St} {env:Env}:YH glob sz lo hi s (some (.ns,env))=match bound glob env 0 lo,bound glob env 0 hi with
   | some 0,some 0=>.ok (.v .ns) env s
   | _,_=>.fail:=rfl
end
theorem w64 {n:Int} (h:-9223372036854775808≤n) (h':n≤9223372036854775807):IntKind.i64.wrap n=n:=IntWalk.i64_in n ⟨h,h'⟩
theorem w8 {n:Int} (h:0≤n) (h':n≤255):IntKind.u8.wrap n=n:=by rw [IntKind.wrap_u8];omega
theorem wI {i:Nat} (h:i≤1152921504606846976):IntKind.i64.wrap ((i:Int)+1)=(i:Int)+1:=by rw [w64]<;>omega
theorem drop_cons {α:Type} {l r:List α} {i:Nat} {a:α} (h:l.drop i=a::r):l[i]?=some a∧l.drop (i+1)=r∧i<l.length∧∀h:i<l.length,l[i]=a:=by
 have hi:i<l.length:=by
  rcases Nat.lt_or_ge i l.length with h1|h1
  ·exact h1
  ·rw [List.drop_eq_nil_of_le h1] at h;cases h
 rw [List.drop_eq_getElem_cons hi] at h;injection h with h1 h2;exact ⟨by rw [List.getElem?_eq_getElem hi,h1],h2,hi,fun _=>h1⟩
theorem drop_nil {α:Type} {l:List α} {i:Nat} (h:l.drop i=[]):l.length≤i:=by simpa using h
inductive C where
 | mk (kind:Int) (name:Rl) (lo hi:Int) (z:Bool) (parts:List C)
namespace C
def kind:C→Int | .mk k _ _ _ _ _=>k
def name:C→Rl | .mk _ n _ _ _ _=>n
def lo:C→Int | .mk _ _ l _ _ _=>l
def hi:C→Int | .mk _ _ _ h _ _=>h
def z:C→Bool | .mk _ _ _ _ z _=>z
def parts:C→List C | .mk _ _ _ _ _ ps=>ps
@[simp] theorem Wh (k:Int) (n:Rl) (l h:Int) (z:Bool) (ps:List C):(C.mk k n l h z ps).kind=k:=rfl
@[simp] theorem agJ (k:Int) (n:Rl) (l h:Int) (z:Bool) (ps:List C):(C.mk k n l h z ps).name=n:=rfl
@[simp] theorem afj (k:Int) (n:Rl) (l h:Int) (z:Bool) (ps:List C):(C.mk k n l h z ps).lo=l:=rfl
@[simp] theorem afs (k:Int) (n:Rl) (l h:Int) (z:Bool) (ps:List C):(C.mk k n l h z ps).hi=h:=rfl
@[simp] theorem ahT (k:Int) (n:Rl) (l h:Int) (z:Bool) (ps:List C):(C.mk k n l h z ps).z=z:=rfl
@[simp] theorem Sr (k:Int) (n:Rl) (l h:Int) (z:Bool) (ps:List C):(C.mk k n l h z ps).parts=ps:=rfl
end C
mutual
theorem C.ind {P:C→Prop} (h:∀k n l hi z ps,(∀p∈ps,P p)→P (.mk k n l hi z ps)):∀c,P c
 | .mk k n l hi z ps=>h k n l hi z ps (C.indL h ps)
theorem C.indL {P:C→Prop} (h:∀k n l hi z ps,(∀p∈ps,P p)→P (.mk k n l hi z ps)):∀(ps:List C),∀p∈ps,P p
 | []=>fun p hp=>by cases hp
 | a::r=>fun p hp=>(List.mem_cons.1 hp).elim (fun e=>e ▸ C.ind h a) (fun hp=>C.indL h r p hp)
end
mutual
def aK:C→AV
 | .mk k n l h z ps=>.ag [.i .i64 k,.s n,.i .i64 l,.i .i64 h,slf z (JU ps)]
def JU:List C→List AV
 | []=>[]
 | a::r=>aK a::JU r
end
theorem NG:∀ps:List C,JU ps=ps.map aK
 | []=>by simp [JU]
 | a::r=>by simp [JU,NG r]
theorem uN (c:C):aK c=.ag [.i .i64 c.kind,.s c.name,.i .i64 c.lo,.i .i64 c.hi,slf c.z (c.parts.map aK)]:=by
 cases c;simp [aK,NG]
@[simp] theorem acC (c:C):(aK c).plain=aK c:=by rw [uN];simp
@[simp] theorem ac5 (c:C):(aK c).cells=[.i .i64 c.kind,.s c.name,.i .i64 c.lo,.i .i64 c.hi,slf c.z (c.parts.map aK)]:=by rw [uN];rfl
@[simp] theorem Jc (c:C):AV.ag [.i .i64 c.kind,.s c.name,.i .i64 c.lo,.i .i64 c.hi,slf c.z (c.parts.map aK)]=aK c:=(uN c).symm
theorem C.ind' {P:C→Prop} (h:∀c:C,(∀p∈c.parts,P p)→P c):∀c,P c:=C.ind fun k n l hi z ps ih=>h _ ih
@[simp] theorem ab7 (n:Nat):cu n []=true:=by simp [cu]
@[simp] theorem abL (n:Nat) (a:AV) (r:List AV):cu n (a::r)=(a.under n && cu n r):=by simp [cu]
@[simp] theorem aga (n:Nat) (k:IntKind) (x:Int):(AV.i k x).under n=true:=by simp [AV.under]
@[simp] theorem agb (n:Nat) (x:Bool):(AV.b x).under n=true:=by simp [AV.under]
@[simp] theorem af9 (n:Nat) (x:Rl):(AV.s x).under n=true:=by simp [AV.under]
@[simp] theorem ad7 (n:Nat) (x:List AV):(AV.sl x).under n=cu n x:=by simp [AV.under]
@[simp] theorem aed (n:Nat) (x:List AV):(AV.ag x).under n=cu n x:=by simp [AV.under]
@[simp] theorem ad5 (n:Nat) (x:List AV):(AV.tu x).under n=cu n x:=by simp [AV.under]
@[simp] theorem aeb (n:Nat) (x:List AV):(AV.ip x).under n=cu n x:=by simp [AV.under]
@[simp] theorem ad6 (n l:Nat) (x:List AV):(AV.st l x).under n=(decide (l<n) && cu n x):=by simp [AV.under]
@[simp] theorem ad9 (n:Nat):AV.ns.under n=true:=by simp [AV.under]
@[simp] theorem aea (n:Nat):AV.nm.under n=true:=by simp [AV.under]
@[simp] theorem ad8 (n l o:Nat):(AV.pt l o).under n=decide (l<n):=by simp [AV.under]
@[simp] theorem aec (n:Nat) (f:Fn) (as cs:List AV):(AV.fn f as cs).under n=(cu n as && cu n cs):=by simp [AV.under]
@[simp] theorem ads (n:Nat) (z:Bool) (es:List AV):(slf z es).under n=cu n es:=by
 rcases vk z es with h|⟨h,h'⟩
 ·rw [h];simp
 ·rw [h,h'];simp
@[simp] theorem ahR (s:St) (n:Nat) (k:IntKind) (x:Int):frz s n (.i k x)=some (.i k x):=by simp [frz]
@[simp] theorem ahS (s:St) (n:Nat) (x:Bool):frz s n (.b x)=some (.b x):=by simp [frz]
@[simp] theorem ahQ (s:St) (n:Nat) (x:Rl):frz s n (.s x)=some (.s x):=by simp [frz]
mutual
theorem Jm (n:Nat):∀c:C,(aK c).under n=true
 | .mk k nm l h z ps=>by simp [aK,zS n ps]
theorem zS (n:Nat):∀ps:List C,cu n (JU ps)=true
 | []=>by simp [JU]
 | a::r=>by simp [JU,Jm n a,zS n r]
end
@[simp] theorem ab6 (n:Nat) (c:C):(aK c).under n=true:=Jm n c
@[simp] theorem abK (n:Nat) (ps:List C):cu n (ps.map aK)=true:=by rw [←NG];exact zS n ps
inductive C.Ok:C→Prop where
 | mk (c:C) (hn:c.name.length≤1152921504606846976) (hps:c.parts.length≤1152921504606846976)
  (hk:-9223372036854775808≤c.kind∧c.kind≤9223372036854775807) (hl:-9223372036854775808≤c.lo∧c.lo≤9223372036854775807) (hh:-9223372036854775808≤c.hi∧c.hi≤9223372036854775807)
  (hp:∀p∈c.parts,C.Ok p):C.Ok c
mutual
def wR:C→Nat
 | .mk _ _ _ _ _ ps=>1+Jq ps
def Jq:List C→Nat
 | []=>0
 | p::r=>wR p+Jq r
end
mutual
def yX:C→Nat
 | .mk _ _ _ _ _ ps=>FX ps
def FX:List C→Nat
 | []=>0
 | p::r=>max (1+yX p) (FX r)
end
mutual
def wC:C→Nat
 | .mk _ n _ _ _ ps=>1+n.length / 40+wL ps
def wL:List C→Nat
 | []=>0
 | p::r=>wC p+wL r
end
theorem YI (c:C):wR c=1+Jq c.parts:=by cases c;simp [wR]
theorem Yb (c:C):yX c=FX c.parts:=by cases c;simp [yX]
theorem abJ (c:C):wC c=1+c.name.length / 40+wL c.parts:=by cases c;simp [wC]
theorem Yw {p:C}:∀{l:List C},p∈l→wC p≤wL l
 | [],h=>by cases h
 | q::r,h=>by
  simp only [wL];rcases List.mem_cons.1 h with rfl|h
  ·omega
  ·have:=Yw h;omega
theorem ab4 (c:C):1≤wC c:=by rw [abJ];omega
theorem Yx:∀l:List C,l.length≤wL l
 | []=>by simp
 | p::r=>by have:=Yx r;have:=ab4 p;simp only [wL,List.length_cons];omega
end Go.Ai
