/-
 Slices that may be nil, numbers, lists: more rules for symbolic runs.
-/
import Derived.Test.YtcofenimejmoeaaGreatDoorAiSx
import Derived.IntWalk
set_option maxRecDepth 100000
set_option linter.unusedSimpArgs false
set_option linter.unusedVariables false
set_option linter.unusedSectionVars false
namespace Go.Ai
def slf (z:Bool) (es:List AV):AV:=
 match z,es with
 | true,[]=>.ns
 | _,es=>.sl es
@[simp] theorem aa5 (es:List AV):slf false es=.sl es:=by cases es<;>rfl
@[simp] theorem alA:slf true []=.ns:=rfl
@[simp] theorem ake (z:Bool) (e:AV) (es:List AV):slf z (e::es)=.sl (e::es):=by cases z<;>rfl
theorem yE (z:Bool) (es:List AV):slf z es=.sl es∨(slf z es=.ns∧es=[]):=by
 cases z<;>cases es<;>simp
@[simp] theorem ai4 (z:Bool) (es:List AV):(slf z es).cells=[slf z es]:=by rcases yE z es with h|⟨h,_⟩<;>rw [h]<;>rfl
@[simp] theorem alF (z:Bool) (es:List AV):(slf z es).one=true:=by rcases yE z es with h|⟨h,_⟩<;>rw [h]<;>rfl
@[simp] theorem abo (z:Bool) (es:List AV):(slf z es).plain=slf z es:=by rcases yE z es with h|⟨h,_⟩<;>rw [h]<;>rfl
@[simp] theorem ahJ (z:Bool) (es:List AV):(slf z es).plain1=slf z es:=by rcases yE z es with h|⟨h,_⟩<;>rw [h]<;>rfl
section
variable {glob:Nat→Option (List AV)} {call:AV→List AV→St→Ctx→CO} {cx:Ctx}
def vV (env:Env):Option EV→Option (List AV)
 | some (.v (.sl es))=>some es
 | some (.v (.st _ es))=>some es
 | some (.v .ns)=>some []
 | some (.v .se)=>some []
 | some (.v .sz)=>some []
 | some (.own _ _ _ es)=>some es
 | some (.al j)=>match lk env j with
  | some (.own _ _ _ es)=>some es
  | _=>none
 | _=>none
@[simp] theorem akF {env:Env} {x:IX}:elems glob env x=vV env (ev glob env x):=by unfold elems vV;rfl
@[simp] theorem aiX {env:Env} {es:List AV}:vV env (some (.v (.sl es)))=some es:=rfl
@[simp] theorem aiW {env:Env} {l:Nat} {es:List AV}:vV env (some (.v (.st l es)))=some es:=rfl
@[simp] theorem aiZ {env:Env}:vV env (some (.v .se))=some []:=rfl
@[simp] theorem aiV {env:Env}:vV env (some (.v .sz))=some []:=rfl
@[simp] theorem ai0 {env:Env}:vV env (some (.v .ns))=some []:=rfl
@[simp] theorem ah6 {env:Env} {z:Bool} {es:List AV}:vV env (some (.v (slf z es)))=some es:=by
 rcases yE z es with h|⟨h,h'⟩
 ·rw [h];rfl
 ·rw [h,h'];rfl
@[simp] theorem ah8 {env:Env} {t sz:Nat} {tip:Bool} {es:List AV}:vV env (some (.own tip t sz es))=some es:=rfl
@[simp] theorem ai1 {env:Env} {j:Nat}:vV env (some (.al j))=match lk env j with
  | some (.own _ _ _ es)=>some es
  | _=>none:=rfl
def aea (env:Env) (s:St) (sz:Nat) (v:Option AV) (n:Int):RO:=
 match v with
 | some (.sl es)=>match es[n.toNat]? with
  | some e=>if 0≤n∧e.cells.length=sz then .ok (.v (.ip e.cells)) env s else .fail
  | none=>.fail
 | some (.sk l ver sz' o m)=>if sz=sz'∧0≤n∧n.toNat<m then .ok (.v (.sp l ver (o+n.toNat * sz))) env s else .fail
 | _=>.fail
@[simp] theorem alL {env:Env} {s:St} {sz l ver sz' o m:Nat} {n:Int}:aea env s sz (some (.sk l ver sz' o m)) n=if sz=sz'∧0≤n∧n.toNat<m then .ok (.v (.sp l ver (o+n.toNat * sz))) env s else .fail:=rfl
def aky (env:Env) (s:St) (sz:Nat) (k:Nat) (e:Option EV) (n:Int):RO:=
 match e with
 | some (.own _ _ sz' es)=>if sz=sz'∧0≤n∧n.toNat<es.length then .ok (.ep k sz n.toNat 0) env s else .fail
 | _=>.fail
@[simp] theorem alk {sz:Nat} {x i:IX} {env:Env} {s:St}:aop glob call cx env s (.idx sz x i)=match rd glob env i with
  | some (.i _ n)=>match vS env x with
   | some k=>aky env s sz k (lk env k) n
   | none=>aea env s sz (rd glob env x) n
  | _=>.fail:=rfl
@[simp] theorem akx {env:Env} {s:St} {sz k t sz':Nat} {tip:Bool} {es:List AV} {n:Int}:
  aky env s sz k (some (.own tip t sz' es)) n=if sz=sz'∧0≤n∧n.toNat<es.length then .ok (.ep k sz n.toNat 0) env s else .fail:=rfl
@[simp] theorem alK {env:Env} {s:St} {sz:Nat} {es:List AV} {n:Int}:aea env s sz (some (.sl es)) n=match es[n.toNat]? with
  | some e=>if 0≤n∧e.cells.length=sz then .ok (.v (.ip e.cells)) env s else .fail
  | none=>.fail:=rfl
@[simp] theorem akw {env:Env} {s:St} {sz:Nat} {z:Bool} {es:List AV} {n:Int}:aea env s sz (some (slf z es)) n=aea env s sz (some (.sl es)) n:=by
 rcases yE z es with h|⟨h,h'⟩<;>rw [h]
 subst h';rfl
def ac4 (glob:Nat→Option (List AV)) (sz:Nat) (lo hi:Option IX) (s:St):Option (AV×Env)→RO
 | some (.sl es,env)=>match bound glob env 0 lo,bound glob env es.length hi with
   | some l,some h=>if l≤h∧h≤es.length∧(es.all fun e=>e.cells.length == sz) then .ok (.v (.sl ((es.drop l).take (h - l)))) env s else .fail
   | _,_=>.fail
 | some (.ns,env)=>match bound glob env 0 lo,bound glob env 0 hi with
   | some 0,some 0=>.ok (.v .ns) env s
   | _,_=>.fail
 | some (.sk k ver sz' o m,env)=>match bound glob env 0 lo,bound glob env m hi with
   | some l,some h=>if sz=sz'∧l≤h∧h≤m then .ok (.v (.sk k ver sz (o+l * sz) (h - l))) env s else .fail
   | _,_=>.fail
 | _=>.fail
@[simp] theorem alC {sz:Nat} {lo hi:Option IX} {s:St} {k ver sz' o m:Nat} {env:Env}:ac4 glob sz lo hi s (some (.sk k ver sz' o m,env))=match bound glob env 0 lo,bound glob env m hi with
   | some l,some h=>if sz=sz'∧l≤h∧h≤m then .ok (.v (.sk k ver sz (o+l * sz) (h - l))) env s else .fail
   | _,_=>.fail:=rfl
@[simp] theorem ale {sz:Nat} {x:IX} {lo hi:Option IX} {env:Env} {s:St}:aop glob call cx env s (.slc sz x lo hi)=ac4 glob sz lo hi s (esc glob env x):=by
 simp only [aop,ac4]
 cases esc glob env x with
 | none=>rfl
 | some p=>obtain ⟨a,e⟩:=p;cases a<;>rfl
@[simp] theorem alB {sz:Nat} {lo hi:Option IX} {s:St} {es:List AV} {env:Env}:ac4 glob sz lo hi s (some (.sl es,env))=match bound glob env 0 lo,bound glob env es.length hi with
   | some l,some h=>if l≤h∧h≤es.length∧(es.all fun e=>e.cells.length == sz) then .ok (.v (.sl ((es.drop l).take (h - l)))) env s else .fail
   | _,_=>.fail:=rfl
@[simp] theorem alD {sz:Nat} {lo hi:Option IX} {s:St} {env:Env}:ac4 glob sz lo hi s (some (.ns,env))=match bound glob env 0 lo,bound glob env 0 hi with
   | some 0,some 0=>.ok (.v .ns) env s
   | _,_=>.fail:=rfl
end
theorem w64 {n:Int} (h:-9223372036854775808≤n) (h':n≤9223372036854775807):IntKind.i64.wrap n=n:=IntWalk.i64_in n ⟨h,h'⟩
theorem w8 {n:Int} (h:0≤n) (h':n≤255):IntKind.u8.wrap n=n:=by rw [IntKind.wrap_u8];omega
theorem wI {i:Nat} (h:i≤1152921504606846976):IntKind.i64.wrap ((i:Int)+1)=(i:Int)+1:=by rw [w64]<;>omega
theorem drop_cons {α:Type} {l r:List α} {i:Nat} {a:α} (h:l.drop i=a::r):l[i]?=some a∧l.drop (i+1)=r∧i<l.length∧∀h:i<l.length,l[i]=a:=by
 have hi:i<l.length:=by
  rcases Nat.lt_or_ge i l.length with h1|h1
  ·exact h1
  ·rw [List.drop_eq_nil_of_le h1] at h;cases h
 rw [List.drop_eq_getElem_cons hi] at h;injection h with h1 h2;exact ⟨by rw [List.getElem?_eq_getElem hi,h1],h2,hi,fun _=>h1⟩
theorem drop_nil {α:Type} {l:List α} {i:Nat} (h:l.drop i=[]):l.length≤i:=by simpa using h
inductive C where
 | mk (kind:Int) (name:Rl) (lo hi:Int) (z:Bool) (parts:List C)
namespace C
def kind:C→Int | .mk k _ _ _ _ _=>k
def name:C→Rl | .mk _ n _ _ _ _=>n
def lo:C→Int | .mk _ _ l _ _ _=>l
def hi:C→Int | .mk _ _ _ h _ _=>h
def z:C→Bool | .mk _ _ _ _ z _=>z
def parts:C→List C | .mk _ _ _ _ _ ps=>ps
@[simp] theorem Ed (k:Int) (n:Rl) (l h:Int) (z:Bool) (ps:List C):(C.mk k n l h z ps).kind=k:=rfl
@[simp] theorem GV (k:Int) (n:Rl) (l h:Int) (z:Bool) (ps:List C):(C.mk k n l h z ps).name=n:=rfl
@[simp] theorem aat (k:Int) (n:Rl) (l h:Int) (z:Bool) (ps:List C):(C.mk k n l h z ps).lo=l:=rfl
@[simp] theorem aaC (k:Int) (n:Rl) (l h:Int) (z:Bool) (ps:List C):(C.mk k n l h z ps).hi=h:=rfl
@[simp] theorem amQ (k:Int) (n:Rl) (l h:Int) (z:Bool) (ps:List C):(C.mk k n l h z ps).z=z:=rfl
@[simp] theorem Df (k:Int) (n:Rl) (l h:Int) (z:Bool) (ps:List C):(C.mk k n l h z ps).parts=ps:=rfl
end C
mutual
theorem C.ind {P:C→Prop} (h:∀k n l hi z ps,(∀p∈ps,P p)→P (.mk k n l hi z ps)):∀c,P c
 | .mk k n l hi z ps=>h k n l hi z ps (C.indL h ps)
theorem C.indL {P:C→Prop} (h:∀k n l hi z ps,(∀p∈ps,P p)→P (.mk k n l hi z ps)):∀(ps:List C),∀p∈ps,P p
 | []=>fun p hp=>by cases hp
 | a::r=>fun p hp=>(List.mem_cons.1 hp).elim (fun e=>e ▸ C.ind h a) (fun hp=>C.indL h r p hp)
end
mutual
def aJ:C→AV
 | .mk k n l h z ps=>.ag [.i .i64 k,.s n,.i .i64 l,.i .i64 h,slf z (Ox ps)]
def Ox:List C→List AV
 | []=>[]
 | a::r=>aJ a::Ox r
end
theorem Rx:∀ps:List C,Ox ps=ps.map aJ
 | []=>by simp [Ox]
 | a::r=>by simp [Ox,Rx r]
theorem xX (c:C):aJ c=.ag [.i .i64 c.kind,.s c.name,.i .i64 c.lo,.i .i64 c.hi,slf c.z (c.parts.map aJ)]:=by
 cases c;simp [aJ,Rx]
@[simp] theorem ahH (c:C):(aJ c).plain=aJ c:=by rw [xX];simp
@[simp] theorem aic (c:C):(aJ c).cells=[.i .i64 c.kind,.s c.name,.i .i64 c.lo,.i .i64 c.hi,slf c.z (c.parts.map aJ)]:=by rw [xX];rfl
@[simp] theorem UL (c:C):AV.ag [.i .i64 c.kind,.s c.name,.i .i64 c.lo,.i .i64 c.hi,slf c.z (c.parts.map aJ)]=aJ c:=(xX c).symm
theorem C.ind' {P:C→Prop} (h:∀c:C,(∀p∈c.parts,P p)→P c):∀c,P c:=C.ind fun k n l hi z ps ih=>h _ ih
@[simp] theorem ahk (n:Nat):bW n []=true:=by simp [bW]
@[simp] theorem agV (n:Nat) (a:AV) (r:List AV):bW n (a::r)=(a.under n && bW n r):=by simp [bW]
@[simp] theorem ala (n:Nat) (k:IntKind) (x:Int):(AV.i k x).under n=true:=by simp [AV.under]
@[simp] theorem alb (n:Nat) (x:Bool):(AV.b x).under n=true:=by simp [AV.under]
@[simp] theorem ak9 (n:Nat) (x:Rl):(AV.s x).under n=true:=by simp [AV.under]
@[simp] theorem aje (n:Nat) (x:List AV):(AV.sl x).under n=bW n x:=by simp [AV.under]
@[simp] theorem ajk (n:Nat) (x:List AV):(AV.ag x).under n=bW n x:=by simp [AV.under]
@[simp] theorem ajc (n:Nat) (x:List AV):(AV.tu x).under n=bW n x:=by simp [AV.under]
@[simp] theorem aji (n:Nat) (x:List AV):(AV.ip x).under n=bW n x:=by simp [AV.under]
@[simp] theorem ajd (n l:Nat) (x:List AV):(AV.st l x).under n=(decide (l<n) && bW n x):=by simp [AV.under]
@[simp] theorem ajg (n:Nat):AV.ns.under n=true:=by simp [AV.under]
@[simp] theorem ajh (n:Nat):AV.nm.under n=true:=by simp [AV.under]
@[simp] theorem ajf (n l o:Nat):(AV.pt l o).under n=decide (l<n):=by simp [AV.under]
@[simp] theorem ajj (n:Nat) (f:Fn) (as cs:List AV):(AV.fn f as cs).under n=(bW n as && bW n cs):=by simp [AV.under]
@[simp] theorem aiz (n:Nat) (z:Bool) (es:List AV):(slf z es).under n=bW n es:=by
 rcases yE z es with h|⟨h,h'⟩
 ·rw [h];simp
 ·rw [h,h'];simp
@[simp] theorem amO (s:St) (n:Nat) (k:IntKind) (x:Int):frz s n (.i k x)=some (.i k x):=by simp [frz]
@[simp] theorem amP (s:St) (n:Nat) (x:Bool):frz s n (.b x)=some (.b x):=by simp [frz]
@[simp] theorem amN (s:St) (n:Nat) (x:Rl):frz s n (.s x)=some (.s x):=by simp [frz]
mutual
theorem NK (n:Nat):∀c:C,(aJ c).under n=true
 | .mk k nm l h z ps=>by simp [aJ,DW n ps]
theorem DW (n:Nat):∀ps:List C,bW n (Ox ps)=true
 | []=>by simp [Ox]
 | a::r=>by simp [Ox,NK n a,DW n r]
end
@[simp] theorem ahj (n:Nat) (c:C):(aJ c).under n=true:=NK n c
@[simp] theorem agU (n:Nat) (ps:List C):bW n (ps.map aJ)=true:=by rw [←Rx];exact DW n ps
inductive C.Ok:C→Prop where
 | mk (c:C) (hn:c.name.length≤1152921504606846976) (hps:c.parts.length≤1152921504606846976)
  (hk:-9223372036854775808≤c.kind∧c.kind≤9223372036854775807) (hl:-9223372036854775808≤c.lo∧c.lo≤9223372036854775807) (hh:-9223372036854775808≤c.hi∧c.hi≤9223372036854775807)
  (hp:∀p∈c.parts,C.Ok p):C.Ok c
mutual
def nV:C→Nat
 | .mk _ _ _ _ _ ps=>1+zN ps
def zN:List C→Nat
 | []=>0
 | p::r=>nV p+zN r
end
mutual
def yT:C→Nat
 | .mk _ _ _ _ _ ps=>En ps
def En:List C→Nat
 | []=>0
 | p::r=>max (1+yT p) (En r)
end
mutual
def wC:C→Nat
 | .mk _ n _ _ _ ps=>1+n.length / 40+wL ps
def wL:List C→Nat
 | []=>0
 | p::r=>wC p+wL r
end
theorem CX (c:C):nV c=1+zN c.parts:=by cases c;simp [nV]
theorem Nl (c:C):yT c=En c.parts:=by cases c;simp [yT]
theorem Bz (c:C):wC c=1+c.name.length / 40+wL c.parts:=by cases c;simp [wC]
theorem LW {p:C}:∀{l:List C},p∈l→wC p≤wL l
 | [],h=>by cases h
 | q::r,h=>by
  simp only [wL];rcases List.mem_cons.1 h with rfl|h
  ·omega
  ·have:=LW h;omega
theorem ahe (c:C):1≤wC c:=by rw [Bz];omega
theorem PZ:∀l:List C,l.length≤wL l
 | []=>by simp
 | p::r=>by have:=PZ r;have:=ahe p;simp only [wL,List.length_cons];omega
end Go.Ai
