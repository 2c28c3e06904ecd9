/-
 Slices that may be nil, numbers, lists: more rules for symbolic runs.
-/
import Derived.Test.YtpihciomhfoafaaGreatDoorAiSx
import Derived.IntWalk
set_option maxRecDepth 100000
set_option linter.unusedSimpArgs false
set_option linter.unusedVariables false
set_option linter.unusedSectionVars false
namespace Go.Ai
def slf (z:Bool) (es:List AV):AV:=
 match z,es with
 | true,[]=>.ns
 | _,es=>.sl es
@[simp] theorem U7 (es:List AV):slf false es=.sl es:=by cases es<;>rfl
@[simp] theorem acG:slf true []=.ns:=rfl
@[simp] theorem abf (z:Bool) (e:AV) (es:List AV):slf z (e::es)=.sl (e::es):=by cases z<;>rfl
theorem uz (z:Bool) (es:List AV):slf z es=.sl es∨(slf z es=.ns∧es=[]):=by
 cases z<;>cases es<;>simp
@[simp] theorem Z8 (z:Bool) (es:List AV):(slf z es).cells=[slf z es]:=by rcases uz z es with h|⟨h,_⟩<;>rw [h]<;>rfl
@[simp] theorem acL (z:Bool) (es:List AV):(slf z es).one=true:=by rcases uz z es with h|⟨h,_⟩<;>rw [h]<;>rfl
@[simp] theorem ZP (z:Bool) (es:List AV):(slf z es).plain=slf z es:=by rcases uz z es with h|⟨h,_⟩<;>rw [h]<;>rfl
@[simp] theorem Y2 (z:Bool) (es:List AV):(slf z es).plain1=slf z es:=by rcases uz z es with h|⟨h,_⟩<;>rw [h]<;>rfl
section
variable {glob:Nat→Option (List AV)} {call:AV→List AV→St→Ctx→CO} {cx:Ctx}
def oV (env:Env):Option EV→Option (List AV)
 | some (.v (.sl es))=>some es
 | some (.v (.st _ es))=>some es
 | some (.v .ns)=>some []
 | some (.v .se)=>some []
 | some (.v .sz)=>some []
 | some (.own _ _ _ es)=>some es
 | some (.al j)=>match lk env j with
  | some (.own _ _ _ es)=>some es
  | _=>none
 | _=>none
@[simp] theorem abD {env:Env} {x:IX}:elems glob env x=oV env (ev glob env x):=by unfold elems oV;rfl
@[simp] theorem ZW {env:Env} {es:List AV}:oV env (some (.v (.sl es)))=some es:=rfl
@[simp] theorem ZV {env:Env} {l:Nat} {es:List AV}:oV env (some (.v (.st l es)))=some es:=rfl
@[simp] theorem ZX {env:Env}:oV env (some (.v .se))=some []:=rfl
@[simp] theorem ZU {env:Env}:oV env (some (.v .sz))=some []:=rfl
@[simp] theorem ZY {env:Env}:oV env (some (.v .ns))=some []:=rfl
@[simp] theorem Y6 {env:Env} {z:Bool} {es:List AV}:oV env (some (.v (slf z es)))=some es:=by
 rcases uz z es with h|⟨h,h'⟩
 ·rw [h];rfl
 ·rw [h,h'];rfl
@[simp] theorem Y7 {env:Env} {t sz:Nat} {tip:Bool} {es:List AV}:oV env (some (.own tip t sz es))=some es:=rfl
@[simp] theorem Z4 {env:Env} {j:Nat}:oV env (some (.al j))=match lk env j with
  | some (.own _ _ _ es)=>some es
  | _=>none:=rfl
def Xg (env:Env) (s:St) (sz:Nat) (v:Option AV) (n:Int):RO:=
 match v with
 | some (.sl es)=>match es[n.toNat]? with
  | some e=>if 0≤n∧e.cells.length=sz then .ok (.v (.ip e.cells)) env s else .fail
  | none=>.fail
 | some (.sk l ver sz' o m)=>if sz=sz'∧0≤n∧n.toNat<m then .ok (.v (.sp l ver (o+n.toNat * sz))) env s else .fail
 | _=>.fail
@[simp] theorem acU {env:Env} {s:St} {sz l ver sz' o m:Nat} {n:Int}:Xg env s sz (some (.sk l ver sz' o m)) n=if sz=sz'∧0≤n∧n.toNat<m then .ok (.v (.sp l ver (o+n.toNat * sz))) env s else .fail:=rfl
def aby (env:Env) (s:St) (sz:Nat) (k:Nat) (e:Option EV) (n:Int):RO:=
 match e with
 | some (.own _ _ sz' es)=>if sz=sz'∧0≤n∧n.toNat<es.length then .ok (.ep k sz n.toNat 0) env s else .fail
 | _=>.fail
@[simp] theorem acr {sz:Nat} {x i:IX} {env:Env} {s:St}:aop glob call cx env s (.idx sz x i)=match rd glob env i with
  | some (.i _ n)=>match gZ env x with
   | some k=>aby env s sz k (lk env k) n
   | none=>Xg env s sz (rd glob env x) n
  | _=>.fail:=rfl
@[simp] theorem abx {env:Env} {s:St} {sz k t sz':Nat} {tip:Bool} {es:List AV} {n:Int}:
  aby env s sz k (some (.own tip t sz' es)) n=if sz=sz'∧0≤n∧n.toNat<es.length then .ok (.ep k sz n.toNat 0) env s else .fail:=rfl
@[simp] theorem acT {env:Env} {s:St} {sz:Nat} {es:List AV} {n:Int}:Xg env s sz (some (.sl es)) n=match es[n.toNat]? with
  | some e=>if 0≤n∧e.cells.length=sz then .ok (.v (.ip e.cells)) env s else .fail
  | none=>.fail:=rfl
@[simp] theorem abw {env:Env} {s:St} {sz:Nat} {z:Bool} {es:List AV} {n:Int}:Xg env s sz (some (slf z es)) n=Xg env s sz (some (.sl es)) n:=by
 rcases uz z es with h|⟨h,h'⟩<;>rw [h]
 subst h';rfl
def Ws (glob:Nat→Option (List AV)) (sz:Nat) (lo hi:Option IX) (s:St):Option (AV×Env)→RO
 | some (.sl es,env)=>match bound glob env 0 lo,bound glob env es.length hi with
   | some l,some h=>if l≤h∧h≤es.length∧(es.all fun e=>e.cells.length == sz) then .ok (.v (.sl ((es.drop l).take (h - l)))) env s else .fail
   | _,_=>.fail
 | some (.ns,env)=>match bound glob env 0 lo,bound glob env 0 hi with
   | some 0,some 0=>.ok (.v .ns) env s
   | _,_=>.fail
 | some (.sk k ver sz' o m,env)=>match bound glob env 0 lo,bound glob env m hi with
   | some l,some h=>if sz=sz'∧l≤h∧h≤m then .ok (.v (.sk k ver sz (o+l * sz) (h - l))) env s else .fail
   | _,_=>.fail
 | _=>.fail
@[simp] theorem acI {sz:Nat} {lo hi:Option IX} {s:St} {k ver sz' o m:Nat} {env:Env}:Ws glob sz lo hi s (some (.sk k ver sz' o m,env))=match bound glob env 0 lo,bound glob env m hi with
   | some l,some h=>if sz=sz'∧l≤h∧h≤m then .ok (.v (.sk k ver sz (o+l * sz) (h - l))) env s else .fail
   | _,_=>.fail:=rfl
def Wu (glob:Nat→Option (List AV)) (sz:Nat) (hi mx:IX) (s:St):Option (AV×Env)→RO
 | some (.sl es,env)=>match bound glob env 0 (some hi),bound glob env 0 (some mx) with
   | some h,some m=>if h≤m∧m≤es.length∧(es.all fun e=>e.cells.length == sz) then .ok (.v (.sl (es.take h))) env s else .fail
   | _,_=>.fail
 | _=>.fail
@[simp] theorem abg {sz:Nat} {hi mx:IX} {s:St} {es:List AV} {env:Env}:Wu glob sz hi mx s (some (.sl es,env))=match bound glob env 0 (some hi),bound glob env 0 (some mx) with
   | some h,some m=>if h≤m∧m≤es.length∧(es.all fun e=>e.cells.length == sz) then .ok (.v (.sl (es.take h))) env s else .fail
   | _,_=>.fail:=rfl
@[simp] theorem aas {sz:Nat} {x hi mx:IX} {env:Env} {s:St}:aop glob call cx env s (.slc3 sz x hi mx)=Wu glob sz hi mx s (esc glob env x):=by
 simp only [aop,Wu]
 cases esc glob env x with
 | none=>rfl
 | some p=>
  obtain ⟨a,env'⟩:=p
  cases a<;>rfl
@[simp] theorem aci {sz:Nat} {x:IX} {lo hi:Option IX} {env:Env} {s:St}:aop glob call cx env s (.slc sz x lo hi)=Ws glob sz lo hi s (esc glob env x):=by
 simp only [aop,Ws]
 cases esc glob env x with
 | none=>rfl
 | some p=>obtain ⟨a,e⟩:=p;cases a<;>rfl
@[simp] theorem acH {sz:Nat} {lo hi:Option IX} {s:St} {es:List AV} {env:Env}:Ws glob sz lo hi s (some (.sl es,env))=match bound glob env 0 lo,bound glob env es.length hi with
   | some l,some h=>if l≤h∧h≤es.length∧(es.all fun e=>e.cells.length == sz) then .ok (.v (.sl ((es.drop l).take (h - l)))) env s else .fail
   | _,_=>.fail:=rfl
@[simp] theorem acJ {sz:Nat} {lo hi:Option IX} {s:St} {env:Env}:Ws glob sz lo hi s (some (.ns,env))=match bound glob env 0 lo,bound glob env 0 hi with
   | some 0,some 0=>.ok (.v .ns) env s
   | _,_=>.fail:=rfl
end
theorem w64 {n:Int} (h:-9223372036854775808≤n) (h':n≤9223372036854775807):IntKind.i64.wrap n=n:=IntWalk.i64_in n ⟨h,h'⟩
inductive C where
 | mk (kind:Int) (name:List UInt8) (lo hi:Int) (z:Bool) (parts:List C)
namespace C
def kind:C→Int | .mk k _ _ _ _ _=>k
def name:C→List UInt8 | .mk _ n _ _ _ _=>n
def lo:C→Int | .mk _ _ l _ _ _=>l
def hi:C→Int | .mk _ _ _ h _ _=>h
def z:C→Bool | .mk _ _ _ _ z _=>z
def parts:C→List C | .mk _ _ _ _ _ ps=>ps
@[simp] theorem acP (k:Int) (n:List UInt8) (l h:Int) (z:Bool) (ps:List C):(C.mk k n l h z ps).kind=k:=rfl
@[simp] theorem acO (k:Int) (n:List UInt8) (l h:Int) (z:Bool) (ps:List C):(C.mk k n l h z ps).name=n:=rfl
@[simp] theorem adN (k:Int) (n:List UInt8) (l h:Int) (z:Bool) (ps:List C):(C.mk k n l h z ps).lo=l:=rfl
@[simp] theorem adO (k:Int) (n:List UInt8) (l h:Int) (z:Bool) (ps:List C):(C.mk k n l h z ps).hi=h:=rfl
@[simp] theorem adS (k:Int) (n:List UInt8) (l h:Int) (z:Bool) (ps:List C):(C.mk k n l h z ps).z=z:=rfl
@[simp] theorem abk (k:Int) (n:List UInt8) (l h:Int) (z:Bool) (ps:List C):(C.mk k n l h z ps).parts=ps:=rfl
end C
mutual
theorem C.ind {P:C→Prop} (h:∀k n l hi z ps,(∀p∈ps,P p)→P (.mk k n l hi z ps)):∀c,P c
 | .mk k n l hi z ps=>h k n l hi z ps (C.indL h ps)
theorem C.indL {P:C→Prop} (h:∀k n l hi z ps,(∀p∈ps,P p)→P (.mk k n l hi z ps)):∀(ps:List C),∀p∈ps,P p
 | []=>fun p hp=>by cases hp
 | a::r=>fun p hp=>(List.mem_cons.1 hp).elim (fun e=>e ▸ C.ind h a) (fun hp=>C.indL h r p hp)
end
mutual
def IJ:C→AV
 | .mk k n l h z ps=>.ag [.i .i64 k,.s n,.i .i64 l,.i .i64 h,slf z (MC ps)]
def MC:List C→List AV
 | []=>[]
 | a::r=>IJ a::MC r
end
theorem Ph:∀ps:List C,MC ps=ps.map IJ
 | []=>by simp [MC]
 | a::r=>by simp [MC,Ph r]
theorem Ry (c:C):IJ c=.ag [.i .i64 c.kind,.s c.name,.i .i64 c.lo,.i .i64 c.hi,slf c.z (c.parts.map IJ)]:=by
 cases c;simp [IJ,Ph]
@[simp] theorem Y1 (c:C):(IJ c).plain=IJ c:=by rw [Ry];simp
@[simp] theorem Zh (c:C):(IJ c).cells=[.i .i64 c.kind,.s c.name,.i .i64 c.lo,.i .i64 c.hi,slf c.z (c.parts.map IJ)]:=by rw [Ry];rfl
@[simp] theorem ZR (c:C):AV.ag [.i .i64 c.kind,.s c.name,.i .i64 c.lo,.i .i64 c.hi,slf c.z (c.parts.map IJ)]=IJ c:=(Ry c).symm
@[simp] theorem YK (n:Nat):cu n []=true:=by simp [cu]
@[simp] theorem Yq (n:Nat) (a:AV) (r:List AV):cu n (a::r)=(a.under n && cu n r):=by simp [cu]
@[simp] theorem ace (n:Nat) (k:IntKind) (x:Int):(AV.i k x).under n=true:=by simp [AV.under]
@[simp] theorem acf (n:Nat) (x:Bool):(AV.b x).under n=true:=by simp [AV.under]
@[simp] theorem acd (n:Nat) (x:List UInt8):(AV.s x).under n=true:=by simp [AV.under]
@[simp] theorem aae (n:Nat) (x:List AV):(AV.sl x).under n=cu n x:=by simp [AV.under]
@[simp] theorem aak (n:Nat) (x:List AV):(AV.ag x).under n=cu n x:=by simp [AV.under]
@[simp] theorem aac (n:Nat) (x:List AV):(AV.tu x).under n=cu n x:=by simp [AV.under]
@[simp] theorem aai (n:Nat) (x:List AV):(AV.ip x).under n=cu n x:=by simp [AV.under]
@[simp] theorem aad (n l:Nat) (x:List AV):(AV.st l x).under n=(decide (l<n) && cu n x):=by simp [AV.under]
@[simp] theorem aag (n:Nat):AV.ns.under n=true:=by simp [AV.under]
@[simp] theorem aah (n:Nat):AV.nm.under n=true:=by simp [AV.under]
@[simp] theorem aaf (n l o:Nat):(AV.pt l o).under n=decide (l<n):=by simp [AV.under]
@[simp] theorem aaj (n:Nat) (f:Fn) (as cs:List AV):(AV.fn f as cs).under n=(cu n as && cu n cs):=by simp [AV.under]
@[simp] theorem Zu (n:Nat) (z:Bool) (es:List AV):(slf z es).under n=cu n es:=by
 rcases uz z es with h|⟨h,h'⟩
 ·rw [h];simp
 ·rw [h,h'];simp
@[simp] theorem adQ (s:St) (n:Nat) (k:IntKind) (x:Int):frz s n (.i k x)=some (.i k x):=by simp [frz]
@[simp] theorem adR (s:St) (n:Nat) (x:Bool):frz s n (.b x)=some (.b x):=by simp [frz]
@[simp] theorem adP (s:St) (n:Nat) (x:List UInt8):frz s n (.s x)=some (.s x):=by simp [frz]
mutual
theorem Lp (n:Nat):∀c:C,(IJ c).under n=true
 | .mk k nm l h z ps=>by simp [IJ,Cb n ps]
theorem Cb (n:Nat):∀ps:List C,cu n (MC ps)=true
 | []=>by simp [MC]
 | a::r=>by simp [MC,Lp n a,Cb n r]
end
@[simp] theorem YJ (n:Nat) (c:C):(IJ c).under n=true:=Lp n c
@[simp] theorem Yp (n:Nat) (ps:List C):cu n (ps.map IJ)=true:=by rw [←Ph];exact Cb n ps
inductive C.Ok:C→Prop where
 | mk (c:C) (hn:c.name.length≤1152921504606846976) (hps:c.parts.length≤1152921504606846976)
  (hk:-9223372036854775808≤c.kind∧c.kind≤9223372036854775807) (hl:-9223372036854775808≤c.lo∧c.lo≤9223372036854775807) (hh:-9223372036854775808≤c.hi∧c.hi≤9223372036854775807)
  (hp:∀p∈c.parts,C.Ok p):C.Ok c
mutual
def abh:C→Nat
 | .mk _ _ _ _ _ ps=>1+Yw ps
def Yw:List C→Nat
 | []=>0
 | p::r=>abh p+Yw r
end
mutual
def Ze:C→Nat
 | .mk _ _ _ _ _ ps=>XC ps
def XC:List C→Nat
 | []=>0
 | p::r=>max (1+Ze p) (XC r)
end
mutual
def wC:C→Nat
 | .mk _ n _ _ _ ps=>1+n.length / 40+wL ps
def wL:List C→Nat
 | []=>0
 | p::r=>wC p+wL r
end
end Go.Ai
