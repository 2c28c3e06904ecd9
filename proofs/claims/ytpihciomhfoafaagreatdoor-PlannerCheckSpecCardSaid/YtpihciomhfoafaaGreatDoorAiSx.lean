/-
 Rules for running the interpreter on symbolic values.
-/
import Derived.Test.YtpihciomhfoafaaGreatDoorAiB1
set_option maxRecDepth 100000
set_option linter.unusedSimpArgs false
set_option linter.unusedVariables false
set_option linter.unusedSectionVars false
namespace Go.Ai
@[simp] theorem aal {env:Env} {s:St} {f:Env→St→Out}:(Out.norm env s).thn f=f env s:=rfl
@[simp] theorem acg {env:Env} {s:St} {f:Env→St→Out}:(Out.ret env s).thn f=.ret env s:=rfl
@[simp] theorem aao {id:Nat} {env:Env} {s:St} {f:Env→St→Out}:(Out.exit id env s).thn f=.exit id env s:=rfl
@[simp] theorem aan {f:Env→St→Out}:(Out.fail).thn f=.fail:=rfl
@[simp] theorem Y3 {env:Env} {s:St} {k:Out}:(Out.norm env s).orPan k=.norm env s:=rfl
@[simp] theorem Y4 {k:Out}:(Out.fail).orPan k=.fail:=rfl
@[simp] theorem ZQ {v:AV} {s:St} {k:Out}:(Out.pan v s).orPan k=k:=rfl
@[simp] theorem Zv {r:AV} {s:St}:(CO.ret r s).toPan=.pan r s:=rfl
@[simp] theorem YL:(CO.fail).toPan=.fail:=rfl
@[simp] theorem ac1 {id:Nat} {v:AV} {s:St}:(Out.pan v s).blk id=.pan v s:=rfl
@[simp] theorem acR {l:Nat} {v:AV} {s:St} {f:Env→St→Out}:(Out.pan v s).jmp l f=.pan v s:=rfl
@[simp] theorem ach {v:AV} {s:St} {f:Env→St→Out}:(Out.pan v s).thn f=.pan v s:=rfl
@[simp] theorem aam {l:Nat} {env:Env} {s:St} {f:Env→St→Out}:(Out.goto l env s).thn f=.goto l env s:=rfl
@[simp] theorem ab6 {id l:Nat} {env:Env} {s:St}:(Out.goto l env s).blk id=.goto l env s:=rfl
@[simp] theorem abr {l:Nat} {env:Env} {s:St} {f:Env→St→Out}:(Out.norm env s).jmp l f=.norm env s:=rfl
@[simp] theorem acQ {l:Nat} {env:Env} {s:St} {f:Env→St→Out}:(Out.ret env s).jmp l f=.ret env s:=rfl
@[simp] theorem abv {l id:Nat} {env:Env} {s:St} {f:Env→St→Out}:(Out.exit id env s).jmp l f=.exit id env s:=rfl
@[simp] theorem abu {l:Nat} {f:Env→St→Out}:(Out.fail).jmp l f=.fail:=rfl
@[simp] theorem abt {l l':Nat} {env:Env} {s:St} {f:Env→St→Out}:(Out.goto l' env s).jmp l f=if l'=l then f env s else .fail:=rfl
@[simp] theorem ab5 {id:Nat} {env:Env} {s:St}:(Out.norm env s).blk id=.norm env s:=rfl
@[simp] theorem ac0 {id:Nat} {env:Env} {s:St}:(Out.ret env s).blk id=.ret env s:=rfl
@[simp] theorem ab8 {id id':Nat} {env:Env} {s:St}:(Out.exit id' env s).blk id=if id'=id then .norm env s else .exit id' env s:=rfl
@[simp] theorem ab7 {id:Nat}:(Out.fail).blk id=.fail:=rfl
def RO.fin (o:RO) (dst:Option Nat):Out:=
 match o with
 | .fail=>.fail
 | .pan v s=>.pan v s
 | .ok e env s=>match dst with
  | some d=>if e.refers d=true then .fail else .norm (put env d e) s
  | none=>.norm env s
@[simp] theorem acW {e:EV} {env:Env} {s:St} {d:Nat}:(RO.ok e env s).fin (some d)=if e.refers d=true then .fail else .norm (put env d e) s:=rfl
@[simp] theorem adI {e:EV} {env:Env} {s:St}:(RO.ok e env s).fin none=.norm env s:=rfl
@[simp] theorem acV {v:AV} {s:St} {d:Option Nat}:(RO.pan v s).fin d=.pan v s:=rfl
@[simp] theorem abA {d:Option Nat}:(RO.fail).fin d=.fail:=rfl
def Lu (dst:Option Nat) (env:Env) (s:St):Out:=
 match dst with
 | some d=>.norm (put env d (.v (.tu []))) s
 | none=>.norm env s
@[simp] theorem YU {d:Nat} {env:Env} {s:St}:Lu (some d) env s=.norm (put env d (.v (.tu []))) s:=rfl
@[simp] theorem YV {env:Env} {s:St}:Lu none env s=.norm env s:=rfl
def Yz (ks:List Nat) (env:Env) (s:St):Out:=.norm (ig env ks) s
@[simp] theorem abp {ks:List Nat} {env:Env} {s:St}:Yz ks env s=.norm (ig env ks) s:=rfl
section
variable (glob:Nat→Option (List AV)) (call:AV→List AV→St→Ctx→CO) (cx:Ctx)
def opT (dst:Option Nat) (op:AOp) (env:Env) (s:St):Out:=(aop glob call cx env s op).fin dst
def opF (dst:Option Nat) (env:Env) (s:St):Out:=Lu dst env s
def gdD (x:Option EV) (w:Bool) (dst:Option Nat) (op:AOp) (env:Env) (s:St):Out:=
 match x with
 | some (.v (.b x))=>if x=true then (match w with|true=>opT glob call cx dst op env s|false=>opF dst env s) else (match w with|true=>opF dst env s|false=>opT glob call cx dst op env s)
 | some (.v (.tu []))=>Lu dst env s
 | _=>.fail
noncomputable def cdT (ro:Bool) (a:ah) (env:Env) (s:St):Out:=aA glob call cx ro a env s
noncomputable def Tz (ro:Bool) (x:Option AV) (a b:ah) (env:Env) (s:St):Out:=
 match x with
 | some (.b x)=>if x=true then cdT glob call cx ro a env s else cdT glob call cx ro b env s
 | _=>.fail
end
section
variable {glob:Nat→Option (List AV)} {call:AV→List AV→St→Ctx→CO} {cx:Ctx} {ro:Bool}
theorem jT {dst:Option Nat} {op:AOp} {env:Env} {s:St}:opT glob call cx dst op env s=(aop glob call cx env s op).fin dst:=rfl
theorem jU {dst:Option Nat} {env:Env} {s:St}:opF dst env s=Lu dst env s:=rfl
theorem kz {a:ah} {env:Env} {s:St}:cdT glob call cx ro a env s=aA glob call cx ro a env s:=rfl
@[simp] theorem adz {x:Bool} {dst:Option Nat} {op:AOp} {env:Env} {s:St}:
  gdD glob call cx (some (.v (.b x))) true dst op env s=if x=true then opT glob call cx dst op env s else opF dst env s:=rfl
@[simp] theorem adA {x:Bool} {dst:Option Nat} {op:AOp} {env:Env} {s:St}:
  gdD glob call cx (some (.v (.b x))) false dst op env s=if x=true then opF dst env s else opT glob call cx dst op env s:=rfl
@[simp high] theorem adx {dst:Option Nat} {op:AOp} {env:Env} {s:St}:gdD glob call cx (some (.v (.b true))) true dst op env s=(aop glob call cx env s op).fin dst:=rfl
@[simp high] theorem adE {dst:Option Nat} {op:AOp} {env:Env} {s:St}:gdD glob call cx (some (.v (.b false))) false dst op env s=(aop glob call cx env s op).fin dst:=rfl
@[simp high] theorem ady {dst:Option Nat} {op:AOp} {env:Env} {s:St}:gdD glob call cx (some (.v (.b true))) false dst op env s=Lu dst env s:=rfl
@[simp high] theorem adD {dst:Option Nat} {op:AOp} {env:Env} {s:St}:gdD glob call cx (some (.v (.b false))) true dst op env s=Lu dst env s:=rfl
@[simp] theorem adw {w:Bool} {dst:Option Nat} {op:AOp} {env:Env} {s:St}:gdD glob call cx (some (.v (.tu []))) w dst op env s=Lu dst env s:=rfl
@[simp high] theorem adB {x:Bool} {dst:Option Nat} {op:AOp} {env:Env} {s:St}:
  gdD glob call cx (some (.v (.b (!x)))) true dst op env s=gdD glob call cx (some (.v (.b x))) false dst op env s:=by cases x<;>rfl
@[simp high] theorem adC {x:Bool} {dst:Option Nat} {op:AOp} {env:Env} {s:St}:
  gdD glob call cx (some (.v (.b (!x)))) false dst op env s=gdD glob call cx (some (.v (.b x))) true dst op env s:=by cases x<;>rfl
@[simp high] theorem abN {x:Bool} {a b:ah} {env:Env} {s:St}:
  Tz glob call cx ro (some (.b (!x))) a b env s=Tz glob call cx ro (some (.b x)) b a env s:=by cases x<;>rfl
@[simp] theorem Z7 {x:Bool} {a b:ah} {env:Env} {s:St}:
  Tz glob call cx ro (some (.b x)) a b env s=if x=true then cdT glob call cx ro a env s else cdT glob call cx ro b env s:=rfl
@[simp high] theorem Z5 {a b:ah} {env:Env} {s:St}:Tz glob call cx ro (some (.b true)) a b env s=aA glob call cx ro a env s:=rfl
@[simp high] theorem Zf {a b:ah} {env:Env} {s:St}:Tz glob call cx ro (some (.b false)) a b env s=aA glob call cx ro b env s:=rfl
@[simp] theorem TY {dst:Option Nat} {op:AOp} {env:Env} {s:St}:
  bD glob call cx ⟨dst,none,op⟩ env s=(aop glob call cx env s op).fin dst:=by
 simp only [bD,aZ]
 cases aop glob call cx env s op<;>rfl
@[simp] theorem TW {dst:Option Nat} {op:AOp} {k:Nat} {w:Bool} {env:Env} {s:St}:
  bD glob call cx ⟨dst,some (k,w),op⟩ env s=gdD glob call cx (lk env k) w dst op env s:=by
 simp only [bD,aZ]
 cases h:lk env k with
 | none=>rfl
 | some e=>
  cases e with
  | v a=>
   cases a with
   | b x=>
    cases x<;>cases w<;>first|rfl | (simp only [gdD,opT];cases aop glob call cx env s op<;>rfl)
   | tu cs=>cases cs<;>rfl
   | _=>rfl
  | _=>rfl
@[simp] theorem YW {env:Env} {s:St}:gq glob call cx [] env s=.norm env s:=rfl
@[simp] theorem Yx {o:ak} {r:List ak} {env:Env} {s:St}:gq glob call cx (o::r) env s=(bD glob call cx o env s).thn (gq glob call cx r):=by
 simp only [gq];cases bD glob call cx o env s<;>rfl
@[simp] theorem YC {env:Env} {s:St}:aA glob call cx ro .skip env s=.norm env s:=by simp [aA]
@[simp] theorem Zp {env:Env} {s:St}:aA glob call cx ro .ret env s=.ret env s:=by simp [aA]
@[simp] theorem YF {id:Nat} {env:Env} {s:St}:aA glob call cx ro (.exit id) env s=.exit id env s:=by simp [aA]
@[simp] theorem XT {ops:List ak} {ord:Option (List Nat×List Nat)} {keep:List Nat} {env:Env} {s:St}:
  aA glob call cx ro (.region ops ord keep) env s=(kP glob call cx ops env s ord).thn (Yz keep):=by simp only [aA]<;>rfl
@[simp] theorem Zo {a b:ah} {env:Env} {s:St}:aA glob call cx ro (.seq a b) env s=(aA glob call cx ro a env s).thn (aA glob call cx ro b):=by simp only [aA]
@[simp] theorem YG {c:IX} {a b:ah} {env:Env} {s:St}:aA glob call cx ro (.cond c a b) env s=Tz glob call cx ro (rd glob env c) a b env s:=by
 first | (simp only [aA,XD,Tz,cdT];done) | (simp only [aA,XD,Tz,cdT];rcases h:rd glob env c with _|a<;>first|rfl | (cases a<;>rfl))
@[simp] theorem Yo {id:Nat} {b:ah} {env:Env} {s:St}:aA glob call cx ro (.block id b) env s=(aA glob call cx ro b env s).blk id:=by simp only [aA]
@[simp] theorem YD {keep:List Nat} {b:ah} {env:Env} {s:St}:aA glob call cx ro (.loop keep b) env s=zC (aA glob call cx ro b) keep env s:=by simp only [aA]
@[simp] theorem Ym {f:IX} {ps:List Nat} {asg body:ah} {env:Env} {s:St}:aA glob call cx false (.range f ps asg body) env s=Rk (rd glob env f) call cx ps asg body env s:=by simp [aA]
@[simp] theorem Yn {l:Nat} {env:Env} {s:St}:aA glob call cx ro (.label l) env s=.norm env s:=by simp only [aA]
@[simp] theorem YE {l:Nat} {env:Env} {s:St}:aA glob call cx ro (.goto l) env s=.goto l env s:=by simp only [aA]
@[simp] theorem Yl {l:Nat} {keep:List Nat} {a b:ah} {env:Env} {s:St}:aA glob call cx ro (.scope l keep a b) env s=(aA glob call cx ro a env s).jmp l (J9 (aA glob call cx ro b) l keep):=by simp only [aA]
@[simp] theorem ack {x:IX} {env:Env} {s:St}:aop glob call cx env s (.mov x)=match ev glob env x,x with
  | some (.om es),.t k=>.ok (.v (.im es)) ((k,.v (.im es))::(k,.v .u)::jL env k) s
  | _,_=>match Jl glob env x with
   | some e=>.ok e env s
   | none=>.fail:=rfl
@[simp] theorem acC {x:IX} {env:Env} {s:St}:aop glob call cx env s (.asg x)=match ev glob env x,x with
  | some (.own tip t sz es),.t k=>.ok (.own tip t sz es) ((k,.v .u)::jL env k) s
  | _,_=>match FH glob env x with
   | some (a,env)=>.ok (.v a) env s
   | none=>match Jl glob env x with
    | some e=>.ok e env s
    | none=>.fail:=rfl
@[simp] theorem acv {x:IX} {env:Env} {s:St}:aop glob call cx env s (.cpy x)=match esc glob env x with
  | some (a,env)=>.ok (.v a) env s
  | none=>.fail:=rfl
@[simp] theorem aav {t:Nat} {sz:Nat} {env:Env} {s:St}:aop glob call cx env s (.nbuf t sz)=if 0<sz then .ok (.own false t sz []) env s else .fail:=rfl
@[simp] theorem aau {c:IX} {a:IX} {b:IX} {env:Env} {s:St}:aop glob call cx env s (.pick c a b)=match rd glob env c with
  | some (.b x)=>okv env s (rd glob env (if x then a else b))
  | _=>.fail:=rfl
@[simp] theorem aaH {x:IX} {env:Env} {s:St}:aop glob call cx env s (.lbox x)=match esc glob env x with
  | some (a,env)=>if a.cells.all AV.one then .ok (.bx a.cells) env s else .fail
  | none=>.fail:=rfl
@[simp] theorem YQ {zs:List AV} {env:Env} {s:St}:aop glob call cx env s (.lalloc zs)=.ok (.bx zs) env s:=rfl
@[simp] theorem aaO {x:IX} {env:Env} {s:St}:aop glob call cx env s (.hbox x)=match esc glob env x with
  | some (a,env)=>if a.cells.all AV.one then .ok (.v (.pt s.length 0)) env (s++[.cells a.cells]) else .fail
  | none=>.fail:=rfl
@[simp] theorem YR {zs:List AV} {env:Env} {s:St}:aop glob call cx env s (.halloc zs)=.ok (.v (.pt s.length 0)) env (s++[.cells zs]):=rfl
@[simp] theorem aaC {n:Option Nat} {a:IX} {env:Env} {s:St}:aop glob call cx env s (.load n a)=okv env s (dQ glob env s n a):=rfl
@[simp] theorem ZF {d:Nat} {n:Option Nat} {a:IX} {env:Env} {s:St}:aop glob call cx env s (.loadp d n a)=match lk env d,ev glob env a with
  | none,some (.v _)=>okv env s (dQ glob env s n a)
  | _,_=>.fail:=rfl
@[simp] theorem Zx {n:Nat} {a:IX} {x:IX} {env:Env} {s:St}:aop glob call cx env s (.store n a x)=match FH glob env x with
  | some (v,env)=>match lS glob cx env s n a v with
   | some (env,s)=>.ok (.v (.tu [])) env s
   | none=>.fail
  | none=>.fail:=rfl
@[simp] theorem acs {off:Nat} {a:IX} {env:Env} {s:St}:aop glob call cx env s (.fld off a)=match addr glob env off a with
  | some e=>.ok e env s
  | none=>.fail:=rfl
@[simp] theorem aaK {len:Nat} {sz:Nat} {x:IX} {i:IX} {env:Env} {s:St}:aop glob call cx env s (.idxa len sz x i)=match rd glob env i with
  | some (.i _ n)=>if 0≤n∧n.toNat<len then
    (match addr glob env (n.toNat * sz) x with
     | some e=>.ok e env s
     | none=>.fail) else .fail
  | _=>.fail:=rfl
@[simp] theorem aaP {off:Nat} {n:Option Nat} {x:IX} {env:Env} {s:St}:aop glob call cx env s (.getf off n x)=match rd glob env x with
  | some (.ag cs)=>okv env s (part cs off n)
  | _=>.fail:=rfl
@[simp] theorem aaI {len:Nat} {sz:Nat} {n:Option Nat} {x:IX} {i:IX} {env:Env} {s:St}:aop glob call cx env s (.idxv len sz n x i)=match rd glob env x,rd glob env i with
  | some (.ag cs),some (.i _ j)=>if 0≤j∧j.toNat<len then okv env s (part cs (j.toNat * sz) n) else .fail
  | _,_=>.fail:=rfl
@[simp] theorem aaJ {x:IX} {i:IX} {env:Env} {s:St}:aop glob call cx env s (.idxs x i)=match rd glob env x,rd glob env i with
  | some (.s l),some (.i _ j)=>match l[j.toNat]? with
   | some c=>if 0≤j then .ok (.v (.i .u8 c.toNat)) env s else .fail
   | none=>.fail
  | _,_=>.fail:=rfl
@[simp] theorem acz {op:BinOp} {x:IX} {y:IX} {env:Env} {s:St}:aop glob call cx env s (.bin op x y)=match rd glob env x,rd glob env y with
  | some a,some b=>okv env s (U1 op a b)
  | _,_=>.fail:=rfl
@[simp] theorem acA {neg:Bool} {x:IX} {y:IX} {env:Env} {s:St}:aop glob call cx env s (.beq neg x y)=match rd glob env x,rd glob env y with
  | some (.b a),some (.b b)=>.ok (.v (.b (if neg then !(a == b) else a == b))) env s
  | _,_=>.fail:=rfl
@[simp] theorem acp {neg:Bool} {ks:List Nat} {x:IX} {y:IX} {env:Env} {s:St}:aop glob call cx env s (.ieq neg ks x y)=match rd glob env x,rd glob env y with
  | some (.ag a),some (.ag b)=>match nO ks a b with
   | some r=>.ok (.v (.b (if neg then !r else r))) env s
   | none=>.fail
  | _,_=>.fail:=rfl
@[simp] theorem Zz {neg:Bool} {k:Nat} {x:IX} {env:Env} {s:St}:aop glob call cx env s (.nileq neg k x)=match rd glob env x with
  | some a=>match SH k a with
   | some n=>.ok (.v (.b (if neg then !n else n))) env s
   | none=>.fail
  | none=>.fail:=rfl
@[simp] theorem ac2 {op:UnOp} {x:IX} {env:Env} {s:St}:aop glob call cx env s (.un op x)=match rd glob env x with
  | some a=>okv env s (XV op a)
  | _=>.fail:=rfl
@[simp] theorem Zw {k:IntKind} {x:IX} {env:Env} {s:St}:aop glob call cx env s (.toInt k x)=match rd glob env x with
  | some (.i _ n)=>.ok (.v (.i k (k.wrap n))) env s
  | _=>.fail:=rfl
@[simp] theorem acj {x:IX} {env:Env} {s:St}:aop glob call cx env s (.s2b x)=match rd glob env x with
  | some (.s l)=>.ok (.v (.sl (iD l))) env s
  | _=>.fail:=rfl
@[simp] theorem acB {x:IX} {env:Env} {s:St}:aop glob call cx env s (.b2s x)=match elems glob env x with
  | some es=>okv env s ((es.mapM byteOf).map .s)
  | none=>.fail:=rfl
@[simp] theorem aat {x:IX} {env:Env} {s:St}:aop glob call cx env s (.same x)=match rd glob env x with
  | some (.s l)=>.ok (.v (.s l)) env s
  | _=>.fail:=rfl
@[simp] theorem ZB {x:IX} {env:Env} {s:St}:aop glob call cx env s (.markk x)=match x with
  | .t k=>match lk env k with
   | some (.own _ t sz es)=>if 0<es.length then .ok (.al k) ((k,.own true t sz es)::env) s else .fail
   | _=>.fail
  | _=>.fail:=rfl
@[simp] theorem aaA {x:IX} {env:Env} {s:St}:aop glob call cx env s (.mark x)=match x with
  | .t k=>match lk env k with
   | some (.own _ _ _ es)=>if 0<es.length then .ok (.v (.sl es)) ((k,.v .u)::jL env k) s else .fail
   | _=>.fail
  | _=>.fail:=rfl
@[simp] theorem ZJ {zs:List AV} {ps:List (Nat×Nat×IX)} {env:Env} {s:St}:aop glob call cx env s (.build zs ps)=match wF glob env (ps.map (·.2.2)) with
  | some (vs,env)=>
   if (ps.zip vs).all (fun p=>p.2.cells.length == p.1.2.1 && p.2.cells.all AV.one) then
    okv env s ((xB zs ((ps.zip vs).map fun p=>(p.1.1,p.2.cells))).map .ag) else .fail
  | none=>.fail:=rfl
@[simp] theorem acw {own:Bool} {t:Nat} {sz:Nat} {len:Nat} {zs:List AV} {ps:List (Nat×IX)} {env:Env} {s:St}:aop glob call cx env s (.bsl own t sz len zs ps)=match wF glob env (ps.map (·.2)) with
  | some (vs,env)=>
   if len * sz≤16777216∧ps.map (·.1)=List.range len∧vs.all (fun v=>v.cells.length == sz && v.cells.all AV.one)∧zs.length=sz then
    (if own then (if 0<sz then .ok (.own false t sz vs) env s else .fail) else .ok (.v (.sl vs)) env s) else .fail
  | none=>.fail:=rfl
@[simp] theorem acD {t:Nat} {sz:Nat} {x:IX} {y:IX} {env:Env} {s:St}:aop glob call cx env s (.app t sz x y)=match elems glob env y,gZ env x with
  | some ys,some k=>match lk env k with
   | some (.own tip t' sz' es)=>
    if t=t'∧sz=sz'∧(ys.all fun e=>e.cells.length == sz)∧es.length+ys.length≤dK∧gZ env y≠some k then
     .ok (.own tip t sz (es++ys)) ((k,.v .u)::jL env k) s else .fail
   | _=>.fail
  | some ys,none=>match rd glob env x with
   | some .ns=>if 0<sz∧(ys.all fun e=>e.cells.length == sz)∧ys.length≤dK then .ok (.own false t sz ys) env s else .fail
   | _=>.fail
  | _,_=>.fail:=rfl
@[simp] theorem aaW {t:Nat} {x:IX} {y:IX} {env:Env} {s:St}:aop glob call cx env s (.apps t x y)=match rd glob env y,gZ env x with
  | some (.s l),some k=>match lk env k with
   | some (.own tip t' sz' es)=>if t=t'∧sz'=1∧es.length+l.length≤dK then .ok (.own tip t 1 (es++iD l)) ((k,.v .u)::jL env k) s else .fail
   | _=>.fail
  | _,_=>.fail:=rfl
@[simp] theorem aaX {t:Nat} {sz:Nat} {x:IX} {y:IX} {env:Env} {s:St}:aop glob call cx env s (.appr t sz x y)=match elems glob env y,ev glob env x with
  | some ys,some (.v .ns)=>
   if 0<sz∧0<ys.length∧(ys.all fun e=>e.cells.length == sz)∧ys.length≤dK then .ok (.v (.st s.length ys)) env (s++[.row t sz ys.length]) else .fail
  | some ys,some (.v .se)=>
   if 0<sz∧0<ys.length∧(ys.all fun e=>e.cells.length == sz)∧ys.length≤dK then .ok (.v (.st s.length ys)) env (s++[.row t sz ys.length]) else .fail
  | some ys,some (.v (.st l es))=>match s[l]? with
   | some (.row t' sz' k)=>
    if t=t'∧sz=sz'∧k=es.length∧0<sz∧0<ys.length∧(ys.all fun e=>e.cells.length == sz)∧(es.all fun e=>e.cells.length == sz)∧es.length+ys.length≤dK∧cx.lim≤l then
     .ok (.v (.st l (es++ys))) env (s.set l (.row t sz (es.length+ys.length))) else .fail
   | _=>.fail
  | _,_=>.fail:=rfl
@[simp] theorem ZK {d:Nat} {t:Nat} {sz:Nat} {x:IX} {y:IX} {env:Env} {s:St}:aop glob call cx env s (.apprp d t sz x y)=match lk env d with
  | some _=>.fail
  | none=>match elems glob env y,ev glob env x with
   | some ys,some (.v .ns)=>
    if 0<sz∧0<ys.length∧(ys.all fun e=>e.cells.length == sz)∧ys.length≤dK then .ok (.v (.st s.length ys)) env (s++[.row t sz ys.length]) else if ys.length=0 then .ok (.v .ns) env s else .fail
   | some ys,some (.v .se)=>
    if 0<sz∧0<ys.length∧(ys.all fun e=>e.cells.length == sz)∧ys.length≤dK then .ok (.v (.st s.length ys)) env (s++[.row t sz ys.length]) else if ys.length=0 then .ok (.v .se) env s else .fail
   | some ys,some (.v (.st l es))=>match s[l]? with
    | some (.row t' sz' k)=>
     if t=t'∧sz=sz'∧k=es.length∧0<sz∧0<ys.length∧(ys.all fun e=>e.cells.length == sz)∧(es.all fun e=>e.cells.length == sz)∧es.length+ys.length≤dK∧cx.lim≤l then
      .ok (.v (.st l (es++ys))) env (s.set l (.row t sz (es.length+ys.length))) else if ys.length=0 then .ok (.v (.st l es)) env s else .fail
    | _=>.fail
   | _,_=>.fail:=rfl
@[simp] theorem aaY {t:Nat} {sz:Nat} {x:IX} {y:IX} {env:Env} {s:St}:aop glob call cx env s (.appk t sz x y)=match elems glob env y,ev glob env x with
  | some ys,some (.v .ns)=>
   if 0<sz∧0<ys.length∧(ys.all fun e=>e.cells.length == sz)∧ys.length≤dK then .ok (.v (.sk s.length 0 sz 0 ys.length)) env (s++[.buf t sz 0 (ys.flatMap AV.cells)]) else .fail
  | some ys,some (.v .se)=>
   if 0<sz∧0<ys.length∧(ys.all fun e=>e.cells.length == sz)∧ys.length≤dK then .ok (.v (.sk s.length 0 sz 0 ys.length)) env (s++[.buf t sz 0 (ys.flatMap AV.cells)]) else .fail
  | some ys,some (.v (.sk l ver sz2 o m))=>match s[l]? with
   | some (.buf t' sz' ver' cs)=>
    if t=t'∧sz=sz'∧sz2=sz∧ver=ver'∧0<ys.length∧(ys.all fun e=>e.cells.length == sz)∧m+ys.length≤dK∧o+m * sz≤cs.length∧cx.lim≤l∧(cx.base≤l∨(ys.flatMap AV.cells).all AV.flat=true) then
     .ok (.v (.sk l (ver+1) sz 0 (m+ys.length))) env (s.set l (.buf t sz (ver+1) ((cs.drop o).take (m * sz)++ys.flatMap AV.cells))) else .fail
   | _=>.fail
  | _,_=>.fail:=rfl
@[simp] theorem aaU {t:Nat} {sz:Nat} {zs:List AV} {x:IX} {y:IX} {env:Env} {s:St}:aop glob call cx env s (.appz t sz zs x y)=match ev glob env x,rd glob env y with
  | some (.v .ns),some (.i .i64 n)=>if 0<sz∧zs.length=sz∧0<n∧n.toNat≤16777216 then .ok (.v (.sk s.length 0 sz 0 n.toNat)) env (s++[.buf t sz 0 (List.replicate n.toNat zs).flatten]) else .fail
  | _,_=>.fail:=rfl
@[simp] theorem aaR {x:IX} {env:Env} {s:St}:aop glob call cx env s (.capn x)=match ev glob env x with
  | some (.v .ns)=>.ok (.v (.i .i64 0)) env s
  | _=>.fail:=rfl
@[simp] theorem aaZ {t:Nat} {sz:Nat} {x:IX} {y:IX} {env:Env} {s:St}:aop glob call cx env s (.appe t sz x y)=match elems glob env y with
  | some []=>(match ev glob env x with
   | some (.v .ns)=>.ok (.v .ns) env s
   | some (.v (.sk l ver sz2 o m))=>.ok (.v (.sk l ver sz2 o m)) env s
   | _=>.fail)
  | _=>aop glob call cx env s (.appk t sz x y):=rfl
@[simp] theorem acn {t:Nat} {sz:Nat} {zs:List AV} {x:IX} {env:Env} {s:St}:aop glob call cx env s (.mks t sz zs x)=match rd glob env x with
  | some (.i _ n)=>if 0<sz∧zs.length=sz∧0≤n∧n.toNat≤16777216 then .ok (.v (.sk s.length 0 sz 0 n.toNat)) env (s++[.buf t sz 0 (List.replicate n.toNat zs).flatten]) else .fail
  | _=>.fail:=rfl
@[simp] theorem aaT {t:Nat} {sz:Nat} {x:IX} {env:Env} {s:St}:aop glob call cx env s (.asgk t sz x)=match ev glob env x,x with
  | some (.own false t' sz' es),.t k=>if t=t'∧sz=sz'∧0<es.length then .ok (.v (.sk s.length 0 sz 0 es.length)) ((k,.v .u)::jL env k) (s++[.buf t sz 0 (es.flatMap AV.cells)]) else .fail
  | _,_=>.fail:=rfl
@[simp] theorem aaQ {zs:List AV} {x:IX} {env:Env} {s:St}:aop glob call cx env s (.clrk zs x)=match rd glob env x with
  | some (.sk l ver sz o m)=>(match m,s[l]? with
   | 0,_=>.ok (.v (.tu [])) env s
   | n+1,some (.buf t sz' ver' cs)=>if ver=ver'∧sz=sz'∧0<sz∧zs.length=sz∧o+(n+1) * sz≤cs.length∧cx.lim≤l∧cx.base≤l then
     .ok (.v (.tu [])) env (s.set l (.buf t sz ver (splice cs o (List.replicate (n+1) zs).flatten))) else .fail
   | _,_=>.fail)
  | _=>.fail:=rfl
@[simp] theorem ZC {n:Option Nat} {a:IX} {bs:List Nat} {env:Env} {s:St}:aop glob call cx env s (.loadw n a bs)=match ev glob env a with
  | some (.v (.pt l _))=>if Pv env l bs=true then okv env s (dQ glob env s n a) else .fail
  | _=>.fail:=rfl
@[simp] theorem ZE {a:IX} {k off:Nat} {env:Env} {s:St}:aop glob call cx env s (.loadv a k off)=match ev glob env a,lk env k with
  | some (.v (.pt l o)),some (.v (.pt l' o'))=>if l=l'∧o=o'+off then (match Ui s l o with|some m=>.ok (.v (.mp m)) env s|none=>.fail) else .fail
  | _,_=>.fail:=rfl
@[simp] theorem ZI {d:Nat} {f:IX} {args:List IX} {k:Option (Nat×Nat)} {env:Env} {s:St}:aop glob call cx env s (.callh d f args k)=match lk env d with
  | some _=>.fail
  | none=>match rd glob env f,rds glob env args with
   | some fv,some as=>match call fv as s cx with
    | .ret r s1=>if Bl env s s1 k=true then .ok (.v r) env s1 else .fail
    | .pan v s=>.pan v s
    | .fail=>.fail
   | _,_=>.fail:=rfl
@[simp] theorem ZL {t:Nat} {x:IX} {y:IX} {env:Env} {s:St}:aop glob call cx env s (.appks t x y)=match rd glob env y,ev glob env x with
  | some (.s b),some (.v .ns)=>if 0<b.length∧b.length≤dK then .ok (.v (.sk s.length 0 1 0 b.length)) env (s++[.buf t 1 0 (iD b)]) else .fail
  | some (.s b),some (.v (.sk l ver sz2 o m))=>(match s[l]? with
   | some (.buf t' sz' ver' cs)=>if t=t'∧sz'=1∧sz2=1∧ver=ver'∧0<b.length∧m+b.length≤dK∧o+m≤cs.length∧cx.lim≤l then
     .ok (.v (.sk l (ver+1) 1 0 (m+b.length))) env (s.set l (.buf t 1 (ver+1) ((cs.drop o).take m++iD b))) else .fail
   | _=>.fail)
  | _,_=>.fail:=rfl
@[simp] theorem aaV {t:Nat} {sz:Nat} {x:IX} {y:IX} {env:Env} {s:St}:aop glob call cx env s (.appv t sz x y)=match EI glob env s sz y,ev glob env x with
  | some (0,_),some (.v .se)=>.ok (.v .se) env s
  | some (m+1,cs),some (.v .se)=>if 0<sz∧m+1≤dK then .ok (.v (.sk s.length 0 sz 0 (m+1))) env (s++[.buf t sz 0 cs]) else .fail
  | _,_=>.fail:=rfl
@[simp] theorem Yt {d:Nat} {zs:List AV} {env:Env} {s:St}:aop glob call cx env s (.lallocp d zs)=match lk env d with
  | some _=>.fail
  | none=>.ok (.bx zs) env s:=rfl
@[simp] theorem YM {n:Nat} {a:IX} {x:IX} {env:Env} {s:St}:aop glob call cx env s (.storep n a x)=match ev glob env a,ev glob env x with
  | some (.v av),some (.v xv)=>match lS glob cx env s n a xv with
   | some (_,s)=>.ok (.v (.tu [])) env s
   | none=>.fail
  | _,_=>.fail:=rfl
@[simp] theorem ZG {n:Option Nat} {a:IX} {env:Env} {s:St}:aop glob call cx env s (.loadl n a)=match ev glob env a with
  | some (.bx _)=>okv env s (dQ glob env s n a)
  | some (.lp _ _)=>okv env s (dQ glob env s n a)
  | some (.v (.ip _))=>okv env s (dQ glob env s n a)
  | _=>.fail:=rfl
@[simp] theorem YN {n k:Nat} {x:IX} {env:Env} {s:St}:aop glob call cx env s (.storel n k x)=match lk env k,ev glob env x with
  | some (.bx cs),some (.v xv)=>if xv.cells.length=n∧n≠0∧xv.cells.all AV.one=true∧n≤cs.length then .ok (.v (.tu [])) ((k,.bx (splice cs 0 xv.cells))::env) s else .fail
  | _,_=>.fail:=rfl
@[simp] theorem aap {d:Nat} {env:Env} {s:St}:aop glob call cx env s (.umap d)=match lk env d with
  | some _=>.fail
  | none=>.ok (.v (.mp s.length)) env (s++[.umap []]):=rfl
@[simp] theorem aaq {m:IX} {k:IX} {v:IX} {env:Env} {s:St}:aop glob call cx env s (.uins m k v)=match ev glob env m,ev glob env k,ev glob env v with
  | some (.v (.mp l)),some (.v (.s key)),some (.v val)=>match s[l]? with
   | some (.umap es)=>if val.one∧val.flat=true∧cx.lim≤l then .ok (.v (.tu [])) env (s.set l (.umap (YI key val es))) else .fail
   | _=>.fail
  | _,_,_=>.fail:=rfl
@[simp] theorem acy  {env:Env} {s:St}:aop glob call cx env s (.bse )=.ok (.v .se) env s:=rfl
@[simp] theorem aaG {x:IX} {env:Env} {s:St}:aop glob call cx env s (.len 0 x)=match elems glob env x with
  | some es=>.ok (.v (.i .i64 es.length)) env s
  | none=>match rd glob env x with
   | some (.sk _ _ _ _ m)=>.ok (.v (.i .i64 m)) env s
   | _=>.fail:=rfl
@[simp] theorem aaF {x:IX} {env:Env} {s:St}:aop glob call cx env s (.len 1 x)=match rd glob env x with
  | some (.s l)=>.ok (.v (.i .i64 l.length)) env s
  | _=>.fail:=rfl
@[simp] theorem aaE {x:IX} {env:Env} {s:St}:aop glob call cx env s (.len 2 x)=match rd glob env x with
  | some (.im es)=>.ok (.v (.i .i64 es.length)) env s
  | some (.mp l)=>match s[l]? with
   | some (.map es)=>.ok (.v (.i .i64 es.length)) env s
   | some (.mapo es)=>.ok (.v (.i .i64 es.length)) env s
   | _=>.fail
  | some .nm=>.ok (.v (.i .i64 0)) env s
  | _=>.fail:=rfl
@[simp] theorem aaD {n:Nat} {env:Env} {s:St}:aop glob call cx env s (.lenA n)=.ok (.v (.i .i64 n)) env s:=rfl
@[simp] theorem YP {isMin:Bool} {x:IX} {y:IX} {env:Env} {s:St}:aop glob call cx env s (.minmax isMin x y)=match rd glob env x,rd glob env y with
  | some (.i k a),some (.i k' b)=>if k=k' then .ok (.v (.i k (if isMin then (if b<a then b else a) else (if b > a then b else a)))) env s else .fail
  | _,_=>.fail:=rfl
@[simp] theorem aar {x:IX} {lo:Option IX} {hi:Option IX} {env:Env} {s:St}:aop glob call cx env s (.slcs x lo hi)=match rd glob env x with
  | some (.s cs)=>match bound glob env 0 lo,bound glob env cs.length hi with
   | some l,some h=>if l≤h∧h≤cs.length then .ok (.v (.s ((cs.drop l).take (h - l)))) env s else .fail
   | _,_=>.fail
  | _=>.fail:=rfl
@[simp] theorem acu {x:IX} {i:Nat} {env:Env} {s:St}:aop glob call cx env s (.ext x i)=match rd glob env x with
  | some (.tu cs)=>okv env s (cs[i]?)
  | _=>.fail:=rfl
@[simp] theorem aay {f:Fn} {as:List IX} {cs:List IX} {env:Env} {s:St}:aop glob call cx env s (.mkfn f as cs)=match wF glob env as with
  | some (vs,env)=>match wF glob env cs with
   | some (ws,env)=>.ok (.v (.fn f vs ws)) env s
   | none=>.fail
  | none=>.fail:=rfl
@[simp] theorem aax {t:Nat} {x:IX} {env:Env} {s:St}:aop glob call cx env s (.mkif t x)=match esc glob env x with
  | some (a,env)=>.ok (.v (.ifc t a)) env s
  | none=>.fail:=rfl
@[simp] theorem aaB {kk:Nat} {z:AV} {ok:Bool} {m:IX} {k:IX} {env:Env} {s:St}:aop glob call cx env s (.look kk z ok m k)=match rd glob env k with
  | some key=>if 3≤kk∧qj kk key=false then .fail else match (match rd glob env m with
    | some (.im es)=>find kk key es
    | some .nm=>if qj kk key then some none else none
    | some (.mp l)=>match s[l]? with
     | some (.map es)=>find kk key es
     | some (.mapo es)=>find kk key es
     | _=>none
    | _=>none) with
   | some r=>if ok then .ok (.v (.tu [r.getD z,.b r.isSome])) env s else .ok (.v (r.getD z)) env s
   | none=>.fail
  | none=>.fail:=rfl
@[simp] theorem ZA  {env:Env} {s:St}:aop glob call cx env s (.mkmap )=.ok (.om []) env s:=rfl
@[simp] theorem aco {kk:Nat} {m:IX} {k:IX} {v:IX} {env:Env} {s:St}:aop glob call cx env s (.ins kk m k v)=match m,wF glob env [k,v] with
  | .t j,some ([key,val],env)=>match lk env j with
   | some (.om es)=>match find kk key es with
    | some none=>if val.one∧qj kk key then .ok (.v (.tu [])) ((j,.om (es++[(key,val)]))::env) s else .fail
    | _=>.fail
   | _=>.fail
  | _,_=>.fail:=rfl
@[simp] theorem aaL  {env:Env} {s:St}:aop glob call cx env s (.hmap )=.ok (.v (.mp s.length)) env (s++[.map []]):=rfl
@[simp] theorem aaM {kk:Nat} {m:IX} {k:IX} {v:IX} {env:Env} {s:St}:aop glob call cx env s (.hins kk m k v)=match rd glob env m,rd glob env k,FH glob env v with
  | some (.mp l),some key,some (val,env)=>match s[l]? with
   | some (.map es)=>match Eo kk key val es with
    | some es'=>if val.one∧qj kk key∧cx.lim≤l∧(cx.base≤l∨val.flat=true) then .ok (.v (.tu [])) env (s.set l (.map es')) else .fail
    | none=>.fail
   | some (.mapo es)=>match Eo kk key val es with
    | some es'=>if val.one∧qj kk key∧cx.lim≤l∧(cx.base≤l∨val.flat=true) then .ok (.v (.tu [])) env (s.set l (.mapo es')) else .fail
    | none=>.fail
   | _=>.fail
  | _,_,_=>.fail:=rfl
@[simp] theorem ZH  {env:Env} {s:St}:aop glob call cx env s (.hmapo )=.ok (.v (.mp s.length)) env (s++[.mapo []]):=rfl
@[simp] theorem aaz {kk:Nat} {z:AV} {m:IX} {k:IX} {env:Env} {s:St}:aop glob call cx env s (.ment kk z m k)=match rd glob env m,rd glob env k with
  | some (.mp l),some key=>match s[l]? with
   | some (.mapo es)=>if qj kk key∧cx.lim≤l∧z.one∧z.flat=true then (match OH kk key es 0 with
    | some (some (i,v))=>.ok (.v (.tu [v,.i .i64 i])) env s
    | some none=>.ok (.v (.tu [z,.i .i64 es.length])) env (s.set l (.mapo (es++[(key,z)])))
    | none=>.fail) else .fail
   | _=>.fail
  | _,_=>.fail:=rfl
@[simp] theorem aaw {m:IX} {i:IX} {v:IX} {env:Env} {s:St}:aop glob call cx env s (.msto m i v)=match rd glob env m,rd glob env i,FH glob env v with
  | some (.mp l),some (.i .i64 n),some (val,env)=>match s[l]? with
   | some (.mapo es)=>match es[n.toNat]? with
    | some (key,_)=>if 0≤n∧val.one∧cx.lim≤l∧(cx.base≤l∨val.flat=true) then .ok (.v (.tu [])) env (s.set l (.mapo (es.set n.toNat (key,val)))) else .fail
    | none=>.fail
   | _=>.fail
  | _,_,_=>.fail:=rfl
@[simp] theorem Yu {d:Nat} {zs:List AV} {env:Env} {s:St}:aop glob call cx env s (.hallocp d zs)=match lk env d with
  | some _=>.fail
  | none=>.ok (.v (.pt s.length 0)) env (s++[.cells zs]):=rfl
@[simp] theorem aaN {kk:Nat} {m:IX} {k:IX} {env:Env} {s:St}:aop glob call cx env s (.hdel kk m k)=match rd glob env m,rd glob env k with
  | some (.mp l),some key=>match s[l]? with
   | some (.map es)=>match Nk kk key es with
    | some es'=>if qj kk key∧cx.lim≤l then .ok (.v (.tu [])) env (s.set l (.map es')) else .fail
    | none=>.fail
   | _=>.fail
  | _,_=>.fail:=rfl
@[simp] theorem aaS {f:IX} {args:List IX} {env:Env} {s:St}:aop glob call cx env s (.call f args)=match rd glob env f,wF glob env args with
  | some fv,some (as,env)=>match call fv as s cx with
   | .ret r s=>.ok (.v r) env s
   | .pan v s=>.pan v s
   | .fail=>.fail
  | _,_=>.fail:=rfl
@[simp] theorem YO {x:IX} {env:Env} {s:St}:aop glob call cx env s (.nilchk x)=match rd glob env x with
  | some (.ip cs)=>.ok (.v (.ip cs)) env s
  | some (.pt l o)=>.ok (.v (.pt l o)) env s
  | _=>.fail:=rfl
@[simp] theorem Zy {x:IX} {env:Env} {s:St}:aop glob call cx env s (.panic x)=match esc glob env x with
  | some (.ifc t a,_)=>.pan (.ifc t a) s
  | _=>.fail:=rfl
attribute [simp] kP ev rd lk put ig esc FH wF rds Jl U1 Rt QY XV EV.owns EV.refers EV.isRef iM lQ finish sH dQ part jL addr bound gZ lS splice mX
@[simp] theorem abm {env:Env} {s:St} {a:AV}:okv env s (some a)=.ok (.v a) env s:=rfl
@[simp] theorem abn {env:Env} {s:St}:okv env s none=.fail:=rfl
@[simp] theorem acN {p:Prop} [Decidable p] {env:Env} {s:St} {a b:Option AV}:okv env s (if p then a else b)=if p then okv env s a else okv env s b:=by split<;>rfl
theorem gG {body:Env→St→Out} {keep:List Nat} {env:Env} {s:St} {o:Out} (h:∀K,K=zC body keep→(body (ig env keep) s).thn K=o):zC body keep env s=o:=by
 rw [OU];exact h _ rfl
@[simp] theorem adV (a b:Int):(a == b)=decide (a=b):=by by_cases h:a=b<;>simp [h]
@[simp] theorem adT (a b:Int):(a != b)=!decide (a=b):=by by_cases h:a=b<;>simp [h]
@[simp] theorem adU (a b:List UInt8):(a == b)=decide (a=b):=by by_cases h:a=b<;>simp [h]
@[simp] theorem adL {k:IntKind} {n:Int}:(AV.i k n).one=true:=rfl
@[simp] theorem adM {x:Bool}:(AV.b x).one=true:=rfl
@[simp] theorem adK {l:List UInt8}:(AV.s l).one=true:=rfl
@[simp] theorem ac7 {l:List AV}:(AV.sl l).one=true:=rfl
@[simp] theorem adi {l:List AV}:(AV.ip l).one=true:=rfl
@[simp] theorem adk {l:List (AV×AV)}:(AV.im l).one=true:=rfl
@[simp] theorem ac9 {l o:Nat}:(AV.pt l o).one=true:=rfl
@[simp] theorem adh {l:Nat}:(AV.mp l).one=true:=rfl
@[simp] theorem ac5 {l:Nat}:(AV.yl l).one=true:=rfl
@[simp] theorem adl {f:Fn} {as cs:List AV}:(AV.fn f as cs).one=true:=rfl
@[simp] theorem acM {t:Nat} {v:AV}:(AV.ifc t v).one=true:=rfl
@[simp] theorem ac8 {l ver sz o n:Nat}:(AV.sk l ver sz o n).one=true:=rfl
@[simp] theorem abR {l ver sz o n:Nat}:(AV.sk l ver sz o n).cells=[.sk l ver sz o n]:=rfl
@[simp] theorem ac6 {l:Nat} {es:List AV}:(AV.st l es).one=true:=rfl
@[simp] theorem adb:AV.np.one=true:=rfl
@[simp] theorem ade:AV.nm.one=true:=rfl
@[simp] theorem ada:AV.ns.one=true:=rfl
@[simp] theorem adg:AV.nf.one=true:=rfl
@[simp] theorem adf:AV.ni.one=true:=rfl
@[simp] theorem acY {k:IntKind} {n:Int}:(AV.i k n).cells=[.i k n]:=rfl
@[simp] theorem acZ {x:Bool}:(AV.b x).cells=[.b x]:=rfl
@[simp] theorem acX {l:List UInt8}:(AV.s l).cells=[.s l]:=rfl
@[simp] theorem abQ {l:List AV}:(AV.sl l).cells=[.sl l]:=rfl
@[simp] theorem abZ {l:List AV}:(AV.ip l).cells=[.ip l]:=rfl
@[simp] theorem ab1 {l:List (AV×AV)}:(AV.im l).cells=[.im l]:=rfl
@[simp] theorem abS {l o:Nat}:(AV.pt l o).cells=[.pt l o]:=rfl
@[simp] theorem abY {l:Nat}:(AV.mp l).cells=[.mp l]:=rfl
@[simp] theorem abO {l:Nat}:(AV.yl l).cells=[.yl l]:=rfl
@[simp] theorem ab3 {f:Fn} {as cs:List AV}:(AV.fn f as cs).cells=[.fn f as cs]:=rfl
@[simp] theorem Z9 {t:Nat} {v:AV}:(AV.ifc t v).cells=[.ifc t v]:=rfl
@[simp] theorem ab4 {l:List AV}:(AV.ag l).cells=l:=rfl
@[simp] theorem abP {l:Nat} {es:List AV}:(AV.st l es).cells=[.st l es]:=rfl
@[simp] theorem abU:AV.np.cells=[.np]:=rfl
@[simp] theorem abV:AV.nm.cells=[.nm]:=rfl
@[simp] theorem abT:AV.ns.cells=[.ns]:=rfl
@[simp] theorem abX:AV.nf.cells=[.nf]:=rfl
@[simp] theorem abW:AV.ni.cells=[.ni]:=rfl
@[simp] theorem adG {k:IntKind} {n:Int}:(AV.i k n).flat=true:=rfl
@[simp] theorem adH {x:Bool}:(AV.b x).flat=true:=rfl
@[simp] theorem adF {l:List UInt8}:(AV.s l).flat=true:=rfl
@[simp] theorem Zm {body:ah} {l:Nat} {env:Env} {s1:St}:uq glob call cx body l (.norm env s1)=match s1[l]? with
  | some (.loop e1 p1 a1 b1 .ready)=>JQ l (aA glob call cx true body env (s1.set l (.loop e1 p1 a1 b1 .busy)))
  | _=>.fail:=rfl
@[simp] theorem X8 {l:Nat} {env:Env} {s2:St}:JQ l (.norm env s2)=oU s2 l .ready true:=rfl
@[simp] theorem YA {l:Nat} {env:Env} {s2:St}:JQ l (.ret env s2)=oU s2 l .ret false:=rfl
@[simp] theorem X9 {l id:Nat} {env:Env} {s2:St}:JQ l (.exit id env s2)=oU s2 l (.exit id) false:=rfl
@[simp] theorem ZT {pure keep:Bool} {s s1:St} {res:List RV} {env:Env}:endW glob pure keep s res (.norm env s1)=match iM glob env s1 res with
  | some rs=>finish pure keep s s1 (lQ rs)
  | none=>.fail:=rfl
@[simp] theorem abC {pure keep:Bool} {s s1:St} {res:List RV} {v:AV}:endW glob pure keep s res (.pan v s1)=(finish pure keep s s1 v).toPan:=rfl
@[simp] theorem abB {pure keep:Bool} {s s1:St} {res:List RV} {env:Env}:endW glob pure keep s res (.ret env s1)=match iM glob env s1 res with
  | some rs=>finish pure keep s s1 (lQ rs)
  | none=>.fail:=rfl
end
end Go.Ai
