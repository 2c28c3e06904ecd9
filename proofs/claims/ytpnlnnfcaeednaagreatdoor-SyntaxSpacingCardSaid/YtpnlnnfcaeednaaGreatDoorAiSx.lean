/-
 Rules for running the interpreter on symbolic values.
-/
import Derived.Test.YtpnlnnfcaeednaaGreatDoorAiB1
set_option maxRecDepth 100000
set_option linter.unusedSimpArgs false
set_option linter.unusedVariables false
set_option linter.unusedSectionVars false
namespace Go.Ai
@[simp] theorem ahC {env:Env} {s:St} {f:Env→St→Out}:(Out.norm env s).thn f=f env s:=rfl
@[simp] theorem ajc {env:Env} {s:St} {f:Env→St→Out}:(Out.ret env s).thn f=.ret env s:=rfl
@[simp] theorem ahF {id:Nat} {env:Env} {s:St} {f:Env→St→Out}:(Out.exit id env s).thn f=.exit id env s:=rfl
@[simp] theorem ahE {f:Env→St→Out}:(Out.fail).thn f=.fail:=rfl
@[simp] theorem agd {env:Env} {s:St}:(Out.norm env s).noPan=.norm env s:=rfl
@[simp] theorem agf:(Out.fail).noPan=.fail:=rfl
@[simp] theorem ag8 {v:AV} {s:St}:(Out.pan v s).noPan=.fail:=rfl
@[simp] theorem agQ {r:AV} {s:St}:(CO.ret r s).toPan=.pan r s:=rfl
@[simp] theorem afM:(CO.fail).toPan=.fail:=rfl
@[simp] theorem ajT {id:Nat} {v:AV} {s:St}:(Out.pan v s).blk id=.pan v s:=rfl
@[simp] theorem ajH {l:Nat} {v:AV} {s:St} {f:Env→St→Out}:(Out.pan v s).jmp l f=.pan v s:=rfl
@[simp] theorem ajd {v:AV} {s:St} {f:Env→St→Out}:(Out.pan v s).thn f=.pan v s:=rfl
@[simp] theorem ahD {l:Nat} {env:Env} {s:St} {f:Env→St→Out}:(Out.goto l env s).thn f=.goto l env s:=rfl
@[simp] theorem ai6 {id l:Nat} {env:Env} {s:St}:(Out.goto l env s).blk id=.goto l env s:=rfl
@[simp] theorem aiv {l:Nat} {env:Env} {s:St} {f:Env→St→Out}:(Out.norm env s).jmp l f=.norm env s:=rfl
@[simp] theorem ajG {l:Nat} {env:Env} {s:St} {f:Env→St→Out}:(Out.ret env s).jmp l f=.ret env s:=rfl
@[simp] theorem aiy {l id:Nat} {env:Env} {s:St} {f:Env→St→Out}:(Out.exit id env s).jmp l f=.exit id env s:=rfl
@[simp] theorem aix {l:Nat} {f:Env→St→Out}:(Out.fail).jmp l f=.fail:=rfl
@[simp] theorem aiw {l l':Nat} {env:Env} {s:St} {f:Env→St→Out}:(Out.goto l' env s).jmp l f=if l'=l then f env s else .fail:=rfl
@[simp] theorem ai5 {id:Nat} {env:Env} {s:St}:(Out.norm env s).blk id=.norm env s:=rfl
@[simp] theorem ajS {id:Nat} {env:Env} {s:St}:(Out.ret env s).blk id=.ret env s:=rfl
@[simp] theorem ai8 {id id':Nat} {env:Env} {s:St}:(Out.exit id' env s).blk id=if id'=id then .norm env s else .exit id' env s:=rfl
@[simp] theorem ai7 {id:Nat}:(Out.fail).blk id=.fail:=rfl
def RO.fin (o:RO) (dst:Option Nat):Out:=
 match o with
 | .fail=>.fail
 | .pan v s=>.pan v s
 | .ok e env s=>match dst with
  | some d=>if e.refers d=true then .fail else .norm (put env d e) s
  | none=>.norm env s
@[simp] theorem ajO {e:EV} {env:Env} {s:St} {d:Nat}:(RO.ok e env s).fin (some d)=if e.refers d=true then .fail else .norm (put env d e) s:=rfl
@[simp] theorem akF {e:EV} {env:Env} {s:St}:(RO.ok e env s).fin none=.norm env s:=rfl
@[simp] theorem ajN {v:AV} {s:St} {d:Option Nat}:(RO.pan v s).fin d=.pan v s:=rfl
@[simp] theorem aiH {d:Option Nat}:(RO.fail).fin d=.fail:=rfl
def Ns (dst:Option Nat) (env:Env) (s:St):Out:=
 match dst with
 | some d=>.norm (put env d (.v (.tu []))) s
 | none=>.norm env s
@[simp] theorem afW {d:Nat} {env:Env} {s:St}:Ns (some d) env s=.norm (put env d (.v (.tu []))) s:=rfl
@[simp] theorem afX {env:Env} {s:St}:Ns none env s=.norm env s:=rfl
def afn (ks:List Nat) (env:Env) (s:St):Out:=.norm (jY env ks) s
@[simp] theorem aiu {ks:List Nat} {env:Env} {s:St}:afn ks env s=.norm (jY env ks) s:=rfl
section
variable (glob:Nat→Option (List AV)) (call:AV→List AV→St→Ctx→CO) (cx:Ctx)
def opT (dst:Option Nat) (op:AOp) (env:Env) (s:St):Out:=(aop glob call cx env s op).fin dst
def opF (dst:Option Nat) (env:Env) (s:St):Out:=Ns dst env s
def gdD (x:Option EV) (w:Bool) (dst:Option Nat) (op:AOp) (env:Env) (s:St):Out:=
 match x with
 | some (.v (.b x))=>if x=true then (match w with|true=>opT glob call cx dst op env s|false=>opF dst env s) else (match w with|true=>opF dst env s|false=>opT glob call cx dst op env s)
 | some (.v (.tu []))=>Ns dst env s
 | _=>.fail
noncomputable def cdT (ro:Bool) (a:aS) (env:Env) (s:St):Out:=aC glob call cx ro a env s
noncomputable def Zm (ro:Bool) (x:Option AV) (a b:aS) (env:Env) (s:St):Out:=
 match x with
 | some (.b x)=>if x=true then cdT glob call cx ro a env s else cdT glob call cx ro b env s
 | _=>.fail
end
section
variable {glob:Nat→Option (List AV)} {call:AV→List AV→St→Ctx→CO} {cx:Ctx} {ro:Bool}
theorem kz {dst:Option Nat} {op:AOp} {env:Env} {s:St}:opT glob call cx dst op env s=(aop glob call cx env s op).fin dst:=rfl
theorem kC {dst:Option Nat} {env:Env} {s:St}:opF dst env s=Ns dst env s:=rfl
theorem kF {a:aS} {env:Env} {s:St}:cdT glob call cx ro a env s=aC glob call cx ro a env s:=rfl
@[simp] theorem akw {x:Bool} {dst:Option Nat} {op:AOp} {env:Env} {s:St}:
  gdD glob call cx (some (.v (.b x))) true dst op env s=if x=true then opT glob call cx dst op env s else opF dst env s:=rfl
@[simp] theorem akx {x:Bool} {dst:Option Nat} {op:AOp} {env:Env} {s:St}:
  gdD glob call cx (some (.v (.b x))) false dst op env s=if x=true then opF dst env s else opT glob call cx dst op env s:=rfl
@[simp high] theorem aku {dst:Option Nat} {op:AOp} {env:Env} {s:St}:gdD glob call cx (some (.v (.b true))) true dst op env s=(aop glob call cx env s op).fin dst:=rfl
@[simp high] theorem akB {dst:Option Nat} {op:AOp} {env:Env} {s:St}:gdD glob call cx (some (.v (.b false))) false dst op env s=(aop glob call cx env s op).fin dst:=rfl
@[simp high] theorem akv {dst:Option Nat} {op:AOp} {env:Env} {s:St}:gdD glob call cx (some (.v (.b true))) false dst op env s=Ns dst env s:=rfl
@[simp high] theorem akA {dst:Option Nat} {op:AOp} {env:Env} {s:St}:gdD glob call cx (some (.v (.b false))) true dst op env s=Ns dst env s:=rfl
@[simp] theorem akt {w:Bool} {dst:Option Nat} {op:AOp} {env:Env} {s:St}:gdD glob call cx (some (.v (.tu []))) w dst op env s=Ns dst env s:=rfl
@[simp high] theorem aky {x:Bool} {dst:Option Nat} {op:AOp} {env:Env} {s:St}:
  gdD glob call cx (some (.v (.b (!x)))) true dst op env s=gdD glob call cx (some (.v (.b x))) false dst op env s:=by cases x<;>rfl
@[simp high] theorem akz {x:Bool} {dst:Option Nat} {op:AOp} {env:Env} {s:St}:
  gdD glob call cx (some (.v (.b (!x)))) false dst op env s=gdD glob call cx (some (.v (.b x))) true dst op env s:=by cases x<;>rfl
@[simp high] theorem aiL {x:Bool} {a b:aS} {env:Env} {s:St}:
  Zm glob call cx ro (some (.b (!x))) a b env s=Zm glob call cx ro (some (.b x)) b a env s:=by cases x<;>rfl
@[simp] theorem ahl {x:Bool} {a b:aS} {env:Env} {s:St}:
  Zm glob call cx ro (some (.b x)) a b env s=if x=true then cdT glob call cx ro a env s else cdT glob call cx ro b env s:=rfl
@[simp high] theorem ahk {a b:aS} {env:Env} {s:St}:Zm glob call cx ro (some (.b true)) a b env s=aC glob call cx ro a env s:=rfl
@[simp high] theorem agw {a b:aS} {env:Env} {s:St}:Zm glob call cx ro (some (.b false)) a b env s=aC glob call cx ro b env s:=rfl
@[simp] theorem YD {dst:Option Nat} {op:AOp} {env:Env} {s:St}:
  jT glob call cx ⟨dst,none,op⟩ env s=(aop glob call cx env s op).fin dst:=by
 simp only [jT,fF]
 cases aop glob call cx env s op<;>rfl
@[simp] theorem YC {dst:Option Nat} {op:AOp} {k:Nat} {w:Bool} {env:Env} {s:St}:
  jT glob call cx ⟨dst,some (k,w),op⟩ env s=gdD glob call cx (lk env k) w dst op env s:=by
 simp only [jT,fF]
 cases h:lk env k with
 | none=>rfl
 | some e=>
  cases e with
  | v a=>
   cases a with
   | b x=>
    cases x<;>cases w<;>first|rfl | (simp only [gdD,opT];cases aop glob call cx env s op<;>rfl)
   | tu cs=>cases cs<;>rfl
   | _=>rfl
  | _=>rfl
@[simp] theorem afY {env:Env} {s:St}:qH glob call cx [] env s=.norm env s:=rfl
@[simp] theorem afi {o:aX} {r:List aX} {env:Env} {s:St}:qH glob call cx (o::r) env s=(jT glob call cx o env s).thn (qH glob call cx r):=by
 simp only [qH];cases jT glob call cx o env s<;>rfl
@[simp] theorem afr {env:Env} {s:St}:aC glob call cx ro .skip env s=.norm env s:=by simp [aC]
@[simp] theorem agM {env:Env} {s:St}:aC glob call cx ro .ret env s=.ret env s:=by simp [aC]
@[simp] theorem afu {id:Nat} {env:Env} {s:St}:aC glob call cx ro (.exit id) env s=.exit id env s:=by simp [aC]
@[simp] theorem aea {ops:List aX} {ord:Option (List Nat×List Nat)} {keep:List Nat} {env:Env} {s:St}:
  aC glob call cx ro (.region ops ord keep) env s=(sD glob call cx ops env s ord).thn (afn keep):=by simp only [aC];rfl
@[simp] theorem agL {a b:aS} {env:Env} {s:St}:aC glob call cx ro (.seq a b) env s=(aC glob call cx ro a env s).thn (aC glob call cx ro b):=by simp only [aC]
@[simp] theorem afv {c:IX} {a b:aS} {env:Env} {s:St}:aC glob call cx ro (.cond c a b) env s=Zm glob call cx ro (rd glob env c) a b env s:=by
 simp only [aC,aeT,Zm,cdT];cases h:rd glob env c with
 | none=>rfl
 | some a=>cases a<;>rfl
@[simp] theorem ae6 {id:Nat} {b:aS} {env:Env} {s:St}:aC glob call cx ro (.block id b) env s=(aC glob call cx ro b env s).blk id:=by simp only [aC]
@[simp] theorem afs {keep:List Nat} {b:aS} {env:Env} {s:St}:aC glob call cx ro (.loop keep b) env s=eX (aC glob call cx ro b) keep env s:=by simp only [aC]
@[simp] theorem ae4 {f:IX} {ps:List Nat} {asg body:aS} {env:Env} {s:St}:aC glob call cx false (.range f ps asg body) env s=Lm (rd glob env f) call cx ps asg body env s:=by simp [aC]
@[simp] theorem ae5 {l:Nat} {env:Env} {s:St}:aC glob call cx ro (.label l) env s=.norm env s:=by simp only [aC]
@[simp] theorem aft {l:Nat} {env:Env} {s:St}:aC glob call cx ro (.goto l) env s=.goto l env s:=by simp only [aC]
@[simp] theorem ae3 {l:Nat} {keep:List Nat} {a b:aS} {env:Env} {s:St}:aC glob call cx ro (.scope l keep a b) env s=(aC glob call cx ro a env s).jmp l (Ah (aC glob call cx ro b) l keep):=by simp only [aC]
@[simp] theorem aji {x:IX} {env:Env} {s:St}:aop glob call cx env s (.mov x)=match ev glob env x,x with
  | some (.om es),.t k=>.ok (.v (.im es)) ((k,.v (.im es))::(k,.v .u)::oQ env k) s
  | _,_=>match EQ glob env x with
   | some e=>.ok e env s
   | none=>.fail:=rfl
@[simp] theorem ajv {x:IX} {env:Env} {s:St}:aop glob call cx env s (.asg x)=match ev glob env x,x with
  | some (.own tip t sz es),.t k=>.ok (.own tip t sz es) ((k,.v .u)::oQ env k) s
  | _,_=>match Kz glob env x with
   | some (a,env)=>.ok (.v a) env s
   | none=>match EQ glob env x with
    | some e=>.ok e env s
    | none=>.fail:=rfl
@[simp] theorem ajp {x:IX} {env:Env} {s:St}:aop glob call cx env s (.cpy x)=match esc glob env x with
  | some (a,env)=>.ok (.v a) env s
  | none=>.fail:=rfl
@[simp] theorem ahL {t:Nat} {sz:Nat} {env:Env} {s:St}:aop glob call cx env s (.nbuf t sz)=if 0<sz then .ok (.own false t sz []) env s else .fail:=rfl
@[simp] theorem ahK {c:IX} {a:IX} {b:IX} {env:Env} {s:St}:aop glob call cx env s (.pick c a b)=match rd glob env c with
  | some (.b x)=>okv env s (rd glob env (if x then a else b))
  | _=>.fail:=rfl
@[simp] theorem ahV {x:IX} {env:Env} {s:St}:aop glob call cx env s (.lbox x)=match esc glob env x with
  | some (a,env)=>if a.cells.all AV.one then .ok (.bx a.cells) env s else .fail
  | none=>.fail:=rfl
@[simp] theorem afS {zs:List AV} {env:Env} {s:St}:aop glob call cx env s (.lalloc zs)=.ok (.bx zs) env s:=rfl
@[simp] theorem ah2 {x:IX} {env:Env} {s:St}:aop glob call cx env s (.hbox x)=match esc glob env x with
  | some (a,env)=>if a.cells.all AV.one then .ok (.v (.pt s.length 0)) env (s++[.cells a.cells]) else .fail
  | none=>.fail:=rfl
@[simp] theorem afT {zs:List AV} {env:Env} {s:St}:aop glob call cx env s (.halloc zs)=.ok (.v (.pt s.length 0)) env (s++[.cells zs]):=rfl
@[simp] theorem ahQ {n:Option Nat} {a:IX} {env:Env} {s:St}:aop glob call cx env s (.load n a)=okv env s (lq glob env s n a):=rfl
@[simp] theorem agZ {d:Nat} {n:Option Nat} {a:IX} {env:Env} {s:St}:aop glob call cx env s (.loadp d n a)=match lk env d,ev glob env a with
  | none,some (.v _)=>okv env s (lq glob env s n a)
  | _,_=>.fail:=rfl
@[simp] theorem agU {n:Nat} {a:IX} {x:IX} {env:Env} {s:St}:aop glob call cx env s (.store n a x)=match Kz glob env x with
  | some (v,env)=>match vP glob cx env s n a v with
   | some (env,s)=>.ok (.v (.tu [])) env s
   | none=>.fail
  | none=>.fail:=rfl
@[simp] theorem ajn {off:Nat} {a:IX} {env:Env} {s:St}:aop glob call cx env s (.fld off a)=match addr glob env off a with
  | some e=>.ok e env s
  | none=>.fail:=rfl
@[simp] theorem ahY {len:Nat} {sz:Nat} {x:IX} {i:IX} {env:Env} {s:St}:aop glob call cx env s (.idxa len sz x i)=match rd glob env i with
  | some (.i _ n)=>if 0≤n∧n.toNat<len then
    (match addr glob env (n.toNat * sz) x with
     | some e=>.ok e env s
     | none=>.fail) else .fail
  | _=>.fail:=rfl
@[simp] theorem ah3 {off:Nat} {n:Option Nat} {x:IX} {env:Env} {s:St}:aop glob call cx env s (.getf off n x)=match rd glob env x with
  | some (.ag cs)=>okv env s (part cs off n)
  | _=>.fail:=rfl
@[simp] theorem ahW {len:Nat} {sz:Nat} {n:Option Nat} {x:IX} {i:IX} {env:Env} {s:St}:aop glob call cx env s (.idxv len sz n x i)=match rd glob env x,rd glob env i with
  | some (.ag cs),some (.i _ j)=>if 0≤j∧j.toNat<len then okv env s (part cs (j.toNat * sz) n) else .fail
  | _,_=>.fail:=rfl
@[simp] theorem ahX {x:IX} {i:IX} {env:Env} {s:St}:aop glob call cx env s (.idxs x i)=match rd glob env x,rd glob env i with
  | some (.s l),some (.i _ j)=>match l[j.toNat]? with
   | some c=>if 0≤j then .ok (.v (.i .u8 c.toNat)) env s else .fail
   | none=>.fail
  | _,_=>.fail:=rfl
@[simp] theorem ajs {op:BinOp} {x:IX} {y:IX} {env:Env} {s:St}:aop glob call cx env s (.bin op x y)=match rd glob env x,rd glob env y with
  | some a,some b=>okv env s (Yd op a b)
  | _,_=>.fail:=rfl
@[simp] theorem ajt {neg:Bool} {x:IX} {y:IX} {env:Env} {s:St}:aop glob call cx env s (.beq neg x y)=match rd glob env x,rd glob env y with
  | some (.b a),some (.b b)=>.ok (.v (.b (if neg then !(a == b) else a == b))) env s
  | _,_=>.fail:=rfl
@[simp] theorem ajl {neg:Bool} {n:Nat} {x:IX} {y:IX} {env:Env} {s:St}:aop glob call cx env s (.ieq neg n x y)=match rd glob env x,rd glob env y with
  | some (.ag a),some (.ag b)=>match uK a b with
   | some r=>if a.length=n then .ok (.v (.b (if neg then !r else r))) env s else .fail
   | none=>.fail
  | _,_=>.fail:=rfl
@[simp] theorem agW {neg:Bool} {k:Nat} {x:IX} {env:Env} {s:St}:aop glob call cx env s (.nileq neg k x)=match rd glob env x with
  | some a=>match LQ k a with
   | some n=>.ok (.v (.b (if neg then !n else n))) env s
   | none=>.fail
  | none=>.fail:=rfl
@[simp] theorem ajV {op:UnOp} {x:IX} {env:Env} {s:St}:aop glob call cx env s (.un op x)=match rd glob env x with
  | some a=>okv env s (aei op a)
  | _=>.fail:=rfl
@[simp] theorem agT {k:IntKind} {x:IX} {env:Env} {s:St}:aop glob call cx env s (.toInt k x)=match rd glob env x with
  | some (.i _ n)=>.ok (.v (.i k (k.wrap n))) env s
  | _=>.fail:=rfl
@[simp] theorem ajh {x:IX} {env:Env} {s:St}:aop glob call cx env s (.s2b x)=match rd glob env x with
  | some (.s l)=>.ok (.v (.sl (aA l))) env s
  | _=>.fail:=rfl
@[simp] theorem aju {x:IX} {env:Env} {s:St}:aop glob call cx env s (.b2s x)=match elems glob env x with
  | some es=>okv env s ((es.mapM byteOf).map .s)
  | none=>.fail:=rfl
@[simp] theorem ahJ {x:IX} {env:Env} {s:St}:aop glob call cx env s (.same x)=match rd glob env x with
  | some (.s l)=>.ok (.v (.s l)) env s
  | _=>.fail:=rfl
@[simp] theorem agY {x:IX} {env:Env} {s:St}:aop glob call cx env s (.markk x)=match x with
  | .t k=>match lk env k with
   | some (.own _ t sz es)=>if 0<es.length then .ok (.al k) ((k,.own true t sz es)::env) s else .fail
   | _=>.fail
  | _=>.fail:=rfl
@[simp] theorem ahO {x:IX} {env:Env} {s:St}:aop glob call cx env s (.mark x)=match x with
  | .t k=>match lk env k with
   | some (.own _ _ _ es)=>if 0<es.length then .ok (.v (.sl es)) ((k,.v .u)::oQ env k) s else .fail
   | _=>.fail
  | _=>.fail:=rfl
@[simp] theorem ag1 {zs:List AV} {ps:List (Nat×Nat×IX)} {env:Env} {s:St}:aop glob call cx env s (.build zs ps)=match AB glob env (ps.map (·.2.2)) with
  | some (vs,env)=>
   if (ps.zip vs).all (fun p=>p.2.cells.length == p.1.2.1 && p.2.cells.all AV.one) then
    okv env s ((dX zs ((ps.zip vs).map fun p=>(p.1.1,p.2.cells))).map .ag) else .fail
  | none=>.fail:=rfl
@[simp] theorem ajq {own:Bool} {t:Nat} {sz:Nat} {len:Nat} {zs:List AV} {ps:List (Nat×IX)} {env:Env} {s:St}:aop glob call cx env s (.bsl own t sz len zs ps)=match AB glob env (ps.map (·.2)) with
  | some (vs,env)=>
   if len * sz≤16777216∧ps.map (·.1)=List.range len∧vs.all (fun v=>v.cells.length == sz && v.cells.all AV.one)∧zs.length=sz then
    (if own then (if 0<sz then .ok (.own false t sz vs) env s else .fail) else .ok (.v (.sl vs)) env s) else .fail
  | none=>.fail:=rfl
@[simp] theorem ajw {t:Nat} {sz:Nat} {x:IX} {y:IX} {env:Env} {s:St}:aop glob call cx env s (.app t sz x y)=match elems glob env y,nN env x with
  | some ys,some k=>match lk env k with
   | some (.own tip t' sz' es)=>
    if t=t'∧sz=sz'∧(ys.all fun e=>e.cells.length == sz)∧es.length+ys.length≤eu∧nN env y≠some k then
     .ok (.own tip t sz (es++ys)) ((k,.v .u)::oQ env k) s else .fail
   | _=>.fail
  | some ys,none=>match rd glob env x with
   | some .ns=>if 0<sz∧(ys.all fun e=>e.cells.length == sz)∧ys.length≤eu then .ok (.own false t sz ys) env s else .fail
   | _=>.fail
  | _,_=>.fail:=rfl
@[simp] theorem ah7 {t:Nat} {x:IX} {y:IX} {env:Env} {s:St}:aop glob call cx env s (.apps t x y)=match rd glob env y,nN env x with
  | some (.s l),some k=>match lk env k with
   | some (.own tip t' sz' es)=>if t=t'∧sz'=1∧es.length+l.length≤eu then .ok (.own tip t 1 (es++aA l)) ((k,.v .u)::oQ env k) s else .fail
   | _=>.fail
  | _,_=>.fail:=rfl
@[simp] theorem ah8 {t:Nat} {sz:Nat} {x:IX} {y:IX} {env:Env} {s:St}:aop glob call cx env s (.appr t sz x y)=match elems glob env y,ev glob env x with
  | some ys,some (.v .ns)=>
   if 0<sz∧0<ys.length∧(ys.all fun e=>e.cells.length == sz)∧ys.length≤eu then .ok (.v (.st s.length ys)) env (s++[.row t sz ys.length]) else .fail
  | some ys,some (.v .se)=>
   if 0<sz∧0<ys.length∧(ys.all fun e=>e.cells.length == sz)∧ys.length≤eu then .ok (.v (.st s.length ys)) env (s++[.row t sz ys.length]) else .fail
  | some ys,some (.v (.st l es))=>match s[l]? with
   | some (.row t' sz' k)=>
    if t=t'∧sz=sz'∧k=es.length∧0<sz∧0<ys.length∧(ys.all fun e=>e.cells.length == sz)∧(es.all fun e=>e.cells.length == sz)∧es.length+ys.length≤eu∧cx.lim≤l then
     .ok (.v (.st l (es++ys))) env (s.set l (.row t sz (es.length+ys.length))) else .fail
   | _=>.fail
  | _,_=>.fail:=rfl
@[simp] theorem ag2 {d:Nat} {t:Nat} {sz:Nat} {x:IX} {y:IX} {env:Env} {s:St}:aop glob call cx env s (.apprp d t sz x y)=match lk env d with
  | some _=>.fail
  | none=>match elems glob env y,ev glob env x with
   | some ys,some (.v .ns)=>
    if 0<sz∧0<ys.length∧(ys.all fun e=>e.cells.length == sz)∧ys.length≤eu then .ok (.v (.st s.length ys)) env (s++[.row t sz ys.length]) else .fail
   | some ys,some (.v .se)=>
    if 0<sz∧0<ys.length∧(ys.all fun e=>e.cells.length == sz)∧ys.length≤eu then .ok (.v (.st s.length ys)) env (s++[.row t sz ys.length]) else .fail
   | some ys,some (.v (.st l es))=>match s[l]? with
    | some (.row t' sz' k)=>
     if t=t'∧sz=sz'∧k=es.length∧0<sz∧0<ys.length∧(ys.all fun e=>e.cells.length == sz)∧(es.all fun e=>e.cells.length == sz)∧es.length+ys.length≤eu∧cx.lim≤l then
      .ok (.v (.st l (es++ys))) env (s.set l (.row t sz (es.length+ys.length))) else .fail
    | _=>.fail
   | _,_=>.fail:=rfl
@[simp] theorem ah9 {t:Nat} {sz:Nat} {x:IX} {y:IX} {env:Env} {s:St}:aop glob call cx env s (.appk t sz x y)=match elems glob env y,ev glob env x with
  | some ys,some (.v .ns)=>
   if 0<sz∧0<ys.length∧(ys.all fun e=>e.cells.length == sz)∧ys.length≤eu then .ok (.v (.sk s.length 0 sz 0 ys.length)) env (s++[.buf t sz 0 (ys.flatMap AV.cells)]) else .fail
  | some ys,some (.v .se)=>
   if 0<sz∧0<ys.length∧(ys.all fun e=>e.cells.length == sz)∧ys.length≤eu then .ok (.v (.sk s.length 0 sz 0 ys.length)) env (s++[.buf t sz 0 (ys.flatMap AV.cells)]) else .fail
  | some ys,some (.v (.sk l ver sz2 o m))=>match s[l]? with
   | some (.buf t' sz' ver' cs)=>
    if t=t'∧sz=sz'∧sz2=sz∧ver=ver'∧0<ys.length∧(ys.all fun e=>e.cells.length == sz)∧m+ys.length≤eu∧o+m * sz≤cs.length∧cx.lim≤l∧(cx.base≤l∨(ys.flatMap AV.cells).all AV.flat=true) then
     .ok (.v (.sk l (ver+1) sz 0 (m+ys.length))) env (s.set l (.buf t sz (ver+1) ((cs.drop o).take (m * sz)++ys.flatMap AV.cells))) else .fail
   | _=>.fail
  | _,_=>.fail:=rfl
@[simp] theorem ajj {t:Nat} {sz:Nat} {zs:List AV} {x:IX} {env:Env} {s:St}:aop glob call cx env s (.mks t sz zs x)=match rd glob env x with
  | some (.i _ n)=>if 0<sz∧zs.length=sz∧0≤n∧n.toNat≤16777216 then .ok (.v (.sk s.length 0 sz 0 n.toNat)) env (s++[.buf t sz 0 (List.replicate n.toNat zs).flatten]) else .fail
  | _=>.fail:=rfl
@[simp] theorem ah6 {t:Nat} {sz:Nat} {x:IX} {env:Env} {s:St}:aop glob call cx env s (.asgk t sz x)=match ev glob env x,x with
  | some (.own false t' sz' es),.t k=>if t=t'∧sz=sz'∧0<es.length then .ok (.v (.sk s.length 0 sz 0 es.length)) ((k,.v .u)::oQ env k) (s++[.buf t sz 0 (es.flatMap AV.cells)]) else .fail
  | _,_=>.fail:=rfl
@[simp] theorem ah4 {zs:List AV} {x:IX} {env:Env} {s:St}:aop glob call cx env s (.clrk zs x)=match rd glob env x with
  | some (.sk l ver sz o m)=>(match m,s[l]? with
   | 0,_=>.ok (.v (.tu [])) env s
   | n+1,some (.buf t sz' ver' cs)=>if ver=ver'∧sz=sz'∧0<sz∧zs.length=sz∧o+(n+1) * sz≤cs.length∧cx.lim≤l∧cx.base≤l then
     .ok (.v (.tu [])) env (s.set l (.buf t sz ver (splice cs o (List.replicate (n+1) zs).flatten))) else .fail
   | _,_=>.fail)
  | _=>.fail:=rfl
@[simp] theorem afh {d:Nat} {zs:List AV} {env:Env} {s:St}:aop glob call cx env s (.lallocp d zs)=match lk env d with
  | some _=>.fail
  | none=>.ok (.bx zs) env s:=rfl
@[simp] theorem afO {n:Nat} {a:IX} {x:IX} {env:Env} {s:St}:aop glob call cx env s (.storep n a x)=match ev glob env a,ev glob env x with
  | some (.v av),some (.v xv)=>match vP glob cx env s n a xv with
   | some (_,s)=>.ok (.v (.tu [])) env s
   | none=>.fail
  | _,_=>.fail:=rfl
@[simp] theorem ag0 {n:Option Nat} {a:IX} {env:Env} {s:St}:aop glob call cx env s (.loadl n a)=match ev glob env a with
  | some (.bx _)=>okv env s (lq glob env s n a)
  | some (.lp _ _)=>okv env s (lq glob env s n a)
  | some (.v (.ip _))=>okv env s (lq glob env s n a)
  | _=>.fail:=rfl
@[simp] theorem afP {n k:Nat} {x:IX} {env:Env} {s:St}:aop glob call cx env s (.storel n k x)=match lk env k,ev glob env x with
  | some (.bx cs),some (.v xv)=>if xv.cells.length=n∧n≠0∧xv.cells.all AV.one=true∧n≤cs.length then .ok (.v (.tu [])) ((k,.bx (splice cs 0 xv.cells))::env) s else .fail
  | _,_=>.fail:=rfl
@[simp] theorem ahG {d:Nat} {env:Env} {s:St}:aop glob call cx env s (.umap d)=match lk env d with
  | some _=>.fail
  | none=>.ok (.v (.mp s.length)) env (s++[.umap []]):=rfl
@[simp] theorem ahH {m:IX} {k:IX} {v:IX} {env:Env} {s:St}:aop glob call cx env s (.uins m k v)=match ev glob env m,ev glob env k,ev glob env v with
  | some (.v (.mp l)),some (.v (.s key)),some (.v val)=>match s[l]? with
   | some (.umap es)=>if val.one∧val.flat=true∧cx.lim≤l then .ok (.v (.tu [])) env (s.set l (.umap (BQ key val es))) else .fail
   | _=>.fail
  | _,_,_=>.fail:=rfl
@[simp] theorem ajr  {env:Env} {s:St}:aop glob call cx env s (.bse )=.ok (.v .se) env s:=rfl
@[simp] theorem ahU {x:IX} {env:Env} {s:St}:aop glob call cx env s (.len 0 x)=match elems glob env x with
  | some es=>.ok (.v (.i .i64 es.length)) env s
  | none=>match rd glob env x with
   | some (.sk _ _ _ _ m)=>.ok (.v (.i .i64 m)) env s
   | _=>.fail:=rfl
@[simp] theorem ahT {x:IX} {env:Env} {s:St}:aop glob call cx env s (.len 1 x)=match rd glob env x with
  | some (.s l)=>.ok (.v (.i .i64 l.length)) env s
  | _=>.fail:=rfl
@[simp] theorem ahS {x:IX} {env:Env} {s:St}:aop glob call cx env s (.len 2 x)=match rd glob env x with
  | some (.im es)=>.ok (.v (.i .i64 es.length)) env s
  | some (.mp l)=>match s[l]? with
   | some (.map es)=>.ok (.v (.i .i64 es.length)) env s
   | _=>.fail
  | some .nm=>.ok (.v (.i .i64 0)) env s
  | _=>.fail:=rfl
@[simp] theorem ahR {n:Nat} {env:Env} {s:St}:aop glob call cx env s (.lenA n)=.ok (.v (.i .i64 n)) env s:=rfl
@[simp] theorem afR {isMin:Bool} {x:IX} {y:IX} {env:Env} {s:St}:aop glob call cx env s (.minmax isMin x y)=match rd glob env x,rd glob env y with
  | some (.i k a),some (.i k' b)=>if k=k' then .ok (.v (.i k (if isMin then (if b<a then b else a) else (if b > a then b else a)))) env s else .fail
  | _,_=>.fail:=rfl
@[simp] theorem ahI {x:IX} {lo:Option IX} {hi:Option IX} {env:Env} {s:St}:aop glob call cx env s (.slcs x lo hi)=match rd glob env x with
  | some (.s cs)=>match bound glob env 0 lo,bound glob env cs.length hi with
   | some l,some h=>if l≤h∧h≤cs.length then .ok (.v (.s ((cs.drop l).take (h - l)))) env s else .fail
   | _,_=>.fail
  | _=>.fail:=rfl
@[simp] theorem ajo {x:IX} {i:Nat} {env:Env} {s:St}:aop glob call cx env s (.ext x i)=match rd glob env x with
  | some (.tu cs)=>okv env s (cs[i]?)
  | _=>.fail:=rfl
@[simp] theorem ahN {f:Fn} {as:List IX} {cs:List IX} {env:Env} {s:St}:aop glob call cx env s (.mkfn f as cs)=match AB glob env as with
  | some (vs,env)=>match AB glob env cs with
   | some (ws,env)=>.ok (.v (.fn f vs ws)) env s
   | none=>.fail
  | none=>.fail:=rfl
@[simp] theorem ahM {t:Nat} {x:IX} {env:Env} {s:St}:aop glob call cx env s (.mkif t x)=match esc glob env x with
  | some (a,env)=>.ok (.v (.ifc t a)) env s
  | none=>.fail:=rfl
@[simp] theorem ahP {kk:Nat} {z:AV} {ok:Bool} {m:IX} {k:IX} {env:Env} {s:St}:aop glob call cx env s (.look kk z ok m k)=match rd glob env k with
  | some key=>if 3≤kk∧wQ kk key=false then .fail else match (match rd glob env m with
    | some (.im es)=>find kk key es
    | some .nm=>if wQ kk key then some none else none
    | some (.mp l)=>match s[l]? with
     | some (.map es)=>find kk key es
     | _=>none
    | _=>none) with
   | some r=>if ok then .ok (.v (.tu [r.getD z,.b r.isSome])) env s else .ok (.v (r.getD z)) env s
   | none=>.fail
  | none=>.fail:=rfl
@[simp] theorem agX  {env:Env} {s:St}:aop glob call cx env s (.mkmap )=.ok (.om []) env s:=rfl
@[simp] theorem ajk {kk:Nat} {m:IX} {k:IX} {v:IX} {env:Env} {s:St}:aop glob call cx env s (.ins kk m k v)=match m,AB glob env [k,v] with
  | .t j,some ([key,val],env)=>match lk env j with
   | some (.om es)=>match find kk key es with
    | some none=>if val.one∧wQ kk key then .ok (.v (.tu [])) ((j,.om (es++[(key,val)]))::env) s else .fail
    | _=>.fail
   | _=>.fail
  | _,_=>.fail:=rfl
@[simp] theorem ahZ  {env:Env} {s:St}:aop glob call cx env s (.hmap )=.ok (.v (.mp s.length)) env (s++[.map []]):=rfl
@[simp] theorem ah0 {kk:Nat} {m:IX} {k:IX} {v:IX} {env:Env} {s:St}:aop glob call cx env s (.hins kk m k v)=match rd glob env m,rd glob env k,Kz glob env v with
  | some (.mp l),some key,some (val,env)=>match s[l]? with
   | some (.map es)=>match YM kk key val es with
    | some es'=>if val.one∧wQ kk key∧cx.lim≤l∧(cx.base≤l∨val.flat=true) then .ok (.v (.tu [])) env (s.set l (.map es')) else .fail
    | none=>.fail
   | _=>.fail
  | _,_,_=>.fail:=rfl
@[simp] theorem ah1 {kk:Nat} {m:IX} {k:IX} {env:Env} {s:St}:aop glob call cx env s (.hdel kk m k)=match rd glob env m,rd glob env k with
  | some (.mp l),some key=>match s[l]? with
   | some (.map es)=>match YQ kk key es with
    | some es'=>if wQ kk key∧cx.lim≤l then .ok (.v (.tu [])) env (s.set l (.map es')) else .fail
    | none=>.fail
   | _=>.fail
  | _,_=>.fail:=rfl
@[simp] theorem ah5 {f:IX} {args:List IX} {env:Env} {s:St}:aop glob call cx env s (.call f args)=match rd glob env f,AB glob env args with
  | some fv,some (as,env)=>match call fv as s cx with
   | .ret r s=>.ok (.v r) env s
   | .pan v s=>.pan v s
   | .fail=>.fail
  | _,_=>.fail:=rfl
@[simp] theorem afQ {x:IX} {env:Env} {s:St}:aop glob call cx env s (.nilchk x)=match rd glob env x with
  | some (.ip cs)=>.ok (.v (.ip cs)) env s
  | some (.pt l o)=>.ok (.v (.pt l o)) env s
  | _=>.fail:=rfl
@[simp] theorem agV {x:IX} {env:Env} {s:St}:aop glob call cx env s (.panic x)=match esc glob env x with
  | some (.ifc t a,_)=>.pan (.ifc t a) s
  | _=>.fail:=rfl
attribute [simp] sD ev rd lk put jY esc Kz AB EQ Yd Vx U1 aei EV.owns EV.refers EV.isRef vU Fe finish E5 lq part oQ addr bound nN vP splice uz
@[simp] theorem air {env:Env} {s:St} {a:AV}:okv env s (some a)=.ok (.v a) env s:=rfl
@[simp] theorem ais {env:Env} {s:St}:okv env s none=.fail:=rfl
@[simp] theorem ajE {p:Prop} [Decidable p] {env:Env} {s:St} {a b:Option AV}:okv env s (if p then a else b)=if p then okv env s a else okv env s b:=by split<;>rfl
theorem ak {body:Env→St→Out} {keep:List Nat} {env:Env} {s:St} {o:Out} (h:∀K,K=eX body keep→(body (jY env keep) s).thn K=o):eX body keep env s=o:=by
 rw [JU];exact h _ rfl
theorem DI {body:Env→St→Out} {l:Nat} {keep:List Nat} {env:Env} {s:St} {o:Out} (h:∀K,K=Ah body l keep→(body (jY env keep) s).jmp l K=o):Ah body l keep env s=o:=by
 rw [BZ];exact h _ rfl
@[simp] theorem akY (a b:Int):(a == b)=decide (a=b):=by by_cases h:a=b<;>simp [h]
@[simp] theorem akW (a b:Int):(a != b)=!decide (a=b):=by by_cases h:a=b<;>simp [h]
@[simp] theorem akX (a b:List UInt8):(a == b)=decide (a=b):=by by_cases h:a=b<;>simp [h]
@[simp] theorem akO {k:IntKind} {n:Int}:(AV.i k n).one=true:=rfl
@[simp] theorem akP {x:Bool}:(AV.b x).one=true:=rfl
@[simp] theorem akN {l:List UInt8}:(AV.s l).one=true:=rfl
@[simp] theorem aj7 {l:List AV}:(AV.sl l).one=true:=rfl
@[simp] theorem akh {l:List AV}:(AV.ip l).one=true:=rfl
@[simp] theorem aki {l:List (AV×AV)}:(AV.im l).one=true:=rfl
@[simp] theorem aj9 {l o:Nat}:(AV.pt l o).one=true:=rfl
@[simp] theorem akg {l:Nat}:(AV.mp l).one=true:=rfl
@[simp] theorem aj3 {l:Nat}:(AV.yl l).one=true:=rfl
@[simp] theorem akj {f:Fn} {as cs:List AV}:(AV.fn f as cs).one=true:=rfl
@[simp] theorem ajD {t:Nat} {v:AV}:(AV.ifc t v).one=true:=rfl
@[simp] theorem aj8 {l ver sz o n:Nat}:(AV.sk l ver sz o n).one=true:=rfl
@[simp] theorem aiQ {l ver sz o n:Nat}:(AV.sk l ver sz o n).cells=[.sk l ver sz o n]:=rfl
@[simp] theorem aj6 {l:Nat} {es:List AV}:(AV.st l es).one=true:=rfl
@[simp] theorem akc:AV.np.one=true:=rfl
@[simp] theorem akd:AV.nm.one=true:=rfl
@[simp] theorem akb:AV.ns.one=true:=rfl
@[simp] theorem akf:AV.nf.one=true:=rfl
@[simp] theorem ake:AV.ni.one=true:=rfl
@[simp] theorem ajQ {k:IntKind} {n:Int}:(AV.i k n).cells=[.i k n]:=rfl
@[simp] theorem ajR {x:Bool}:(AV.b x).cells=[.b x]:=rfl
@[simp] theorem ajP {l:List UInt8}:(AV.s l).cells=[.s l]:=rfl
@[simp] theorem aiP {l:List AV}:(AV.sl l).cells=[.sl l]:=rfl
@[simp] theorem aiY {l:List AV}:(AV.ip l).cells=[.ip l]:=rfl
@[simp] theorem aiZ {l:List (AV×AV)}:(AV.im l).cells=[.im l]:=rfl
@[simp] theorem aiR {l o:Nat}:(AV.pt l o).cells=[.pt l o]:=rfl
@[simp] theorem aiX {l:Nat}:(AV.mp l).cells=[.mp l]:=rfl
@[simp] theorem aiN {l:Nat}:(AV.yl l).cells=[.yl l]:=rfl
@[simp] theorem ai0 {f:Fn} {as cs:List AV}:(AV.fn f as cs).cells=[.fn f as cs]:=rfl
@[simp] theorem ahn {t:Nat} {v:AV}:(AV.ifc t v).cells=[.ifc t v]:=rfl
@[simp] theorem ai1 {l:List AV}:(AV.ag l).cells=l:=rfl
@[simp] theorem aiO {l:Nat} {es:List AV}:(AV.st l es).cells=[.st l es]:=rfl
@[simp] theorem aiT:AV.np.cells=[.np]:=rfl
@[simp] theorem aiU:AV.nm.cells=[.nm]:=rfl
@[simp] theorem aiS:AV.ns.cells=[.ns]:=rfl
@[simp] theorem aiW:AV.nf.cells=[.nf]:=rfl
@[simp] theorem aiV:AV.ni.cells=[.ni]:=rfl
@[simp] theorem akD {k:IntKind} {n:Int}:(AV.i k n).flat=true:=rfl
@[simp] theorem akE {x:Bool}:(AV.b x).flat=true:=rfl
@[simp] theorem akC {l:List UInt8}:(AV.s l).flat=true:=rfl
@[simp] theorem agJ {body:aS} {l:Nat} {env:Env} {s1:St}:yD glob call cx body l (.norm env s1)=match s1[l]? with
  | some (.loop e1 p1 a1 b1 .ready)=>KA l (aC glob call cx true body env (s1.set l (.loop e1 p1 a1 b1 .busy)))
  | _=>.fail:=rfl
@[simp] theorem aeK {l:Nat} {env:Env} {s2:St}:KA l (.norm env s2)=ug s2 l .ready true:=rfl
@[simp] theorem afq {l:Nat} {env:Env} {s2:St}:KA l (.ret env s2)=ug s2 l .ret false:=rfl
@[simp] theorem aeL {l id:Nat} {env:Env} {s2:St}:KA l (.exit id env s2)=ug s2 l (.exit id) false:=rfl
@[simp] theorem ahe {pure keep:Bool} {s s1:St} {res:List RV} {env:Env}:endW glob pure keep s res (.norm env s1)=match vU glob env s1 res with
  | some rs=>finish pure keep s s1 (Fe rs)
  | none=>.fail:=rfl
@[simp] theorem aiJ {pure keep:Bool} {s s1:St} {res:List RV} {v:AV}:endW glob pure keep s res (.pan v s1)=(finish pure keep s s1 v).toPan:=rfl
@[simp] theorem aiI {pure keep:Bool} {s s1:St} {res:List RV} {env:Env}:endW glob pure keep s res (.ret env s1)=match vU glob env s1 res with
  | some rs=>finish pure keep s s1 (Fe rs)
  | none=>.fail:=rfl
end
end Go.Ai
