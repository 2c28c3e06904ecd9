/-
 Rules for running the interpreter on symbolic values.
-/
import Derived.Test.YtdjjghikaijfpaaGreatDoorAiB1
set_option maxRecDepth 100000
set_option linter.unusedSimpArgs false
set_option linter.unusedVariables false
set_option linter.unusedSectionVars false
namespace Go.Ai
@[simp] theorem ajB {env:Env} {s:St} {f:Env→St→Out}:(Out.norm env s).thn f=f env s:=rfl
@[simp] theorem alv {env:Env} {s:St} {f:Env→St→Out}:(Out.ret env s).thn f=.ret env s:=rfl
@[simp] theorem ajE {id:Nat} {env:Env} {s:St} {f:Env→St→Out}:(Out.exit id env s).thn f=.exit id env s:=rfl
@[simp] theorem ajD {f:Env→St→Out}:(Out.fail).thn f=.fail:=rfl
@[simp] theorem aic {env:Env} {s:St} {k:Out}:(Out.norm env s).orPan k=.norm env s:=rfl
@[simp] theorem aid {k:Out}:(Out.fail).orPan k=.fail:=rfl
@[simp] theorem ai7 {v:AV} {s:St} {k:Out}:(Out.pan v s).orPan k=k:=rfl
@[simp] theorem aiQ {r:AV} {s:St}:(CO.ret r s).toPan=.pan r s:=rfl
@[simp] theorem ahJ:(CO.fail).toPan=.fail:=rfl
@[simp] theorem amf {id:Nat} {v:AV} {s:St}:(Out.pan v s).blk id=.pan v s:=rfl
@[simp] theorem al4 {l:Nat} {v:AV} {s:St} {f:Env→St→Out}:(Out.pan v s).jmp l f=.pan v s:=rfl
@[simp] theorem alx {v:AV} {s:St} {f:Env→St→Out}:(Out.pan v s).thn f=.pan v s:=rfl
@[simp] theorem ajC {l:Nat} {env:Env} {s:St} {f:Env→St→Out}:(Out.goto l env s).thn f=.goto l env s:=rfl
@[simp] theorem alk {id l:Nat} {env:Env} {s:St}:(Out.goto l env s).blk id=.goto l env s:=rfl
@[simp] theorem akI {l:Nat} {env:Env} {s:St} {f:Env→St→Out}:(Out.norm env s).jmp l f=.norm env s:=rfl
@[simp] theorem al3 {l:Nat} {env:Env} {s:St} {f:Env→St→Out}:(Out.ret env s).jmp l f=.ret env s:=rfl
@[simp] theorem akL {l id:Nat} {env:Env} {s:St} {f:Env→St→Out}:(Out.exit id env s).jmp l f=.exit id env s:=rfl
@[simp] theorem akK {l:Nat} {f:Env→St→Out}:(Out.fail).jmp l f=.fail:=rfl
@[simp] theorem akJ {l l':Nat} {env:Env} {s:St} {f:Env→St→Out}:(Out.goto l' env s).jmp l f=if l'=l then f env s else .fail:=rfl
@[simp] theorem alj {id:Nat} {env:Env} {s:St}:(Out.norm env s).blk id=.norm env s:=rfl
@[simp] theorem ame {id:Nat} {env:Env} {s:St}:(Out.ret env s).blk id=.ret env s:=rfl
@[simp] theorem aln {id id':Nat} {env:Env} {s:St}:(Out.exit id' env s).blk id=if id'=id then .norm env s else .exit id' env s:=rfl
@[simp] theorem alm {id:Nat}:(Out.fail).blk id=.fail:=rfl
def RO.fin (o:RO) (dst:Option Nat):Out:=
 match o with
 | .fail=>.fail
 | .pan v s=>.pan v s
 | .ok e env s=>match dst with
  | some d=>if e.refers d=true then .fail else .norm (put env d e) s
  | none=>.norm env s
@[simp] theorem ama {e:EV} {env:Env} {s:St} {d:Nat}:(RO.ok e env s).fin (some d)=if e.refers d=true then .fail else .norm (put env d e) s:=rfl
@[simp] theorem anc {e:EV} {env:Env} {s:St}:(RO.ok e env s).fin none=.norm env s:=rfl
@[simp] theorem al9 {v:AV} {s:St} {d:Option Nat}:(RO.pan v s).fin d=.pan v s:=rfl
@[simp] theorem akU {d:Option Nat}:(RO.fail).fin d=.fail:=rfl
def PG (dst:Option Nat) (env:Env) (s:St):Out:=
 match dst with
 | some d=>.norm (put env d (.v (.tu []))) s
 | none=>.norm env s
@[simp] theorem ahV {d:Nat} {env:Env} {s:St}:PG (some d) env s=.norm (put env d (.v (.tu []))) s:=rfl
@[simp] theorem ahW {env:Env} {s:St}:PG none env s=.norm env s:=rfl
def ahl (ks:List Nat) (env:Env) (s:St):Out:=.norm (fJ env ks) s
@[simp] theorem akH {ks:List Nat} {env:Env} {s:St}:ahl ks env s=.norm (fJ env ks) s:=rfl
section
variable (glob:Nat→Option (List AV)) (call:AV→List AV→St→Ctx→CO) (cx:Ctx)
def opT (dst:Option Nat) (op:AOp) (env:Env) (s:St):Out:=(aop glob call cx env s op).fin dst
def opF (dst:Option Nat) (env:Env) (s:St):Out:=PG dst env s
def gdD (x:Option EV) (w:Bool) (dst:Option Nat) (op:AOp) (env:Env) (s:St):Out:=
 match x with
 | some (.v (.b x))=>if x=true then (match w with|true=>opT glob call cx dst op env s|false=>opF dst env s) else (match w with|true=>opF dst env s|false=>opT glob call cx dst op env s)
 | some (.v (.tu []))=>PG dst env s
 | _=>.fail
noncomputable def cdT (ro:Bool) (a:aC) (env:Env) (s:St):Out:=ay glob call cx ro a env s
noncomputable def aaO (ro:Bool) (x:Option AV) (a b:aC) (env:Env) (s:St):Out:=
 match x with
 | some (.b x)=>if x=true then cdT glob call cx ro a env s else cdT glob call cx ro b env s
 | _=>.fail
end
section
variable {glob:Nat→Option (List AV)} {call:AV→List AV→St→Ctx→CO} {cx:Ctx} {ro:Bool}
theorem dG {dst:Option Nat} {op:AOp} {env:Env} {s:St}:opT glob call cx dst op env s=(aop glob call cx env s op).fin dst:=rfl
theorem dH {dst:Option Nat} {env:Env} {s:St}:opF dst env s=PG dst env s:=rfl
theorem dI {a:aC} {env:Env} {s:St}:cdT glob call cx ro a env s=ay glob call cx ro a env s:=rfl
@[simp] theorem am3 {x:Bool} {dst:Option Nat} {op:AOp} {env:Env} {s:St}:
  gdD glob call cx (some (.v (.b x))) true dst op env s=if x=true then opT glob call cx dst op env s else opF dst env s:=rfl
@[simp] theorem am4 {x:Bool} {dst:Option Nat} {op:AOp} {env:Env} {s:St}:
  gdD glob call cx (some (.v (.b x))) false dst op env s=if x=true then opF dst env s else opT glob call cx dst op env s:=rfl
@[simp high] theorem am1 {dst:Option Nat} {op:AOp} {env:Env} {s:St}:gdD glob call cx (some (.v (.b true))) true dst op env s=(aop glob call cx env s op).fin dst:=rfl
@[simp high] theorem am8 {dst:Option Nat} {op:AOp} {env:Env} {s:St}:gdD glob call cx (some (.v (.b false))) false dst op env s=(aop glob call cx env s op).fin dst:=rfl
@[simp high] theorem am2 {dst:Option Nat} {op:AOp} {env:Env} {s:St}:gdD glob call cx (some (.v (.b true))) false dst op env s=PG dst env s:=rfl
@[simp high] theorem am7 {dst:Option Nat} {op:AOp} {env:Env} {s:St}:gdD glob call cx (some (.v (.b false))) true dst op env s=PG dst env s:=rfl
@[simp] theorem am0 {w:Bool} {dst:Option Nat} {op:AOp} {env:Env} {s:St}:gdD glob call cx (some (.v (.tu []))) w dst op env s=PG dst env s:=rfl
@[simp high] theorem am5 {x:Bool} {dst:Option Nat} {op:AOp} {env:Env} {s:St}:
  gdD glob call cx (some (.v (.b (!x)))) true dst op env s=gdD glob call cx (some (.v (.b x))) false dst op env s:=by cases x<;>rfl
@[simp high] theorem am6 {x:Bool} {dst:Option Nat} {op:AOp} {env:Env} {s:St}:
  gdD glob call cx (some (.v (.b (!x)))) false dst op env s=gdD glob call cx (some (.v (.b x))) true dst op env s:=by cases x<;>rfl
@[simp high] theorem ak1 {x:Bool} {a b:aC} {env:Env} {s:St}:
  aaO glob call cx ro (some (.b (!x))) a b env s=aaO glob call cx ro (some (.b x)) b a env s:=by cases x<;>rfl
@[simp] theorem ajm {x:Bool} {a b:aC} {env:Env} {s:St}:
  aaO glob call cx ro (some (.b x)) a b env s=if x=true then cdT glob call cx ro a env s else cdT glob call cx ro b env s:=rfl
@[simp high] theorem ajl {a b:aC} {env:Env} {s:St}:aaO glob call cx ro (some (.b true)) a b env s=ay glob call cx ro a env s:=rfl
@[simp high] theorem ait {a b:aC} {env:Env} {s:St}:aaO glob call cx ro (some (.b false)) a b env s=ay glob call cx ro b env s:=rfl
@[simp] theorem aam {dst:Option Nat} {op:AOp} {env:Env} {s:St}:
  dQ glob call cx ⟨dst,none,op⟩ env s=(aop glob call cx env s op).fin dst:=by
 simp only [dQ,dh]
 cases aop glob call cx env s op<;>rfl
@[simp] theorem aal {dst:Option Nat} {op:AOp} {k:Nat} {w:Bool} {env:Env} {s:St}:
  dQ glob call cx ⟨dst,some (k,w),op⟩ env s=gdD glob call cx (lk env k) w dst op env s:=by
 simp only [dQ,dh]
 cases h:lk env k with
 | none=>rfl
 | some e=>
  cases e with
  | v a=>
   cases a with
   | b x=>
    cases x<;>cases w<;>first|rfl | (simp only [gdD,opT];cases aop glob call cx env s op<;>rfl)
   | tu cs=>cases cs<;>rfl
   | _=>rfl
  | _=>rfl
@[simp] theorem ahY {env:Env} {s:St}:lm glob call cx [] env s=.norm env s:=rfl
@[simp] theorem ahd {o:aG} {r:List aG} {env:Env} {s:St}:lm glob call cx (o::r) env s=(dQ glob call cx o env s).thn (lm glob call cx r):=by
 simp only [lm];cases dQ glob call cx o env s<;>rfl
@[simp] theorem ahx {env:Env} {s:St}:ay glob call cx ro .skip env s=.norm env s:=by simp [ay]
@[simp] theorem aiL {env:Env} {s:St}:ay glob call cx ro .ret env s=.ret env s:=by simp [ay]
@[simp] theorem ahA {id:Nat} {env:Env} {s:St}:ay glob call cx ro (.exit id) env s=.exit id env s:=by simp [ay]
@[simp] theorem afS {ops:List aG} {ord:Option (List Nat×List Nat)} {keep:List Nat} {env:Env} {s:St}:
  ay glob call cx ro (.region ops ord keep) env s=(qW glob call cx ops env s ord).thn (ahl keep):=by simp only [ay];rfl
@[simp] theorem aiK {a b:aC} {env:Env} {s:St}:ay glob call cx ro (.seq a b) env s=(ay glob call cx ro a env s).thn (ay glob call cx ro b):=by simp only [ay]
@[simp] theorem ahB {c:IX} {a b:aC} {env:Env} {s:St}:ay glob call cx ro (.cond c a b) env s=aaO glob call cx ro (rd glob env c) a b env s:=by
 simp only [ay,agK,aaO,cdT];cases h:rd glob env c with
 | none=>rfl
 | some a=>cases a<;>rfl
@[simp] theorem ag3 {id:Nat} {b:aC} {env:Env} {s:St}:ay glob call cx ro (.block id b) env s=(ay glob call cx ro b env s).blk id:=by simp only [ay]
@[simp] theorem ahy {keep:List Nat} {b:aC} {env:Env} {s:St}:ay glob call cx ro (.loop keep b) env s=bF (ay glob call cx ro b) keep env s:=by simp only [ay]
@[simp] theorem ag1 {f:IX} {ps:List Nat} {asg body:aC} {env:Env} {s:St}:ay glob call cx false (.range f ps asg body) env s=Oh (rd glob env f) call cx ps asg body env s:=by simp [ay]
@[simp] theorem ag2 {l:Nat} {env:Env} {s:St}:ay glob call cx ro (.label l) env s=.norm env s:=by simp only [ay]
@[simp] theorem ahz {l:Nat} {env:Env} {s:St}:ay glob call cx ro (.goto l) env s=.goto l env s:=by simp only [ay]
@[simp] theorem ag0 {l:Nat} {keep:List Nat} {a b:aC} {env:Env} {s:St}:ay glob call cx ro (.scope l keep a b) env s=(ay glob call cx ro a env s).jmp l (Bh (ay glob call cx ro b) l keep):=by simp only [ay]
@[simp] theorem alD {x:IX} {env:Env} {s:St}:aop glob call cx env s (.mov x)=match ev glob env x,x with
  | some (.om es),.t k=>.ok (.v (.im es)) ((k,.v (.im es))::(k,.v .u)::mX env k) s
  | _,_=>match Gv glob env x with
   | some e=>.ok e env s
   | none=>.fail:=rfl
@[simp] theorem alQ {x:IX} {env:Env} {s:St}:aop glob call cx env s (.asg x)=match ev glob env x,x with
  | some (.own tip t sz es),.t k=>.ok (.own tip t sz es) ((k,.v .u)::mX env k) s
  | _,_=>match Q7 glob env x with
   | some (a,env)=>.ok (.v a) env s
   | none=>match Gv glob env x with
    | some e=>.ok e env s
    | none=>.fail:=rfl
@[simp] theorem alK {x:IX} {env:Env} {s:St}:aop glob call cx env s (.cpy x)=match esc glob env x with
  | some (a,env)=>.ok (.v a) env s
  | none=>.fail:=rfl
@[simp] theorem ajL {t:Nat} {sz:Nat} {env:Env} {s:St}:aop glob call cx env s (.nbuf t sz)=if 0<sz then .ok (.own false t sz []) env s else .fail:=rfl
@[simp] theorem ajK {c:IX} {a:IX} {b:IX} {env:Env} {s:St}:aop glob call cx env s (.pick c a b)=match rd glob env c with
  | some (.b x)=>okv env s (rd glob env (if x then a else b))
  | _=>.fail:=rfl
@[simp] theorem ajV {x:IX} {env:Env} {s:St}:aop glob call cx env s (.lbox x)=match esc glob env x with
  | some (a,env)=>if a.cells.all AV.one then .ok (.bx a.cells) env s else .fail
  | none=>.fail:=rfl
@[simp] theorem ahQ {zs:List AV} {env:Env} {s:St}:aop glob call cx env s (.lalloc zs)=.ok (.bx zs) env s:=rfl
@[simp] theorem aj2 {x:IX} {env:Env} {s:St}:aop glob call cx env s (.hbox x)=match esc glob env x with
  | some (a,env)=>if a.cells.all AV.one then .ok (.v (.pt s.length 0)) env (s++[.cells a.cells]) else .fail
  | none=>.fail:=rfl
@[simp] theorem ahR {zs:List AV} {env:Env} {s:St}:aop glob call cx env s (.halloc zs)=.ok (.v (.pt s.length 0)) env (s++[.cells zs]):=rfl
@[simp] theorem ajQ {n:Option Nat} {a:IX} {env:Env} {s:St}:aop glob call cx env s (.load n a)=okv env s (iU glob env s n a):=rfl
@[simp] theorem aiX {d:Nat} {n:Option Nat} {a:IX} {env:Env} {s:St}:aop glob call cx env s (.loadp d n a)=match lk env d,ev glob env a with
  | none,some (.v _)=>okv env s (iU glob env s n a)
  | _,_=>.fail:=rfl
@[simp] theorem aiS {n:Nat} {a:IX} {x:IX} {env:Env} {s:St}:aop glob call cx env s (.store n a x)=match Q7 glob env x with
  | some (v,env)=>match wo glob cx env s n a v with
   | some (env,s)=>.ok (.v (.tu [])) env s
   | none=>.fail
  | none=>.fail:=rfl
@[simp] theorem alI {off:Nat} {a:IX} {env:Env} {s:St}:aop glob call cx env s (.fld off a)=match addr glob env off a with
  | some e=>.ok e env s
  | none=>.fail:=rfl
@[simp] theorem ajY {len:Nat} {sz:Nat} {x:IX} {i:IX} {env:Env} {s:St}:aop glob call cx env s (.idxa len sz x i)=match rd glob env i with
  | some (.i _ n)=>if 0≤n∧n.toNat<len then
    (match addr glob env (n.toNat * sz) x with
     | some e=>.ok e env s
     | none=>.fail) else .fail
  | _=>.fail:=rfl
@[simp] theorem aj3 {off:Nat} {n:Option Nat} {x:IX} {env:Env} {s:St}:aop glob call cx env s (.getf off n x)=match rd glob env x with
  | some (.ag cs)=>okv env s (part cs off n)
  | _=>.fail:=rfl
@[simp] theorem ajW {len:Nat} {sz:Nat} {n:Option Nat} {x:IX} {i:IX} {env:Env} {s:St}:aop glob call cx env s (.idxv len sz n x i)=match rd glob env x,rd glob env i with
  | some (.ag cs),some (.i _ j)=>if 0≤j∧j.toNat<len then okv env s (part cs (j.toNat * sz) n) else .fail
  | _,_=>.fail:=rfl
@[simp] theorem ajX {x:IX} {i:IX} {env:Env} {s:St}:aop glob call cx env s (.idxs x i)=match rd glob env x,rd glob env i with
  | some (.s l),some (.i _ j)=>match l[j.toNat]? with
   | some c=>if 0≤j then .ok (.v (.i .u8 c.toNat)) env s else .fail
   | none=>.fail
  | _,_=>.fail:=rfl
@[simp] theorem alN {op:BinOp} {x:IX} {y:IX} {env:Env} {s:St}:aop glob call cx env s (.bin op x y)=match rd glob env x,rd glob env y with
  | some a,some b=>okv env s (ZK op a b)
  | _,_=>.fail:=rfl
@[simp] theorem alO {neg:Bool} {x:IX} {y:IX} {env:Env} {s:St}:aop glob call cx env s (.beq neg x y)=match rd glob env x,rd glob env y with
  | some (.b a),some (.b b)=>.ok (.v (.b (if neg then !(a == b) else a == b))) env s
  | _,_=>.fail:=rfl
@[simp] theorem alG {neg:Bool} {ks:List Nat} {x:IX} {y:IX} {env:Env} {s:St}:aop glob call cx env s (.ieq neg ks x y)=match rd glob env x,rd glob env y with
  | some (.ag a),some (.ag b)=>match wE ks a b with
   | some r=>.ok (.v (.b (if neg then !r else r))) env s
   | none=>.fail
  | _,_=>.fail:=rfl
@[simp] theorem aiU {neg:Bool} {k:Nat} {x:IX} {env:Env} {s:St}:aop glob call cx env s (.nileq neg k x)=match rd glob env x with
  | some a=>match Xw k a with
   | some n=>.ok (.v (.b (if neg then !n else n))) env s
   | none=>.fail
  | none=>.fail:=rfl
@[simp] theorem ami {op:UnOp} {x:IX} {env:Env} {s:St}:aop glob call cx env s (.un op x)=match rd glob env x with
  | some a=>okv env s (afW op a)
  | _=>.fail:=rfl
@[simp] theorem aiR {k:IntKind} {x:IX} {env:Env} {s:St}:aop glob call cx env s (.toInt k x)=match rd glob env x with
  | some (.i _ n)=>.ok (.v (.i k (k.wrap n))) env s
  | _=>.fail:=rfl
@[simp] theorem alC {x:IX} {env:Env} {s:St}:aop glob call cx env s (.s2b x)=match rd glob env x with
  | some (.s l)=>.ok (.v (.sl (ai l))) env s
  | _=>.fail:=rfl
@[simp] theorem alP {x:IX} {env:Env} {s:St}:aop glob call cx env s (.b2s x)=match elems glob env x with
  | some es=>okv env s ((es.mapM byteOf).map .s)
  | none=>.fail:=rfl
@[simp] theorem ajJ {x:IX} {env:Env} {s:St}:aop glob call cx env s (.same x)=match rd glob env x with
  | some (.s l)=>.ok (.v (.s l)) env s
  | _=>.fail:=rfl
@[simp] theorem aiW {x:IX} {env:Env} {s:St}:aop glob call cx env s (.markk x)=match x with
  | .t k=>match lk env k with
   | some (.own _ t sz es)=>if 0<es.length then .ok (.al k) ((k,.own true t sz es)::env) s else .fail
   | _=>.fail
  | _=>.fail:=rfl
@[simp] theorem ajO {x:IX} {env:Env} {s:St}:aop glob call cx env s (.mark x)=match x with
  | .t k=>match lk env k with
   | some (.own _ _ _ es)=>if 0<es.length then .ok (.v (.sl es)) ((k,.v .u)::mX env k) s else .fail
   | _=>.fail
  | _=>.fail:=rfl
@[simp] theorem ai0 {zs:List AV} {ps:List (Nat×Nat×IX)} {env:Env} {s:St}:aop glob call cx env s (.build zs ps)=match zT glob env (ps.map (·.2.2)) with
  | some (vs,env)=>
   if (ps.zip vs).all (fun p=>p.2.cells.length == p.1.2.1 && p.2.cells.all AV.one) then
    okv env s ((iI zs ((ps.zip vs).map fun p=>(p.1.1,p.2.cells))).map .ag) else .fail
  | none=>.fail:=rfl
@[simp] theorem alL {own:Bool} {t:Nat} {sz:Nat} {len:Nat} {zs:List AV} {ps:List (Nat×IX)} {env:Env} {s:St}:aop glob call cx env s (.bsl own t sz len zs ps)=match zT glob env (ps.map (·.2)) with
  | some (vs,env)=>
   if len * sz≤16777216∧ps.map (·.1)=List.range len∧vs.all (fun v=>v.cells.length == sz && v.cells.all AV.one)∧zs.length=sz then
    (if own then (if 0<sz then .ok (.own false t sz vs) env s else .fail) else .ok (.v (.sl vs)) env s) else .fail
  | none=>.fail:=rfl
@[simp] theorem alR {t:Nat} {sz:Nat} {x:IX} {y:IX} {env:Env} {s:St}:aop glob call cx env s (.app t sz x y)=match elems glob env y,jd env x with
  | some ys,some k=>match lk env k with
   | some (.own tip t' sz' es)=>
    if t=t'∧sz=sz'∧(ys.all fun e=>e.cells.length == sz)∧es.length+ys.length≤aW∧jd env y≠some k then
     .ok (.own tip t sz (es++ys)) ((k,.v .u)::mX env k) s else .fail
   | _=>.fail
  | some ys,none=>match rd glob env x with
   | some .ns=>if 0<sz∧(ys.all fun e=>e.cells.length == sz)∧ys.length≤aW then .ok (.own false t sz ys) env s else .fail
   | _=>.fail
  | _,_=>.fail:=rfl
@[simp] theorem akd {t:Nat} {x:IX} {y:IX} {env:Env} {s:St}:aop glob call cx env s (.apps t x y)=match rd glob env y,jd env x with
  | some (.s l),some k=>match lk env k with
   | some (.own tip t' sz' es)=>if t=t'∧sz'=1∧es.length+l.length≤aW then .ok (.own tip t 1 (es++ai l)) ((k,.v .u)::mX env k) s else .fail
   | _=>.fail
  | _,_=>.fail:=rfl
@[simp] theorem ake {t:Nat} {sz:Nat} {x:IX} {y:IX} {env:Env} {s:St}:aop glob call cx env s (.appr t sz x y)=match elems glob env y,ev glob env x with
  | some ys,some (.v .ns)=>
   if 0<sz∧0<ys.length∧(ys.all fun e=>e.cells.length == sz)∧ys.length≤aW then .ok (.v (.st s.length ys)) env (s++[.row t sz ys.length]) else .fail
  | some ys,some (.v .se)=>
   if 0<sz∧0<ys.length∧(ys.all fun e=>e.cells.length == sz)∧ys.length≤aW then .ok (.v (.st s.length ys)) env (s++[.row t sz ys.length]) else .fail
  | some ys,some (.v (.st l es))=>match s[l]? with
   | some (.row t' sz' k)=>
    if t=t'∧sz=sz'∧k=es.length∧0<sz∧0<ys.length∧(ys.all fun e=>e.cells.length == sz)∧(es.all fun e=>e.cells.length == sz)∧es.length+ys.length≤aW∧cx.lim≤l then
     .ok (.v (.st l (es++ys))) env (s.set l (.row t sz (es.length+ys.length))) else .fail
   | _=>.fail
  | _,_=>.fail:=rfl
@[simp] theorem ai1 {d:Nat} {t:Nat} {sz:Nat} {x:IX} {y:IX} {env:Env} {s:St}:aop glob call cx env s (.apprp d t sz x y)=match lk env d with
  | some _=>.fail
  | none=>match elems glob env y,ev glob env x with
   | some ys,some (.v .ns)=>
    if 0<sz∧0<ys.length∧(ys.all fun e=>e.cells.length == sz)∧ys.length≤aW then .ok (.v (.st s.length ys)) env (s++[.row t sz ys.length]) else if ys.length=0 then .ok (.v .ns) env s else .fail
   | some ys,some (.v .se)=>
    if 0<sz∧0<ys.length∧(ys.all fun e=>e.cells.length == sz)∧ys.length≤aW then .ok (.v (.st s.length ys)) env (s++[.row t sz ys.length]) else if ys.length=0 then .ok (.v .se) env s else .fail
   | some ys,some (.v (.st l es))=>match s[l]? with
    | some (.row t' sz' k)=>
     if t=t'∧sz=sz'∧k=es.length∧0<sz∧0<ys.length∧(ys.all fun e=>e.cells.length == sz)∧(es.all fun e=>e.cells.length == sz)∧es.length+ys.length≤aW∧cx.lim≤l then
      .ok (.v (.st l (es++ys))) env (s.set l (.row t sz (es.length+ys.length))) else if ys.length=0 then .ok (.v (.st l es)) env s else .fail
    | _=>.fail
   | _,_=>.fail:=rfl
@[simp] theorem akf {t:Nat} {sz:Nat} {x:IX} {y:IX} {env:Env} {s:St}:aop glob call cx env s (.appk t sz x y)=match elems glob env y,ev glob env x with
  | some ys,some (.v .ns)=>
   if 0<sz∧0<ys.length∧(ys.all fun e=>e.cells.length == sz)∧ys.length≤aW then .ok (.v (.sk s.length 0 sz 0 ys.length)) env (s++[.buf t sz 0 (ys.flatMap AV.cells)]) else .fail
  | some ys,some (.v .se)=>
   if 0<sz∧0<ys.length∧(ys.all fun e=>e.cells.length == sz)∧ys.length≤aW then .ok (.v (.sk s.length 0 sz 0 ys.length)) env (s++[.buf t sz 0 (ys.flatMap AV.cells)]) else .fail
  | some ys,some (.v (.sk l ver sz2 o m))=>match s[l]? with
   | some (.buf t' sz' ver' cs)=>
    if t=t'∧sz=sz'∧sz2=sz∧ver=ver'∧0<ys.length∧(ys.all fun e=>e.cells.length == sz)∧m+ys.length≤aW∧o+m * sz≤cs.length∧cx.lim≤l∧(cx.base≤l∨(ys.flatMap AV.cells).all AV.flat=true) then
     .ok (.v (.sk l (ver+1) sz 0 (m+ys.length))) env (s.set l (.buf t sz (ver+1) ((cs.drop o).take (m * sz)++ys.flatMap AV.cells))) else .fail
   | _=>.fail
  | _,_=>.fail:=rfl
@[simp] theorem akb {t:Nat} {sz:Nat} {zs:List AV} {x:IX} {y:IX} {env:Env} {s:St}:aop glob call cx env s (.appz t sz zs x y)=match ev glob env x,rd glob env y with
  | some (.v .ns),some (.i .i64 n)=>if 0<sz∧zs.length=sz∧0<n∧n.toNat≤16777216 then .ok (.v (.sk s.length 0 sz 0 n.toNat)) env (s++[.buf t sz 0 (List.replicate n.toNat zs).flatten]) else .fail
  | _,_=>.fail:=rfl
@[simp] theorem aj7 {x:IX} {env:Env} {s:St}:aop glob call cx env s (.capn x)=match ev glob env x with
  | some (.v .ns)=>.ok (.v (.i .i64 0)) env s
  | _=>.fail:=rfl
@[simp] theorem akg {t:Nat} {sz:Nat} {x:IX} {y:IX} {env:Env} {s:St}:aop glob call cx env s (.appe t sz x y)=match elems glob env y with
  | some []=>(match ev glob env x with
   | some (.v .ns)=>.ok (.v .ns) env s
   | some (.v (.sk l ver sz2 o m))=>.ok (.v (.sk l ver sz2 o m)) env s
   | _=>.fail)
  | _=>aop glob call cx env s (.appk t sz x y):=rfl
@[simp] theorem alE {t:Nat} {sz:Nat} {zs:List AV} {x:IX} {env:Env} {s:St}:aop glob call cx env s (.mks t sz zs x)=match rd glob env x with
  | some (.i _ n)=>if 0<sz∧zs.length=sz∧0≤n∧n.toNat≤16777216 then .ok (.v (.sk s.length 0 sz 0 n.toNat)) env (s++[.buf t sz 0 (List.replicate n.toNat zs).flatten]) else .fail
  | _=>.fail:=rfl
@[simp] theorem aj9 {t:Nat} {sz:Nat} {x:IX} {env:Env} {s:St}:aop glob call cx env s (.asgk t sz x)=match ev glob env x,x with
  | some (.own false t' sz' es),.t k=>if t=t'∧sz=sz'∧0<es.length then .ok (.v (.sk s.length 0 sz 0 es.length)) ((k,.v .u)::mX env k) (s++[.buf t sz 0 (es.flatMap AV.cells)]) else .fail
  | _,_=>.fail:=rfl
@[simp] theorem aj6 {zs:List AV} {x:IX} {env:Env} {s:St}:aop glob call cx env s (.clrk zs x)=match rd glob env x with
  | some (.sk l ver sz o m)=>(match m,s[l]? with
   | 0,_=>.ok (.v (.tu [])) env s
   | n+1,some (.buf t sz' ver' cs)=>if ver=ver'∧sz=sz'∧0<sz∧zs.length=sz∧o+(n+1) * sz≤cs.length∧cx.lim≤l∧cx.base≤l then
     .ok (.v (.tu [])) env (s.set l (.buf t sz ver (splice cs o (List.replicate (n+1) zs).flatten))) else .fail
   | _,_=>.fail)
  | _=>.fail:=rfl
@[simp] theorem aiZ {d:Nat} {f:IX} {args:List IX} {env:Env} {s:St}:aop glob call cx env s (.callh d f args)=match lk env d with
  | some _=>.fail
  | none=>match rd glob env f,rds glob env args with
   | some fv,some as=>match call fv as s cx with
    | .ret r s=>.ok (.v r) env s
    | .pan v s=>.pan v s
    | .fail=>.fail
   | _,_=>.fail:=rfl
@[simp] theorem ai2 {t:Nat} {x:IX} {y:IX} {env:Env} {s:St}:aop glob call cx env s (.appks t x y)=match rd glob env y,ev glob env x with
  | some (.s b),some (.v .ns)=>if 0<b.length∧b.length≤aW then .ok (.v (.sk s.length 0 1 0 b.length)) env (s++[.buf t 1 0 (ai b)]) else .fail
  | some (.s b),some (.v (.sk l ver sz2 o m))=>(match s[l]? with
   | some (.buf t' sz' ver' cs)=>if t=t'∧sz'=1∧sz2=1∧ver=ver'∧0<b.length∧m+b.length≤aW∧o+m≤cs.length∧cx.lim≤l then
     .ok (.v (.sk l (ver+1) 1 0 (m+b.length))) env (s.set l (.buf t 1 (ver+1) ((cs.drop o).take m++ai b))) else .fail
   | _=>.fail)
  | _,_=>.fail:=rfl
@[simp] theorem akc {t:Nat} {sz:Nat} {x:IX} {y:IX} {env:Env} {s:St}:aop glob call cx env s (.appv t sz x y)=match Yo glob env s sz y,ev glob env x with
  | some (0,_),some (.v .se)=>.ok (.v .se) env s
  | some (m+1,cs),some (.v .se)=>if 0<sz∧m+1≤aW then .ok (.v (.sk s.length 0 sz 0 (m+1))) env (s++[.buf t sz 0 cs]) else .fail
  | _,_=>.fail:=rfl
@[simp] theorem ahc {d:Nat} {zs:List AV} {env:Env} {s:St}:aop glob call cx env s (.lallocp d zs)=match lk env d with
  | some _=>.fail
  | none=>.ok (.bx zs) env s:=rfl
@[simp] theorem ahM {n:Nat} {a:IX} {x:IX} {env:Env} {s:St}:aop glob call cx env s (.storep n a x)=match ev glob env a,ev glob env x with
  | some (.v av),some (.v xv)=>match wo glob cx env s n a xv with
   | some (_,s)=>.ok (.v (.tu [])) env s
   | none=>.fail
  | _,_=>.fail:=rfl
@[simp] theorem aiY {n:Option Nat} {a:IX} {env:Env} {s:St}:aop glob call cx env s (.loadl n a)=match ev glob env a with
  | some (.bx _)=>okv env s (iU glob env s n a)
  | some (.lp _ _)=>okv env s (iU glob env s n a)
  | some (.v (.ip _))=>okv env s (iU glob env s n a)
  | _=>.fail:=rfl
@[simp] theorem ahN {n k:Nat} {x:IX} {env:Env} {s:St}:aop glob call cx env s (.storel n k x)=match lk env k,ev glob env x with
  | some (.bx cs),some (.v xv)=>if xv.cells.length=n∧n≠0∧xv.cells.all AV.one=true∧n≤cs.length then .ok (.v (.tu [])) ((k,.bx (splice cs 0 xv.cells))::env) s else .fail
  | _,_=>.fail:=rfl
@[simp] theorem ajG {d:Nat} {env:Env} {s:St}:aop glob call cx env s (.umap d)=match lk env d with
  | some _=>.fail
  | none=>.ok (.v (.mp s.length)) env (s++[.umap []]):=rfl
@[simp] theorem ajH {m:IX} {k:IX} {v:IX} {env:Env} {s:St}:aop glob call cx env s (.uins m k v)=match ev glob env m,ev glob env k,ev glob env v with
  | some (.v (.mp l)),some (.v (.s key)),some (.v val)=>match s[l]? with
   | some (.umap es)=>if val.one∧val.flat=true∧cx.lim≤l then .ok (.v (.tu [])) env (s.set l (.umap (Dy key val es))) else .fail
   | _=>.fail
  | _,_,_=>.fail:=rfl
@[simp] theorem alM  {env:Env} {s:St}:aop glob call cx env s (.bse )=.ok (.v .se) env s:=rfl
@[simp] theorem ajU {x:IX} {env:Env} {s:St}:aop glob call cx env s (.len 0 x)=match elems glob env x with
  | some es=>.ok (.v (.i .i64 es.length)) env s
  | none=>match rd glob env x with
   | some (.sk _ _ _ _ m)=>.ok (.v (.i .i64 m)) env s
   | _=>.fail:=rfl
@[simp] theorem ajT {x:IX} {env:Env} {s:St}:aop glob call cx env s (.len 1 x)=match rd glob env x with
  | some (.s l)=>.ok (.v (.i .i64 l.length)) env s
  | _=>.fail:=rfl
@[simp] theorem ajS {x:IX} {env:Env} {s:St}:aop glob call cx env s (.len 2 x)=match rd glob env x with
  | some (.im es)=>.ok (.v (.i .i64 es.length)) env s
  | some (.mp l)=>match s[l]? with
   | some (.map es)=>.ok (.v (.i .i64 es.length)) env s
   | _=>.fail
  | some .nm=>.ok (.v (.i .i64 0)) env s
  | _=>.fail:=rfl
@[simp] theorem ajR {n:Nat} {env:Env} {s:St}:aop glob call cx env s (.lenA n)=.ok (.v (.i .i64 n)) env s:=rfl
@[simp] theorem ahP {isMin:Bool} {x:IX} {y:IX} {env:Env} {s:St}:aop glob call cx env s (.minmax isMin x y)=match rd glob env x,rd glob env y with
  | some (.i k a),some (.i k' b)=>if k=k' then .ok (.v (.i k (if isMin then (if b<a then b else a) else (if b > a then b else a)))) env s else .fail
  | _,_=>.fail:=rfl
@[simp] theorem ajI {x:IX} {lo:Option IX} {hi:Option IX} {env:Env} {s:St}:aop glob call cx env s (.slcs x lo hi)=match rd glob env x with
  | some (.s cs)=>match bound glob env 0 lo,bound glob env cs.length hi with
   | some l,some h=>if l≤h∧h≤cs.length then .ok (.v (.s ((cs.drop l).take (h - l)))) env s else .fail
   | _,_=>.fail
  | _=>.fail:=rfl
@[simp] theorem alJ {x:IX} {i:Nat} {env:Env} {s:St}:aop glob call cx env s (.ext x i)=match rd glob env x with
  | some (.tu cs)=>okv env s (cs[i]?)
  | _=>.fail:=rfl
@[simp] theorem ajN {f:Fn} {as:List IX} {cs:List IX} {env:Env} {s:St}:aop glob call cx env s (.mkfn f as cs)=match zT glob env as with
  | some (vs,env)=>match zT glob env cs with
   | some (ws,env)=>.ok (.v (.fn f vs ws)) env s
   | none=>.fail
  | none=>.fail:=rfl
@[simp] theorem ajM {t:Nat} {x:IX} {env:Env} {s:St}:aop glob call cx env s (.mkif t x)=match esc glob env x with
  | some (a,env)=>.ok (.v (.ifc t a)) env s
  | none=>.fail:=rfl
@[simp] theorem ajP {kk:Nat} {z:AV} {ok:Bool} {m:IX} {k:IX} {env:Env} {s:St}:aop glob call cx env s (.look kk z ok m k)=match rd glob env k with
  | some key=>if 3≤kk∧yP kk key=false then .fail else match (match rd glob env m with
    | some (.im es)=>find kk key es
    | some .nm=>if yP kk key then some none else none
    | some (.mp l)=>match s[l]? with
     | some (.map es)=>find kk key es
     | _=>none
    | _=>none) with
   | some r=>if ok then .ok (.v (.tu [r.getD z,.b r.isSome])) env s else .ok (.v (r.getD z)) env s
   | none=>.fail
  | none=>.fail:=rfl
@[simp] theorem aiV  {env:Env} {s:St}:aop glob call cx env s (.mkmap )=.ok (.om []) env s:=rfl
@[simp] theorem alF {kk:Nat} {m:IX} {k:IX} {v:IX} {env:Env} {s:St}:aop glob call cx env s (.ins kk m k v)=match m,zT glob env [k,v] with
  | .t j,some ([key,val],env)=>match lk env j with
   | some (.om es)=>match find kk key es with
    | some none=>if val.one∧yP kk key then .ok (.v (.tu [])) ((j,.om (es++[(key,val)]))::env) s else .fail
    | _=>.fail
   | _=>.fail
  | _,_=>.fail:=rfl
@[simp] theorem ajZ  {env:Env} {s:St}:aop glob call cx env s (.hmap )=.ok (.v (.mp s.length)) env (s++[.map []]):=rfl
@[simp] theorem aj0 {kk:Nat} {m:IX} {k:IX} {v:IX} {env:Env} {s:St}:aop glob call cx env s (.hins kk m k v)=match rd glob env m,rd glob env k,Q7 glob env v with
  | some (.mp l),some key,some (val,env)=>match s[l]? with
   | some (.map es)=>match D7 kk key val es with
    | some es'=>if val.one∧yP kk key∧cx.lim≤l∧(cx.base≤l∨val.flat=true) then .ok (.v (.tu [])) env (s.set l (.map es')) else .fail
    | none=>.fail
   | _=>.fail
  | _,_,_=>.fail:=rfl
@[simp] theorem aj1 {kk:Nat} {m:IX} {k:IX} {env:Env} {s:St}:aop glob call cx env s (.hdel kk m k)=match rd glob env m,rd glob env k with
  | some (.mp l),some key=>match s[l]? with
   | some (.map es)=>match aay kk key es with
    | some es'=>if yP kk key∧cx.lim≤l then .ok (.v (.tu [])) env (s.set l (.map es')) else .fail
    | none=>.fail
   | _=>.fail
  | _,_=>.fail:=rfl
@[simp] theorem aj8 {f:IX} {args:List IX} {env:Env} {s:St}:aop glob call cx env s (.call f args)=match rd glob env f,zT glob env args with
  | some fv,some (as,env)=>match call fv as s cx with
   | .ret r s=>.ok (.v r) env s
   | .pan v s=>.pan v s
   | .fail=>.fail
  | _,_=>.fail:=rfl
@[simp] theorem ahO {x:IX} {env:Env} {s:St}:aop glob call cx env s (.nilchk x)=match rd glob env x with
  | some (.ip cs)=>.ok (.v (.ip cs)) env s
  | some (.pt l o)=>.ok (.v (.pt l o)) env s
  | _=>.fail:=rfl
@[simp] theorem aiT {x:IX} {env:Env} {s:St}:aop glob call cx env s (.panic x)=match esc glob env x with
  | some (.ifc t a,_)=>.pan (.ifc t a) s
  | _=>.fail:=rfl
attribute [simp] qW ev rd lk put fJ esc Q7 zT rds Gv ZK XD Xc afW EV.owns EV.refers EV.isRef pV vZ finish xP iU part mX addr bound jd wo splice tX
@[simp] theorem akF {env:Env} {s:St} {a:AV}:okv env s (some a)=.ok (.v a) env s:=rfl
@[simp] theorem akG {env:Env} {s:St}:okv env s none=.fail:=rfl
@[simp] theorem al1 {p:Prop} [Decidable p] {env:Env} {s:St} {a b:Option AV}:okv env s (if p then a else b)=if p then okv env s a else okv env s b:=by split<;>rfl
theorem ak {body:Env→St→Out} {keep:List Nat} {env:Env} {s:St} {o:Out} (h:∀K,K=bF body keep→(body (fJ env keep) s).thn K=o):bF body keep env s=o:=by
 rw [D8];exact h _ rfl
theorem EJ {body:Env→St→Out} {l:Nat} {keep:List Nat} {env:Env} {s:St} {o:Out} (h:∀K,K=Bh body l keep→(body (fJ env keep) s).jmp l K=o):Bh body l keep env s=o:=by
 rw [DC];exact h _ rfl
@[simp] theorem anz (a b:Int):(a == b)=decide (a=b):=by by_cases h:a=b<;>simp [h]
@[simp] theorem anw (a b:Int):(a != b)=!decide (a=b):=by by_cases h:a=b<;>simp [h]
@[simp] theorem anx (a b:List UInt8):(a == b)=decide (a=b):=by by_cases h:a=b<;>simp [h]
@[simp] theorem ann {k:IntKind} {n:Int}:(AV.i k n).one=true:=rfl
@[simp] theorem ano {x:Bool}:(AV.b x).one=true:=rfl
@[simp] theorem anm {l:List UInt8}:(AV.s l).one=true:=rfl
@[simp] theorem amz {l:List AV}:(AV.sl l).one=true:=rfl
@[simp] theorem amI {l:List AV}:(AV.ip l).one=true:=rfl
@[simp] theorem amJ {l:List (AV×AV)}:(AV.im l).one=true:=rfl
@[simp] theorem amB {l o:Nat}:(AV.pt l o).one=true:=rfl
@[simp] theorem amH {l:Nat}:(AV.mp l).one=true:=rfl
@[simp] theorem amx {l:Nat}:(AV.yl l).one=true:=rfl
@[simp] theorem amK {f:Fn} {as cs:List AV}:(AV.fn f as cs).one=true:=rfl
@[simp] theorem al0 {t:Nat} {v:AV}:(AV.ifc t v).one=true:=rfl
@[simp] theorem amA {l ver sz o n:Nat}:(AV.sk l ver sz o n).one=true:=rfl
@[simp] theorem ak6 {l ver sz o n:Nat}:(AV.sk l ver sz o n).cells=[.sk l ver sz o n]:=rfl
@[simp] theorem amy {l:Nat} {es:List AV}:(AV.st l es).one=true:=rfl
@[simp] theorem amD:AV.np.one=true:=rfl
@[simp] theorem amE:AV.nm.one=true:=rfl
@[simp] theorem amC:AV.ns.one=true:=rfl
@[simp] theorem amG:AV.nf.one=true:=rfl
@[simp] theorem amF:AV.ni.one=true:=rfl
@[simp] theorem amc {k:IntKind} {n:Int}:(AV.i k n).cells=[.i k n]:=rfl
@[simp] theorem amd {x:Bool}:(AV.b x).cells=[.b x]:=rfl
@[simp] theorem amb {l:List UInt8}:(AV.s l).cells=[.s l]:=rfl
@[simp] theorem ak5 {l:List AV}:(AV.sl l).cells=[.sl l]:=rfl
@[simp] theorem ale {l:List AV}:(AV.ip l).cells=[.ip l]:=rfl
@[simp] theorem alf {l:List (AV×AV)}:(AV.im l).cells=[.im l]:=rfl
@[simp] theorem ak7 {l o:Nat}:(AV.pt l o).cells=[.pt l o]:=rfl
@[simp] theorem ald {l:Nat}:(AV.mp l).cells=[.mp l]:=rfl
@[simp] theorem ak3 {l:Nat}:(AV.yl l).cells=[.yl l]:=rfl
@[simp] theorem alg {f:Fn} {as cs:List AV}:(AV.fn f as cs).cells=[.fn f as cs]:=rfl
@[simp] theorem ajo {t:Nat} {v:AV}:(AV.ifc t v).cells=[.ifc t v]:=rfl
@[simp] theorem alh {l:List AV}:(AV.ag l).cells=l:=rfl
@[simp] theorem ak4 {l:Nat} {es:List AV}:(AV.st l es).cells=[.st l es]:=rfl
@[simp] theorem ak9:AV.np.cells=[.np]:=rfl
@[simp] theorem ala:AV.nm.cells=[.nm]:=rfl
@[simp] theorem ak8:AV.ns.cells=[.ns]:=rfl
@[simp] theorem alc:AV.nf.cells=[.nf]:=rfl
@[simp] theorem alb:AV.ni.cells=[.ni]:=rfl
@[simp] theorem ana {k:IntKind} {n:Int}:(AV.i k n).flat=true:=rfl
@[simp] theorem anb {x:Bool}:(AV.b x).flat=true:=rfl
@[simp] theorem am9 {l:List UInt8}:(AV.s l).flat=true:=rfl
@[simp] theorem aiH {body:aC} {l:Nat} {env:Env} {s1:St}:yD glob call cx body l (.norm env s1)=match s1[l]? with
  | some (.loop e1 p1 a1 b1 .ready)=>Nh l (ay glob call cx true body env (s1.set l (.loop e1 p1 a1 b1 .busy)))
  | _=>.fail:=rfl
@[simp] theorem agD {l:Nat} {env:Env} {s2:St}:Nh l (.norm env s2)=sK s2 l .ready true:=rfl
@[simp] theorem ahn {l:Nat} {env:Env} {s2:St}:Nh l (.ret env s2)=sK s2 l .ret false:=rfl
@[simp] theorem agE {l id:Nat} {env:Env} {s2:St}:Nh l (.exit id env s2)=sK s2 l (.exit id) false:=rfl
@[simp] theorem ajd {pure keep:Bool} {s s1:St} {res:List RV} {env:Env}:endW glob pure keep s res (.norm env s1)=match pV glob env s1 res with
  | some rs=>finish pure keep s s1 (vZ rs)
  | none=>.fail:=rfl
@[simp] theorem akW {pure keep:Bool} {s s1:St} {res:List RV} {v:AV}:endW glob pure keep s res (.pan v s1)=(finish pure keep s s1 v).toPan:=rfl
@[simp] theorem akV {pure keep:Bool} {s s1:St} {res:List RV} {env:Env}:endW glob pure keep s res (.ret env s1)=match pV glob env s1 res with
  | some rs=>finish pure keep s s1 (vZ rs)
  | none=>.fail:=rfl
end
end Go.Ai
