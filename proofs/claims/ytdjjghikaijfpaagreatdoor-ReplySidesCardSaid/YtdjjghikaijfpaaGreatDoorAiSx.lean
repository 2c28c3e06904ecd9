/-
 Rules for running the interpreter on symbolic values.
-/
import Derived.Test.YtdjjghikaijfpaaGreatDoorAiB1
set_option maxRecDepth 100000
set_option linter.unusedSimpArgs false
set_option linter.unusedVariables false
set_option linter.unusedSectionVars false
namespace Go.Ai
@[simp] theorem acj {env:Env} {s:St} {f:Env→St→Out}:(Out.norm env s).thn f=f env s:=rfl
@[simp] theorem ad1 {env:Env} {s:St} {f:Env→St→Out}:(Out.ret env s).thn f=.ret env s:=rfl
@[simp] theorem aco {id:Nat} {env:Env} {s:St} {f:Env→St→Out}:(Out.exit id env s).thn f=.exit id env s:=rfl
@[simp] theorem acn {f:Env→St→Out}:(Out.fail).thn f=.fail:=rfl
@[simp] theorem aa7 {env:Env} {s:St} {k:Out}:(Out.norm env s).orPan k=.norm env s:=rfl
@[simp] theorem aa8 {k:Out}:(Out.fail).orPan k=.fail:=rfl
@[simp] theorem abS {v:AV} {s:St} {k:Out}:(Out.pan v s).orPan k=k:=rfl
@[simp] theorem aby {r:AV} {s:St}:(CO.ret r s).toPan=.pan r s:=rfl
@[simp] theorem aaR:(CO.fail).toPan=.fail:=rfl
@[simp] theorem aeH {id:Nat} {v:AV} {s:St}:(Out.pan v s).blk id=.pan v s:=rfl
@[simp] theorem aey {l:Nat} {v:AV} {s:St} {f:Env→St→Out}:(Out.pan v s).jmp l f=.pan v s:=rfl
@[simp] theorem ad2 {v:AV} {s:St} {f:Env→St→Out}:(Out.pan v s).thn f=.pan v s:=rfl
@[simp] theorem ack {l:Nat} {env:Env} {s:St} {f:Env→St→Out}:(Out.goto l env s).thn f=.goto l env s:=rfl
@[simp] theorem adT {id l:Nat} {env:Env} {s:St}:(Out.goto l env s).blk id=.goto l env s:=rfl
@[simp] theorem ado {l:Nat} {env:Env} {s:St} {f:Env→St→Out}:(Out.norm env s).jmp l f=.norm env s:=rfl
@[simp] theorem aex {l:Nat} {env:Env} {s:St} {f:Env→St→Out}:(Out.ret env s).jmp l f=.ret env s:=rfl
@[simp] theorem adr {l id:Nat} {env:Env} {s:St} {f:Env→St→Out}:(Out.exit id env s).jmp l f=.exit id env s:=rfl
@[simp] theorem adq {l:Nat} {f:Env→St→Out}:(Out.fail).jmp l f=.fail:=rfl
@[simp] theorem adp {l l':Nat} {env:Env} {s:St} {f:Env→St→Out}:(Out.goto l' env s).jmp l f=if l'=l then f env s else .fail:=rfl
@[simp] theorem adS {id:Nat} {env:Env} {s:St}:(Out.norm env s).blk id=.norm env s:=rfl
@[simp] theorem aeG {id:Nat} {env:Env} {s:St}:(Out.ret env s).blk id=.ret env s:=rfl
@[simp] theorem adV {id id':Nat} {env:Env} {s:St}:(Out.exit id' env s).blk id=if id'=id then .norm env s else .exit id' env s:=rfl
@[simp] theorem adU {id:Nat}:(Out.fail).blk id=.fail:=rfl
def RO.fin (o:RO) (dst:Option Nat):Out:=
 match o with
 | .fail=>.fail
 | .pan v s=>.pan v s
 | .ok e env s=>match dst with
  | some d=>if e.refers d=true then .fail else .norm (put env d e) s
  | none=>.norm env s
@[simp] theorem aeC {e:EV} {env:Env} {s:St} {d:Nat}:(RO.ok e env s).fin (some d)=if e.refers d=true then .fail else .norm (put env d e) s:=rfl
@[simp] theorem afj {e:EV} {env:Env} {s:St}:(RO.ok e env s).fin none=.norm env s:=rfl
@[simp] theorem aeB {v:AV} {s:St} {d:Option Nat}:(RO.pan v s).fin d=.pan v s:=rfl
@[simp] theorem adw {d:Option Nat}:(RO.fail).fin d=.fail:=rfl
def Qy (dst:Option Nat) (env:Env) (s:St):Out:=
 match dst with
 | some d=>.norm (put env d (.v (.tu []))) s
 | none=>.norm env s
@[simp] theorem aa0 {d:Nat} {env:Env} {s:St}:Qy (some d) env s=.norm (put env d (.v (.tu []))) s:=rfl
@[simp] theorem aa1 {env:Env} {s:St}:Qy none env s=.norm env s:=rfl
def aaH (ks:List Nat) (env:Env) (s:St):Out:=.norm (jm env ks) s
@[simp] theorem adn {ks:List Nat} {env:Env} {s:St}:aaH ks env s=.norm (jm env ks) s:=rfl
section
variable (glob:Nat→Option (List AV)) (call:AV→List AV→St→Ctx→CO) (cx:Ctx)
def opT (dst:Option Nat) (op:AOp) (env:Env) (s:St):Out:=(aop glob call cx env s op).fin dst
def opF (dst:Option Nat) (env:Env) (s:St):Out:=Qy dst env s
def gdD (x:Option EV) (w:Bool) (dst:Option Nat) (op:AOp) (env:Env) (s:St):Out:=
 match x with
 | some (.v (.b x))=>if x=true then (match w with|true=>opT glob call cx dst op env s|false=>opF dst env s) else (match w with|true=>opF dst env s|false=>opT glob call cx dst op env s)
 | some (.v (.tu []))=>Qy dst env s
 | _=>.fail
noncomputable def cdT (ro:Bool) (a:aj) (env:Env) (s:St):Out:=aC glob call cx ro a env s
noncomputable def WW (ro:Bool) (x:Option AV) (a b:aj) (env:Env) (s:St):Out:=
 match x with
 | some (.b x)=>if x=true then cdT glob call cx ro a env s else cdT glob call cx ro b env s
 | _=>.fail
end
section
variable {glob:Nat→Option (List AV)} {call:AV→List AV→St→Ctx→CO} {cx:Ctx} {ro:Bool}
@[simp] theorem afa {x:Bool} {dst:Option Nat} {op:AOp} {env:Env} {s:St}:
  gdD glob call cx (some (.v (.b x))) true dst op env s=if x=true then opT glob call cx dst op env s else opF dst env s:=rfl
@[simp] theorem afb {x:Bool} {dst:Option Nat} {op:AOp} {env:Env} {s:St}:
  gdD glob call cx (some (.v (.b x))) false dst op env s=if x=true then opF dst env s else opT glob call cx dst op env s:=rfl
@[simp high] theorem ae8 {dst:Option Nat} {op:AOp} {env:Env} {s:St}:gdD glob call cx (some (.v (.b true))) true dst op env s=(aop glob call cx env s op).fin dst:=rfl
@[simp high] theorem aff {dst:Option Nat} {op:AOp} {env:Env} {s:St}:gdD glob call cx (some (.v (.b false))) false dst op env s=(aop glob call cx env s op).fin dst:=rfl
@[simp high] theorem ae9 {dst:Option Nat} {op:AOp} {env:Env} {s:St}:gdD glob call cx (some (.v (.b true))) false dst op env s=Qy dst env s:=rfl
@[simp high] theorem afe {dst:Option Nat} {op:AOp} {env:Env} {s:St}:gdD glob call cx (some (.v (.b false))) true dst op env s=Qy dst env s:=rfl
@[simp] theorem ae7 {w:Bool} {dst:Option Nat} {op:AOp} {env:Env} {s:St}:gdD glob call cx (some (.v (.tu []))) w dst op env s=Qy dst env s:=rfl
@[simp high] theorem afc {x:Bool} {dst:Option Nat} {op:AOp} {env:Env} {s:St}:
  gdD glob call cx (some (.v (.b (!x)))) true dst op env s=gdD glob call cx (some (.v (.b x))) false dst op env s:=by cases x<;>rfl
@[simp high] theorem afd {x:Bool} {dst:Option Nat} {op:AOp} {env:Env} {s:St}:
  gdD glob call cx (some (.v (.b (!x)))) false dst op env s=gdD glob call cx (some (.v (.b x))) true dst op env s:=by cases x<;>rfl
@[simp high] theorem adC {x:Bool} {a b:aj} {env:Env} {s:St}:
  WW glob call cx ro (some (.b (!x))) a b env s=WW glob call cx ro (some (.b x)) b a env s:=by cases x<;>rfl
@[simp] theorem ab3 {x:Bool} {a b:aj} {env:Env} {s:St}:
  WW glob call cx ro (some (.b x)) a b env s=if x=true then cdT glob call cx ro a env s else cdT glob call cx ro b env s:=rfl
@[simp high] theorem ab2 {a b:aj} {env:Env} {s:St}:WW glob call cx ro (some (.b true)) a b env s=aC glob call cx ro a env s:=rfl
@[simp high] theorem abl {a b:aj} {env:Env} {s:St}:WW glob call cx ro (some (.b false)) a b env s=aC glob call cx ro b env s:=rfl
@[simp] theorem Wq {dst:Option Nat} {op:AOp} {env:Env} {s:St}:
  bM glob call cx ⟨dst,none,op⟩ env s=(aop glob call cx env s op).fin dst:=by
 simp only [bM,bF]
 cases aop glob call cx env s op<;>rfl
@[simp] theorem Wp {dst:Option Nat} {op:AOp} {k:Nat} {w:Bool} {env:Env} {s:St}:
  bM glob call cx ⟨dst,some (k,w),op⟩ env s=gdD glob call cx (lk env k) w dst op env s:=by
 simp only [bM,bF]
 cases h:lk env k with
 | none=>rfl
 | some e=>
  cases e with
  | v a=>
   cases a with
   | b x=>
    cases x<;>cases w<;>first|rfl | (simp only [gdD,opT];cases aop glob call cx env s op<;>rfl)
   | tu cs=>cases cs<;>rfl
   | _=>rfl
  | _=>rfl
@[simp] theorem aa3 {env:Env} {s:St}:iY glob call cx [] env s=.norm env s:=rfl
@[simp] theorem aaF {o:aA} {r:List aA} {env:Env} {s:St}:iY glob call cx (o::r) env s=(bM glob call cx o env s).thn (iY glob call cx r):=by
 simp only [iY];cases bM glob call cx o env s<;>rfl
@[simp] theorem aaK {env:Env} {s:St}:aC glob call cx ro .skip env s=.norm env s:=by simp [aC]
@[simp] theorem abu {env:Env} {s:St}:aC glob call cx ro .ret env s=.ret env s:=by simp [aC]
@[simp] theorem aaN {id:Nat} {env:Env} {s:St}:aC glob call cx ro (.exit id) env s=.exit id env s:=by simp [aC]
@[simp] theorem ZV {ops:List aA} {ord:Option (List Nat×List Nat)} {keep:List Nat} {env:Env} {s:St}:
  aC glob call cx ro (.region ops ord keep) env s=(nC glob call cx ops env s ord).thn (aaH keep):=by simp only [aC];rfl
@[simp] theorem abt {a b:aj} {env:Env} {s:St}:aC glob call cx ro (.seq a b) env s=(aC glob call cx ro a env s).thn (aC glob call cx ro b):=by simp only [aC]
@[simp] theorem aaO {c:IX} {a b:aj} {env:Env} {s:St}:aC glob call cx ro (.cond c a b) env s=WW glob call cx ro (rd glob env c) a b env s:=by
 simp only [aC,aam,WW,cdT];cases h:rd glob env c with
 | none=>rfl
 | some a=>cases a<;>rfl
@[simp] theorem aax {id:Nat} {b:aj} {env:Env} {s:St}:aC glob call cx ro (.block id b) env s=(aC glob call cx ro b env s).blk id:=by simp only [aC]
@[simp] theorem aaL {keep:List Nat} {b:aj} {env:Env} {s:St}:aC glob call cx ro (.loop keep b) env s=AZ (aC glob call cx ro b) keep env s:=by simp only [aC]
@[simp] theorem aav {f:IX} {ps:List Nat} {asg body:aj} {env:Env} {s:St}:aC glob call cx false (.range f ps asg body) env s=UI (rd glob env f) call cx ps asg body env s:=by simp [aC]
@[simp] theorem aaw {l:Nat} {env:Env} {s:St}:aC glob call cx ro (.label l) env s=.norm env s:=by simp only [aC]
@[simp] theorem aaM {l:Nat} {env:Env} {s:St}:aC glob call cx ro (.goto l) env s=.goto l env s:=by simp only [aC]
@[simp] theorem aau {l:Nat} {keep:List Nat} {a b:aj} {env:Env} {s:St}:aC glob call cx ro (.scope l keep a b) env s=(aC glob call cx ro a env s).jmp l (NS (aC glob call cx ro b) l keep):=by simp only [aC]
@[simp] theorem ad5 {x:IX} {env:Env} {s:St}:aop glob call cx env s (.mov x)=match ev glob env x,x with
  | some (.om es),.t k=>.ok (.v (.im es)) ((k,.v (.im es))::(k,.v .u)::jF env k) s
  | _,_=>match Hl glob env x with
   | some e=>.ok e env s
   | none=>.fail:=rfl
@[simp] theorem aei {x:IX} {env:Env} {s:St}:aop glob call cx env s (.asg x)=match ev glob env x,x with
  | some (.own tip t sz es),.t k=>.ok (.own tip t sz es) ((k,.v .u)::jF env k) s
  | _,_=>match NC glob env x with
   | some (a,env)=>.ok (.v a) env s
   | none=>match Hl glob env x with
    | some e=>.ok e env s
    | none=>.fail:=rfl
@[simp] theorem aec {x:IX} {env:Env} {s:St}:aop glob call cx env s (.cpy x)=match esc glob env x with
  | some (a,env)=>.ok (.v a) env s
  | none=>.fail:=rfl
@[simp] theorem acw {t:Nat} {sz:Nat} {env:Env} {s:St}:aop glob call cx env s (.nbuf t sz)=if 0<sz then .ok (.own false t sz []) env s else .fail:=rfl
@[simp] theorem acv {c:IX} {a:IX} {b:IX} {env:Env} {s:St}:aop glob call cx env s (.pick c a b)=match rd glob env c with
  | some (.b x)=>okv env s (rd glob env (if x then a else b))
  | _=>.fail:=rfl
@[simp] theorem acI {x:IX} {env:Env} {s:St}:aop glob call cx env s (.lbox x)=match esc glob env x with
  | some (a,env)=>if a.cells.all AV.one then .ok (.bx a.cells) env s else .fail
  | none=>.fail:=rfl
@[simp] theorem aaW {zs:List AV} {env:Env} {s:St}:aop glob call cx env s (.lalloc zs)=.ok (.bx zs) env s:=rfl
@[simp] theorem acP {x:IX} {env:Env} {s:St}:aop glob call cx env s (.hbox x)=match esc glob env x with
  | some (a,env)=>if a.cells.all AV.one then .ok (.v (.pt s.length 0)) env (s++[.cells a.cells]) else .fail
  | none=>.fail:=rfl
@[simp] theorem aaX {zs:List AV} {env:Env} {s:St}:aop glob call cx env s (.halloc zs)=.ok (.v (.pt s.length 0)) env (s++[.cells zs]):=rfl
@[simp] theorem acC {n:Option Nat} {a:IX} {env:Env} {s:St}:aop glob call cx env s (.load n a)=okv env s (fU glob env s n a):=rfl
@[simp] theorem abG {d:Nat} {n:Option Nat} {a:IX} {env:Env} {s:St}:aop glob call cx env s (.loadp d n a)=match lk env d,ev glob env a with
  | none,some (.v _)=>okv env s (fU glob env s n a)
  | _,_=>.fail:=rfl
@[simp] theorem abA {n:Nat} {a:IX} {x:IX} {env:Env} {s:St}:aop glob call cx env s (.store n a x)=match NC glob env x with
  | some (v,env)=>match rM glob cx env s n a v with
   | some (env,s)=>.ok (.v (.tu [])) env s
   | none=>.fail
  | none=>.fail:=rfl
@[simp] theorem aea {off:Nat} {a:IX} {env:Env} {s:St}:aop glob call cx env s (.fld off a)=match addr glob env off a with
  | some e=>.ok e env s
  | none=>.fail:=rfl
@[simp] theorem acL {len:Nat} {sz:Nat} {x:IX} {i:IX} {env:Env} {s:St}:aop glob call cx env s (.idxa len sz x i)=match rd glob env i with
  | some (.i _ n)=>if 0≤n∧n.toNat<len then
    (match addr glob env (n.toNat * sz) x with
     | some e=>.ok e env s
     | none=>.fail) else .fail
  | _=>.fail:=rfl
@[simp] theorem acQ {off:Nat} {n:Option Nat} {x:IX} {env:Env} {s:St}:aop glob call cx env s (.getf off n x)=match rd glob env x with
  | some (.ag cs)=>okv env s (part cs off n)
  | _=>.fail:=rfl
@[simp] theorem acJ {len:Nat} {sz:Nat} {n:Option Nat} {x:IX} {i:IX} {env:Env} {s:St}:aop glob call cx env s (.idxv len sz n x i)=match rd glob env x,rd glob env i with
  | some (.ag cs),some (.i _ j)=>if 0≤j∧j.toNat<len then okv env s (part cs (j.toNat * sz) n) else .fail
  | _,_=>.fail:=rfl
@[simp] theorem acK {x:IX} {i:IX} {env:Env} {s:St}:aop glob call cx env s (.idxs x i)=match rd glob env x,rd glob env i with
  | some (.s l),some (.i _ j)=>match l[j.toNat]? with
   | some c=>if 0≤j then .ok (.v (.i .u8 c.toNat)) env s else .fail
   | none=>.fail
  | _,_=>.fail:=rfl
@[simp] theorem aef {op:BinOp} {x:IX} {y:IX} {env:Env} {s:St}:aop glob call cx env s (.bin op x y)=match rd glob env x,rd glob env y with
  | some a,some b=>okv env s (VX op a b)
  | _,_=>.fail:=rfl
@[simp] theorem aeg {neg:Bool} {x:IX} {y:IX} {env:Env} {s:St}:aop glob call cx env s (.beq neg x y)=match rd glob env x,rd glob env y with
  | some (.b a),some (.b b)=>.ok (.v (.b (if neg then !(a == b) else a == b))) env s
  | _,_=>.fail:=rfl
@[simp] theorem ad8 {neg:Bool} {ks:List Nat} {x:IX} {y:IX} {env:Env} {s:St}:aop glob call cx env s (.ieq neg ks x y)=match rd glob env x,rd glob env y with
  | some (.ag a),some (.ag b)=>match yc ks a b with
   | some r=>.ok (.v (.b (if neg then !r else r))) env s
   | none=>.fail
  | _,_=>.fail:=rfl
@[simp] theorem abC {neg:Bool} {k:Nat} {x:IX} {env:Env} {s:St}:aop glob call cx env s (.nileq neg k x)=match rd glob env x with
  | some a=>match Vw k a with
   | some n=>.ok (.v (.b (if neg then !n else n))) env s
   | none=>.fail
  | none=>.fail:=rfl
@[simp] theorem aeI {op:UnOp} {x:IX} {env:Env} {s:St}:aop glob call cx env s (.un op x)=match rd glob env x with
  | some a=>okv env s (ZW op a)
  | _=>.fail:=rfl
@[simp] theorem abz {k:IntKind} {x:IX} {env:Env} {s:St}:aop glob call cx env s (.toInt k x)=match rd glob env x with
  | some (.i _ n)=>.ok (.v (.i k (k.wrap n))) env s
  | _=>.fail:=rfl
@[simp] theorem ad4 {x:IX} {env:Env} {s:St}:aop glob call cx env s (.s2b x)=match rd glob env x with
  | some (.s l)=>.ok (.v (.sl (bn l))) env s
  | _=>.fail:=rfl
@[simp] theorem aeh {x:IX} {env:Env} {s:St}:aop glob call cx env s (.b2s x)=match elems glob env x with
  | some es=>okv env s ((es.mapM byteOf).map .s)
  | none=>.fail:=rfl
@[simp] theorem acu {x:IX} {env:Env} {s:St}:aop glob call cx env s (.same x)=match rd glob env x with
  | some (.s l)=>.ok (.v (.s l)) env s
  | _=>.fail:=rfl
@[simp] theorem abE {x:IX} {env:Env} {s:St}:aop glob call cx env s (.markk x)=match x with
  | .t k=>match lk env k with
   | some (.own _ t sz es)=>if 0<es.length then .ok (.al k) ((k,.own true t sz es)::env) s else .fail
   | _=>.fail
  | _=>.fail:=rfl
@[simp] theorem acA {x:IX} {env:Env} {s:St}:aop glob call cx env s (.mark x)=match x with
  | .t k=>match lk env k with
   | some (.own _ _ _ es)=>if 0<es.length then .ok (.v (.sl es)) ((k,.v .u)::jF env k) s else .fail
   | _=>.fail
  | _=>.fail:=rfl
@[simp] theorem abJ {zs:List AV} {ps:List (Nat×Nat×IX)} {env:Env} {s:St}:aop glob call cx env s (.build zs ps)=match zy glob env (ps.map (·.2.2)) with
  | some (vs,env)=>
   if (ps.zip vs).all (fun p=>p.2.cells.length == p.1.2.1 && p.2.cells.all AV.one) then
    okv env s ((I7 zs ((ps.zip vs).map fun p=>(p.1.1,p.2.cells))).map .ag) else .fail
  | none=>.fail:=rfl
@[simp] theorem aed {own:Bool} {t:Nat} {sz:Nat} {len:Nat} {zs:List AV} {ps:List (Nat×IX)} {env:Env} {s:St}:aop glob call cx env s (.bsl own t sz len zs ps)=match zy glob env (ps.map (·.2)) with
  | some (vs,env)=>
   if len * sz≤16777216∧ps.map (·.1)=List.range len∧vs.all (fun v=>v.cells.length == sz && v.cells.all AV.one)∧zs.length=sz then
    (if own then (if 0<sz then .ok (.own false t sz vs) env s else .fail) else .ok (.v (.sl vs)) env s) else .fail
  | none=>.fail:=rfl
@[simp] theorem aej {t:Nat} {sz:Nat} {x:IX} {y:IX} {env:Env} {s:St}:aop glob call cx env s (.app t sz x y)=match elems glob env y,gu env x with
  | some ys,some k=>match lk env k with
   | some (.own tip t' sz' es)=>
    if t=t'∧sz=sz'∧(ys.all fun e=>e.cells.length == sz)∧es.length+ys.length≤dU∧gu env y≠some k then
     .ok (.own tip t sz (es++ys)) ((k,.v .u)::jF env k) s else .fail
   | _=>.fail
  | some ys,none=>match rd glob env x with
   | some .ns=>if 0<sz∧(ys.all fun e=>e.cells.length == sz)∧ys.length≤dU then .ok (.own false t sz ys) env s else .fail
   | _=>.fail
  | _,_=>.fail:=rfl
@[simp] theorem acY {t:Nat} {x:IX} {y:IX} {env:Env} {s:St}:aop glob call cx env s (.apps t x y)=match rd glob env y,gu env x with
  | some (.s l),some k=>match lk env k with
   | some (.own tip t' sz' es)=>if t=t'∧sz'=1∧es.length+l.length≤dU then .ok (.own tip t 1 (es++bn l)) ((k,.v .u)::jF env k) s else .fail
   | _=>.fail
  | _,_=>.fail:=rfl
@[simp] theorem acZ {t:Nat} {sz:Nat} {x:IX} {y:IX} {env:Env} {s:St}:aop glob call cx env s (.appr t sz x y)=match elems glob env y,ev glob env x with
  | some ys,some (.v .ns)=>
   if 0<sz∧0<ys.length∧(ys.all fun e=>e.cells.length == sz)∧ys.length≤dU then .ok (.v (.st s.length ys)) env (s++[.row t sz ys.length]) else .fail
  | some ys,some (.v .se)=>
   if 0<sz∧0<ys.length∧(ys.all fun e=>e.cells.length == sz)∧ys.length≤dU then .ok (.v (.st s.length ys)) env (s++[.row t sz ys.length]) else .fail
  | some ys,some (.v (.st l es))=>match s[l]? with
   | some (.row t' sz' k)=>
    if t=t'∧sz=sz'∧k=es.length∧0<sz∧0<ys.length∧(ys.all fun e=>e.cells.length == sz)∧(es.all fun e=>e.cells.length == sz)∧es.length+ys.length≤dU∧cx.lim≤l then
     .ok (.v (.st l (es++ys))) env (s.set l (.row t sz (es.length+ys.length))) else .fail
   | _=>.fail
  | _,_=>.fail:=rfl
@[simp] theorem abK {d:Nat} {t:Nat} {sz:Nat} {x:IX} {y:IX} {env:Env} {s:St}:aop glob call cx env s (.apprp d t sz x y)=match lk env d with
  | some _=>.fail
  | none=>match elems glob env y,ev glob env x with
   | some ys,some (.v .ns)=>
    if 0<sz∧0<ys.length∧(ys.all fun e=>e.cells.length == sz)∧ys.length≤dU then .ok (.v (.st s.length ys)) env (s++[.row t sz ys.length]) else if ys.length=0 then .ok (.v .ns) env s else .fail
   | some ys,some (.v .se)=>
    if 0<sz∧0<ys.length∧(ys.all fun e=>e.cells.length == sz)∧ys.length≤dU then .ok (.v (.st s.length ys)) env (s++[.row t sz ys.length]) else if ys.length=0 then .ok (.v .se) env s else .fail
   | some ys,some (.v (.st l es))=>match s[l]? with
    | some (.row t' sz' k)=>
     if t=t'∧sz=sz'∧k=es.length∧0<sz∧0<ys.length∧(ys.all fun e=>e.cells.length == sz)∧(es.all fun e=>e.cells.length == sz)∧es.length+ys.length≤dU∧cx.lim≤l then
      .ok (.v (.st l (es++ys))) env (s.set l (.row t sz (es.length+ys.length))) else if ys.length=0 then .ok (.v (.st l es)) env s else .fail
    | _=>.fail
   | _,_=>.fail:=rfl
@[simp] theorem ac0 {t:Nat} {sz:Nat} {x:IX} {y:IX} {env:Env} {s:St}:aop glob call cx env s (.appk t sz x y)=match elems glob env y,ev glob env x with
  | some ys,some (.v .ns)=>
   if 0<sz∧0<ys.length∧(ys.all fun e=>e.cells.length == sz)∧ys.length≤dU then .ok (.v (.sk s.length 0 sz 0 ys.length)) env (s++[.buf t sz 0 (ys.flatMap AV.cells)]) else .fail
  | some ys,some (.v .se)=>
   if 0<sz∧0<ys.length∧(ys.all fun e=>e.cells.length == sz)∧ys.length≤dU then .ok (.v (.sk s.length 0 sz 0 ys.length)) env (s++[.buf t sz 0 (ys.flatMap AV.cells)]) else .fail
  | some ys,some (.v (.sk l ver sz2 o m))=>match s[l]? with
   | some (.buf t' sz' ver' cs)=>
    if t=t'∧sz=sz'∧sz2=sz∧ver=ver'∧0<ys.length∧(ys.all fun e=>e.cells.length == sz)∧m+ys.length≤dU∧o+m * sz≤cs.length∧cx.lim≤l∧(cx.base≤l∨(ys.flatMap AV.cells).all AV.flat=true) then
     .ok (.v (.sk l (ver+1) sz 0 (m+ys.length))) env (s.set l (.buf t sz (ver+1) ((cs.drop o).take (m * sz)++ys.flatMap AV.cells))) else .fail
   | _=>.fail
  | _,_=>.fail:=rfl
@[simp] theorem acW {t:Nat} {sz:Nat} {zs:List AV} {x:IX} {y:IX} {env:Env} {s:St}:aop glob call cx env s (.appz t sz zs x y)=match ev glob env x,rd glob env y with
  | some (.v .ns),some (.i .i64 n)=>if 0<sz∧zs.length=sz∧0<n∧n.toNat≤16777216 then .ok (.v (.sk s.length 0 sz 0 n.toNat)) env (s++[.buf t sz 0 (List.replicate n.toNat zs).flatten]) else .fail
  | _,_=>.fail:=rfl
@[simp] theorem acT {x:IX} {env:Env} {s:St}:aop glob call cx env s (.capn x)=match ev glob env x with
  | some (.v .ns)=>.ok (.v (.i .i64 0)) env s
  | _=>.fail:=rfl
@[simp] theorem ac1 {t:Nat} {sz:Nat} {x:IX} {y:IX} {env:Env} {s:St}:aop glob call cx env s (.appe t sz x y)=match elems glob env y with
  | some []=>(match ev glob env x with
   | some (.v .ns)=>.ok (.v .ns) env s
   | some (.v (.sk l ver sz2 o m))=>.ok (.v (.sk l ver sz2 o m)) env s
   | _=>.fail)
  | _=>aop glob call cx env s (.appk t sz x y):=rfl
@[simp] theorem ad6 {t:Nat} {sz:Nat} {zs:List AV} {x:IX} {env:Env} {s:St}:aop glob call cx env s (.mks t sz zs x)=match rd glob env x with
  | some (.i _ n)=>if 0<sz∧zs.length=sz∧0≤n∧n.toNat≤16777216 then .ok (.v (.sk s.length 0 sz 0 n.toNat)) env (s++[.buf t sz 0 (List.replicate n.toNat zs).flatten]) else .fail
  | _=>.fail:=rfl
@[simp] theorem acV {t:Nat} {sz:Nat} {x:IX} {env:Env} {s:St}:aop glob call cx env s (.asgk t sz x)=match ev glob env x,x with
  | some (.own false t' sz' es),.t k=>if t=t'∧sz=sz'∧0<es.length then .ok (.v (.sk s.length 0 sz 0 es.length)) ((k,.v .u)::jF env k) (s++[.buf t sz 0 (es.flatMap AV.cells)]) else .fail
  | _,_=>.fail:=rfl
@[simp] theorem acR {zs:List AV} {x:IX} {env:Env} {s:St}:aop glob call cx env s (.clrk zs x)=match rd glob env x with
  | some (.sk l ver sz o m)=>(match m,s[l]? with
   | 0,_=>.ok (.v (.tu [])) env s
   | n+1,some (.buf t sz' ver' cs)=>if ver=ver'∧sz=sz'∧0<sz∧zs.length=sz∧o+(n+1) * sz≤cs.length∧cx.lim≤l∧cx.base≤l then
     .ok (.v (.tu [])) env (s.set l (.buf t sz ver (splice cs o (List.replicate (n+1) zs).flatten))) else .fail
   | _,_=>.fail)
  | _=>.fail:=rfl
@[simp] theorem abI {d:Nat} {f:IX} {args:List IX} {env:Env} {s:St}:aop glob call cx env s (.callh d f args)=match lk env d with
  | some _=>.fail
  | none=>match rd glob env f,rds glob env args with
   | some fv,some as=>match call fv as s cx with
    | .ret r s=>.ok (.v r) env s
    | .pan v s=>.pan v s
    | .fail=>.fail
   | _,_=>.fail:=rfl
@[simp] theorem abL {t:Nat} {x:IX} {y:IX} {env:Env} {s:St}:aop glob call cx env s (.appks t x y)=match rd glob env y,ev glob env x with
  | some (.s b),some (.v .ns)=>if 0<b.length∧b.length≤dU then .ok (.v (.sk s.length 0 1 0 b.length)) env (s++[.buf t 1 0 (bn b)]) else .fail
  | some (.s b),some (.v (.sk l ver sz2 o m))=>(match s[l]? with
   | some (.buf t' sz' ver' cs)=>if t=t'∧sz'=1∧sz2=1∧ver=ver'∧0<b.length∧m+b.length≤dU∧o+m≤cs.length∧cx.lim≤l then
     .ok (.v (.sk l (ver+1) 1 0 (m+b.length))) env (s.set l (.buf t 1 (ver+1) ((cs.drop o).take m++bn b))) else .fail
   | _=>.fail)
  | _,_=>.fail:=rfl
@[simp] theorem acX {t:Nat} {sz:Nat} {x:IX} {y:IX} {env:Env} {s:St}:aop glob call cx env s (.appv t sz x y)=match H7 glob env s sz y,ev glob env x with
  | some (0,_),some (.v .se)=>.ok (.v .se) env s
  | some (m+1,cs),some (.v .se)=>if 0<sz∧m+1≤dU then .ok (.v (.sk s.length 0 sz 0 (m+1))) env (s++[.buf t sz 0 cs]) else .fail
  | _,_=>.fail:=rfl
@[simp] theorem aaD {d:Nat} {zs:List AV} {env:Env} {s:St}:aop glob call cx env s (.lallocp d zs)=match lk env d with
  | some _=>.fail
  | none=>.ok (.bx zs) env s:=rfl
@[simp] theorem aaS {n:Nat} {a:IX} {x:IX} {env:Env} {s:St}:aop glob call cx env s (.storep n a x)=match ev glob env a,ev glob env x with
  | some (.v av),some (.v xv)=>match rM glob cx env s n a xv with
   | some (_,s)=>.ok (.v (.tu [])) env s
   | none=>.fail
  | _,_=>.fail:=rfl
@[simp] theorem abH {n:Option Nat} {a:IX} {env:Env} {s:St}:aop glob call cx env s (.loadl n a)=match ev glob env a with
  | some (.bx _)=>okv env s (fU glob env s n a)
  | some (.lp _ _)=>okv env s (fU glob env s n a)
  | some (.v (.ip _))=>okv env s (fU glob env s n a)
  | _=>.fail:=rfl
@[simp] theorem aaT {n k:Nat} {x:IX} {env:Env} {s:St}:aop glob call cx env s (.storel n k x)=match lk env k,ev glob env x with
  | some (.bx cs),some (.v xv)=>if xv.cells.length=n∧n≠0∧xv.cells.all AV.one=true∧n≤cs.length then .ok (.v (.tu [])) ((k,.bx (splice cs 0 xv.cells))::env) s else .fail
  | _,_=>.fail:=rfl
@[simp] theorem acp {d:Nat} {env:Env} {s:St}:aop glob call cx env s (.umap d)=match lk env d with
  | some _=>.fail
  | none=>.ok (.v (.mp s.length)) env (s++[.umap []]):=rfl
@[simp] theorem acr {m:IX} {k:IX} {v:IX} {env:Env} {s:St}:aop glob call cx env s (.uins m k v)=match ev glob env m,ev glob env k,ev glob env v with
  | some (.v (.mp l)),some (.v (.s key)),some (.v val)=>match s[l]? with
   | some (.umap es)=>if val.one∧val.flat=true∧cx.lim≤l then .ok (.v (.tu [])) env (s.set l (.umap (kZ key val es))) else .fail
   | _=>.fail
  | _,_,_=>.fail:=rfl
@[simp] theorem aee  {env:Env} {s:St}:aop glob call cx env s (.bse )=.ok (.v .se) env s:=rfl
@[simp] theorem acH {x:IX} {env:Env} {s:St}:aop glob call cx env s (.len 0 x)=match elems glob env x with
  | some es=>.ok (.v (.i .i64 es.length)) env s
  | none=>match rd glob env x with
   | some (.sk _ _ _ _ m)=>.ok (.v (.i .i64 m)) env s
   | _=>.fail:=rfl
@[simp] theorem acG {x:IX} {env:Env} {s:St}:aop glob call cx env s (.len 1 x)=match rd glob env x with
  | some (.s l)=>.ok (.v (.i .i64 l.length)) env s
  | _=>.fail:=rfl
@[simp] theorem acF {x:IX} {env:Env} {s:St}:aop glob call cx env s (.len 2 x)=match rd glob env x with
  | some (.im es)=>.ok (.v (.i .i64 es.length)) env s
  | some (.mp l)=>match s[l]? with
   | some (.map es)=>.ok (.v (.i .i64 es.length)) env s
   | _=>.fail
  | some .nm=>.ok (.v (.i .i64 0)) env s
  | _=>.fail:=rfl
@[simp] theorem acD {n:Nat} {env:Env} {s:St}:aop glob call cx env s (.lenA n)=.ok (.v (.i .i64 n)) env s:=rfl
@[simp] theorem aaV {isMin:Bool} {x:IX} {y:IX} {env:Env} {s:St}:aop glob call cx env s (.minmax isMin x y)=match rd glob env x,rd glob env y with
  | some (.i k a),some (.i k' b)=>if k=k' then .ok (.v (.i k (if isMin then (if b<a then b else a) else (if b > a then b else a)))) env s else .fail
  | _,_=>.fail:=rfl
@[simp] theorem acs {x:IX} {lo:Option IX} {hi:Option IX} {env:Env} {s:St}:aop glob call cx env s (.slcs x lo hi)=match rd glob env x with
  | some (.s cs)=>match bound glob env 0 lo,bound glob env cs.length hi with
   | some l,some h=>if l≤h∧h≤cs.length then .ok (.v (.s ((cs.drop l).take (h - l)))) env s else .fail
   | _,_=>.fail
  | _=>.fail:=rfl
@[simp] theorem aeb {x:IX} {i:Nat} {env:Env} {s:St}:aop glob call cx env s (.ext x i)=match rd glob env x with
  | some (.tu cs)=>okv env s (cs[i]?)
  | _=>.fail:=rfl
@[simp] theorem acz {f:Fn} {as:List IX} {cs:List IX} {env:Env} {s:St}:aop glob call cx env s (.mkfn f as cs)=match zy glob env as with
  | some (vs,env)=>match zy glob env cs with
   | some (ws,env)=>.ok (.v (.fn f vs ws)) env s
   | none=>.fail
  | none=>.fail:=rfl
@[simp] theorem acy {t:Nat} {x:IX} {env:Env} {s:St}:aop glob call cx env s (.mkif t x)=match esc glob env x with
  | some (a,env)=>.ok (.v (.ifc t a)) env s
  | none=>.fail:=rfl
@[simp] theorem acB {kk:Nat} {z:AV} {ok:Bool} {m:IX} {k:IX} {env:Env} {s:St}:aop glob call cx env s (.look kk z ok m k)=match rd glob env k with
  | some key=>if 3≤kk∧A8 kk key=false then .fail else match (match rd glob env m with
    | some (.im es)=>find kk key es
    | some .nm=>if A8 kk key then some none else none
    | some (.mp l)=>match s[l]? with
     | some (.map es)=>find kk key es
     | _=>none
    | _=>none) with
   | some r=>if ok then .ok (.v (.tu [r.getD z,.b r.isSome])) env s else .ok (.v (r.getD z)) env s
   | none=>.fail
  | none=>.fail:=rfl
@[simp] theorem abD  {env:Env} {s:St}:aop glob call cx env s (.mkmap )=.ok (.om []) env s:=rfl
@[simp] theorem ad7 {kk:Nat} {m:IX} {k:IX} {v:IX} {env:Env} {s:St}:aop glob call cx env s (.ins kk m k v)=match m,zy glob env [k,v] with
  | .t j,some ([key,val],env)=>match lk env j with
   | some (.om es)=>match find kk key es with
    | some none=>if val.one∧A8 kk key then .ok (.v (.tu [])) ((j,.om (es++[(key,val)]))::env) s else .fail
    | _=>.fail
   | _=>.fail
  | _,_=>.fail:=rfl
@[simp] theorem acM  {env:Env} {s:St}:aop glob call cx env s (.hmap )=.ok (.v (.mp s.length)) env (s++[.map []]):=rfl
@[simp] theorem acN {kk:Nat} {m:IX} {k:IX} {v:IX} {env:Env} {s:St}:aop glob call cx env s (.hins kk m k v)=match rd glob env m,rd glob env k,NC glob env v with
  | some (.mp l),some key,some (val,env)=>match s[l]? with
   | some (.map es)=>match Qc kk key val es with
    | some es'=>if val.one∧A8 kk key∧cx.lim≤l∧(cx.base≤l∨val.flat=true) then .ok (.v (.tu [])) env (s.set l (.map es')) else .fail
    | none=>.fail
   | _=>.fail
  | _,_,_=>.fail:=rfl
@[simp] theorem acO {kk:Nat} {m:IX} {k:IX} {env:Env} {s:St}:aop glob call cx env s (.hdel kk m k)=match rd glob env m,rd glob env k with
  | some (.mp l),some key=>match s[l]? with
   | some (.map es)=>match Qd kk key es with
    | some es'=>if A8 kk key∧cx.lim≤l then .ok (.v (.tu [])) env (s.set l (.map es')) else .fail
    | none=>.fail
   | _=>.fail
  | _,_=>.fail:=rfl
@[simp] theorem acU {f:IX} {args:List IX} {env:Env} {s:St}:aop glob call cx env s (.call f args)=match rd glob env f,zy glob env args with
  | some fv,some (as,env)=>match call fv as s cx with
   | .ret r s=>.ok (.v r) env s
   | .pan v s=>.pan v s
   | .fail=>.fail
  | _,_=>.fail:=rfl
@[simp] theorem aaU {x:IX} {env:Env} {s:St}:aop glob call cx env s (.nilchk x)=match rd glob env x with
  | some (.ip cs)=>.ok (.v (.ip cs)) env s
  | some (.pt l o)=>.ok (.v (.pt l o)) env s
  | _=>.fail:=rfl
@[simp] theorem abB {x:IX} {env:Env} {s:St}:aop glob call cx env s (.panic x)=match esc glob env x with
  | some (.ifc t a,_)=>.pan (.ifc t a) s
  | _=>.fail:=rfl
attribute [simp] nC ev rd lk put jm esc NC zy rds Hl VX UQ Uz ZW EV.owns EV.refers EV.isRef lJ tH finish wu fU part jF addr bound gu rM splice ql
@[simp] theorem adh {env:Env} {s:St} {a:AV}:okv env s (some a)=.ok (.v a) env s:=rfl
@[simp] theorem adi {env:Env} {s:St}:okv env s none=.fail:=rfl
@[simp] theorem aeu {p:Prop} [Decidable p] {env:Env} {s:St} {a b:Option AV}:okv env s (if p then a else b)=if p then okv env s a else okv env s b:=by split<;>rfl
theorem gI {body:Env→St→Out} {keep:List Nat} {env:Env} {s:St} {o:Out} (h:∀K,K=AZ body keep→(body (jm env keep) s).thn K=o):AZ body keep env s=o:=by
 rw [VB];exact h _ rfl
@[simp] theorem afv (a b:Int):(a == b)=decide (a=b):=by by_cases h:a=b<;>simp [h]
@[simp] theorem aft (a b:Int):(a != b)=!decide (a=b):=by by_cases h:a=b<;>simp [h]
@[simp] theorem afu (a b:List UInt8):(a == b)=decide (a=b):=by by_cases h:a=b<;>simp [h]
@[simp] theorem afl {k:IntKind} {n:Int}:(AV.i k n).one=true:=rfl
@[simp] theorem afm {x:Bool}:(AV.b x).one=true:=rfl
@[simp] theorem afk {l:List UInt8}:(AV.s l).one=true:=rfl
@[simp] theorem aeM {l:List AV}:(AV.sl l).one=true:=rfl
@[simp] theorem aeV {l:List AV}:(AV.ip l).one=true:=rfl
@[simp] theorem aeW {l:List (AV×AV)}:(AV.im l).one=true:=rfl
@[simp] theorem aeO {l o:Nat}:(AV.pt l o).one=true:=rfl
@[simp] theorem aeU {l:Nat}:(AV.mp l).one=true:=rfl
@[simp] theorem aeK {l:Nat}:(AV.yl l).one=true:=rfl
@[simp] theorem aeX {f:Fn} {as cs:List AV}:(AV.fn f as cs).one=true:=rfl
@[simp] theorem aes {t:Nat} {v:AV}:(AV.ifc t v).one=true:=rfl
@[simp] theorem aeN {l ver sz o n:Nat}:(AV.sk l ver sz o n).one=true:=rfl
@[simp] theorem adG {l ver sz o n:Nat}:(AV.sk l ver sz o n).cells=[.sk l ver sz o n]:=rfl
@[simp] theorem aeL {l:Nat} {es:List AV}:(AV.st l es).one=true:=rfl
@[simp] theorem aeQ:AV.np.one=true:=rfl
@[simp] theorem aeR:AV.nm.one=true:=rfl
@[simp] theorem aeP:AV.ns.one=true:=rfl
@[simp] theorem aeT:AV.nf.one=true:=rfl
@[simp] theorem aeS:AV.ni.one=true:=rfl
@[simp] theorem aeE {k:IntKind} {n:Int}:(AV.i k n).cells=[.i k n]:=rfl
@[simp] theorem aeF {x:Bool}:(AV.b x).cells=[.b x]:=rfl
@[simp] theorem aeD {l:List UInt8}:(AV.s l).cells=[.s l]:=rfl
@[simp] theorem adF {l:List AV}:(AV.sl l).cells=[.sl l]:=rfl
@[simp] theorem adO {l:List AV}:(AV.ip l).cells=[.ip l]:=rfl
@[simp] theorem adP {l:List (AV×AV)}:(AV.im l).cells=[.im l]:=rfl
@[simp] theorem adH {l o:Nat}:(AV.pt l o).cells=[.pt l o]:=rfl
@[simp] theorem adN {l:Nat}:(AV.mp l).cells=[.mp l]:=rfl
@[simp] theorem adD {l:Nat}:(AV.yl l).cells=[.yl l]:=rfl
@[simp] theorem adQ {f:Fn} {as cs:List AV}:(AV.fn f as cs).cells=[.fn f as cs]:=rfl
@[simp] theorem ab5 {t:Nat} {v:AV}:(AV.ifc t v).cells=[.ifc t v]:=rfl
@[simp] theorem adR {l:List AV}:(AV.ag l).cells=l:=rfl
@[simp] theorem adE {l:Nat} {es:List AV}:(AV.st l es).cells=[.st l es]:=rfl
@[simp] theorem adJ:AV.np.cells=[.np]:=rfl
@[simp] theorem adK:AV.nm.cells=[.nm]:=rfl
@[simp] theorem adI:AV.ns.cells=[.ns]:=rfl
@[simp] theorem adM:AV.nf.cells=[.nf]:=rfl
@[simp] theorem adL:AV.ni.cells=[.ni]:=rfl
@[simp] theorem afh {k:IntKind} {n:Int}:(AV.i k n).flat=true:=rfl
@[simp] theorem afi {x:Bool}:(AV.b x).flat=true:=rfl
@[simp] theorem afg {l:List UInt8}:(AV.s l).flat=true:=rfl
@[simp] theorem abq {body:aj} {l:Nat} {env:Env} {s1:St}:xU glob call cx body l (.norm env s1)=match s1[l]? with
  | some (.loop e1 p1 a1 b1 .ready)=>ND l (aC glob call cx true body env (s1.set l (.loop e1 p1 a1 b1 .busy)))
  | _=>.fail:=rfl
@[simp] theorem aai {l:Nat} {env:Env} {s2:St}:ND l (.norm env s2)=rV s2 l .ready true:=rfl
@[simp] theorem aaI {l:Nat} {env:Env} {s2:St}:ND l (.ret env s2)=rV s2 l .ret false:=rfl
@[simp] theorem aaj {l id:Nat} {env:Env} {s2:St}:ND l (.exit id env s2)=rV s2 l (.exit id) false:=rfl
@[simp] theorem abU {pure keep:Bool} {s s1:St} {res:List RV} {env:Env}:endW glob pure keep s res (.norm env s1)=match lJ glob env s1 res with
  | some rs=>finish pure keep s s1 (tH rs)
  | none=>.fail:=rfl
@[simp] theorem ady {pure keep:Bool} {s s1:St} {res:List RV} {v:AV}:endW glob pure keep s res (.pan v s1)=(finish pure keep s s1 v).toPan:=rfl
@[simp] theorem adx {pure keep:Bool} {s s1:St} {res:List RV} {env:Env}:endW glob pure keep s res (.ret env s1)=match lJ glob env s1 res with
  | some rs=>finish pure keep s s1 (tH rs)
  | none=>.fail:=rfl
end
end Go.Ai
