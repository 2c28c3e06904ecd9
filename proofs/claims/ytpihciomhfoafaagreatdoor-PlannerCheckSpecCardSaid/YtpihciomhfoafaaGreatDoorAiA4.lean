/-
 Conversions, lengths, parts of slices and strings, tuples, functions, interfaces, lookups.
-/
import Derived.Test.YtpihciomhfoafaaGreatDoorAiA3
import Derived.Laws.BytesString
import Derived.Laws.StructEq
set_option maxRecDepth 100000
set_option linter.unusedSimpArgs false
set_option linter.unusedVariables false
set_option linter.unusedSectionVars false
namespace Go.Ai
variable {P:Program} {glob:Nat→Option (List AV)} {g:af} {s:St} {B:Nat} {w:World} {env:Env} {a:Act} {o:Oper} {call:AV→List AV→St→Ctx→CO} {cx:Ctx} {e:EV} {env':Env} {s':St}
theorem Un {t:TypeId} {k:IntKind} (h:isInt P t k=true):P.underlying t=some (.int k):=by
 unfold isInt at h
 split at h
 ·rename_i k' hu;simp at h;subst h;exact hu
 ·cases h
theorem Us {k:IntKind} {x:IX} (h:Sim P glob g s B w (Act.tm a) env) (hc:au P o.op (.toInt k x)=true) (hr:aop glob call cx env s (.toInt k x)=.ok e env' s'):Good P glob g s B w a (execOp a.eval o) e env' s':=by
 simp only [au] at hc
 split at hc
 ·rename_i src dst x' hop
  simp only [Bool.and_eq_true] at hc
  obtain ⟨⟨hx,hd⟩,hsrc⟩:=hc
  simp only [aop] at hr
  split at hr
  ·rename_i k' n hn
   cases hr
   have hxv:=fO (ai (a:=a) hx h.env h.base.glob hn)
   cases hu:P.underlying src with
   | none=>simp [hu] at hsrc
   | some d=>
    refine .val h ?_ (.i _ _)
    simp only [execOp,hop]
    refine ay ?_
    rw [hxv]
    cases d<;>simp [convert,Sem.run_bind,run_underlying hu,run_underlying (Un hd),Conv.intToInt]
  ·cases hr
 ·cases hc
theorem V3 {x:Operand} {ix:IX} (hc:aS x ix=true) (h:Sim P glob g s B w (Act.tm a) env) {es:List AV} (he:elems glob env ix=some es):∃ad cap,a.eval x=.slice ad es.length cap:=by
 have hown:∀k tip t sz es,lk env k=some (.own tip t sz es)→∃ad cap,Act.tm a k=.slice ad es.length cap:=by
  intro k tip t sz es hk
  obtain ⟨xs,q1,_⟩:=h.env.rel k _ hk
  rcases q1.2 with ⟨hv,hn⟩|⟨gb,cap',cur,hv',_⟩
  ·exact ⟨_,_,by rw [hv,hn]⟩
  ·exact ⟨_,_,hv'⟩
 unfold elems at he
 split at he
 ·rename_i es' hv
  cases he
  have hr:=ai (a:=a) hc h.env h.base.glob (v:=.sl es) (by simp [rd,hv])
  generalize a.eval x=ax at hr
  cases hr with
  | slNil=>exact ⟨_,_,rfl⟩
  | slE=>exact ⟨_,_,rfl⟩
  | sl=>exact ⟨_,_,rfl⟩
 ·rename_i es' hv
  cases he
  have hr:=ai (a:=a) hc h.env h.base.glob (v:=.sl es) (by simp [rd,hv])
  generalize a.eval x=ax at hr
  cases hr with
  | slNil=>exact ⟨_,_,rfl⟩
  | slE=>exact ⟨_,_,rfl⟩
  | sl=>exact ⟨_,_,rfl⟩
 ·rename_i hv
  cases he
  have hr:=ai (a:=a) hc h.env h.base.glob (v:=.ns) (by simp [rd,hv])
  generalize a.eval x=ax at hr
  cases hr;exact ⟨_,_,rfl⟩
 ·rename_i hv
  cases he
  have hr:=ai (a:=a) hc h.env h.base.glob (v:=.se) (by simp [rd,hv])
  generalize a.eval x=ax at hr
  cases hr;exact ⟨_,_,rfl⟩
 ·rename_i hv
  cases he
  have hr:=ai (a:=a) hc h.env h.base.glob (v:=.sz) (by simp [rd,hv])
  generalize a.eval x=ax at hr
  cases hr;exact ⟨_,_,rfl⟩
 ·rename_i tip t sz es' hv
  cases he
  rcases dF (n:=s.length) hc h.base.glob hv with ⟨k,_,hk,hx⟩|⟨v',hv',_,_⟩
  ·rw [hx];exact hown k _ _ _ _ hk
  ·cases hv'
 ·rename_i j hv
  split at he
  ·rename_i tip t sz es' hj
   cases he
   rcases dF (n:=s.length) hc h.base.glob hv with ⟨k,_,hk,hx⟩|⟨v',hv',_,_⟩
   ·have e1:Act.tm a k=Act.tm a j:=h.env.rel k _ hk
    rw [hx,e1];exact hown j _ _ _ _ hj
   ·cases hv'
  ·cases he
 ·cases he
theorem oz {c:Call} (hop:o.op=.call c) {b:Builtin} (hcal:c.callee=.builtin b):
  execOp a.eval o=builtin b c.argTypes o.type (c.args.map fun | .const _=>true | _=>false) (c.args.map a.eval):=by
 simp only [execOp,hop,resolve,hcal]
 rfl
theorem Xm {k:Nat} {x:IX} (h:Sim P glob g s B w (Act.tm a) env) (hc:au P o.op (.len k x)=true) (hr:aop glob call cx env s (.len k x)=.ok e env' s'):Good P glob g s B w a (execOp a.eval o) e env' s':=by
 simp only [au] at hc
 split at hc
 ·rename_i c hop
  split at hc
  ·rename_i x' t hcal hargs htys
   simp only [Bool.and_eq_true] at hc
   obtain ⟨hx,hk⟩:=hc
   have hex:=oz (a:=a) hop hcal
   have ha:c.args.map a.eval=#[a.eval x']:=by
    apply Array.toList_inj.1;simp [hargs]
   have ht:c.argTypes=#[t]:=by apply Array.toList_inj.1;simp [htys]
   rw [ha,ht] at hex
   rw [hex]
   have hb:∀{u:Value},(Builtin.len_ #[t] o.type #[a.eval x']).run P w=.ok u w→(builtin .len #[t] o.type (c.args.map fun | .const _=>true | _=>false) #[a.eval x']).run P w=.ok (.value u) w:=by
    intro u hu
    simp only [builtin];exact ay hu
   split at hk
   ·rename_i el hu
    simp only [aop] at hr
    split at hr
    ·rename_i es hes
     cases hr
     obtain ⟨ad,cap,hxv⟩:=V3 hx h hes
     exact .val h (hb (by rw [hxv];simp [Builtin.len_,Sem.run_bind,run_underlying hu,goInt])) (.i _ _)
    ·split at hr
     ·rename_i l ver sz2 o2 m hes
      cases hr
      have hrep:=ai (a:=a) hx h.env h.base.glob hes
      have hxv:∃ad cap,a.eval x'=.slice ad m cap:=by
       generalize a.eval x'=ax at hrep
       cases hrep<;>exact ⟨_,_,rfl⟩
      obtain ⟨ad,cap,hxv⟩:=hxv
      exact .val h (hb (by rw [hxv];simp [Builtin.len_,Sem.run_bind,run_underlying hu,goInt])) (.i _ _)
     ·cases hr
   ·rename_i hu
    simp only [aop] at hr
    split at hr
    ·rename_i l hl
     cases hr
     have hxv:=iV (ai (a:=a) hx h.env h.base.glob hl)
     exact .val h (hb (by rw [hxv];simp [Builtin.len_,Sem.run_bind,run_underlying hu,goInt,ByteArray.size_mk'])) (.i _ _)
    ·cases hr
   ·rename_i kt et hu
    simp only [aop] at hr
    split at hr
    ·rename_i es hes
     cases hr
     have hrep:=ai (a:=a) hx h.env h.base.glob hes
     generalize a.eval x'=ax at hrep hb
     cases hrep with
     | im bk _ vs hm hl hk hv=>
      obtain ⟨ents,clock,q1,q2,_⟩:=h.base.imm.mm bk _ hm
      have hsz:ents.size=es.length:=by
       rw [←hl,←q2];simp
      exact .val h (hb (by simp [Builtin.len_,Sem.run_bind,run_underlying hu,goInt,getObj,Sem.run,q1,hsz])) (.i _ _)
    ·rename_i l hes
     split at hr
     ·rename_i es hsl
      cases hr
      have hrep:=ai (a:=a) hx h.env h.base.glob hes
      generalize a.eval x'=ax at hrep hb
      cases hrep with
      | mp _ hlt=>
       obtain ⟨_,ents,clock,q1,q2,_⟩:=h.base.heap.obj l _ hsl
       have hsz:ents.size=es.length:=by have:=q2.1;simpa using this
       exact .val h (hb (by simp [Builtin.len_,Sem.run_bind,run_underlying hu,goInt,getObj,Sem.run,q1,hsz])) (.i _ _)
     ·rename_i es hsl
      cases hr
      have hrep:=ai (a:=a) hx h.env h.base.glob hes
      generalize a.eval x'=ax at hrep hb
      cases hrep with
      | mp _ hlt=>
       obtain ⟨_,ents,clock,q1,q2,_⟩:=h.base.heap.obj l _ hsl
       have hsz:ents.size=es.length:=by have:=q2.1;simpa using this
       exact .val h (hb (by simp [Builtin.len_,Sem.run_bind,run_underlying hu,goInt,getObj,Sem.run,q1,hsz])) (.i _ _)
     ·cases hr
    ·rename_i hnm
     cases hr
     have hrep:=ai (a:=a) hx h.env h.base.glob hnm
     generalize a.eval x'=ax at hrep hb
     cases hrep
     exact .val h (hb (by simp [Builtin.len_,Sem.run_bind,run_underlying hu,goInt])) (.i _ _)
    ·cases hr
   ·cases hk
  ·cases hc
 ·cases hc
theorem Tf {isMin:Bool} {x y:IX} (h:Sim P glob g s B w (Act.tm a) env) (hc:au P o.op (.minmax isMin x y)=true) (hr:aop glob call cx env s (.minmax isMin x y)=.ok e env' s'):Good P glob g s B w a (execOp a.eval o) e env' s':=by
 simp only [au] at hc
 split at hc
 ·rename_i c hop
  split at hc
  ·rename_i b x' y' hcal hargs
   simp only [Bool.and_eq_true] at hc
   obtain ⟨⟨hx,hy⟩,hb⟩:=hc
   simp only [aop] at hr
   split at hr
   ·rename_i k p k' q hp hq
    split at hr
    ·rename_i hk;subst hk
     cases hr
     have hxv:=fO (ai (a:=a) hx h.env h.base.glob hp)
     have hyv:=fO (ai (a:=a) hy h.env h.base.glob hq)
     rw [oz (a:=a) hop hcal]
     have ha:c.args.map a.eval=#[a.eval x',a.eval y']:=by apply Array.toList_inj.1;simp [hargs]
     rw [ha,hxv,hyv]
     refine .val h ?_ (.i _ _)
     cases isMin with
     | true=>
      simp only [if_true,beq_iff_eq] at hb
      subst hb
      simp only [builtin]
      exact ay (by simp [Builtin.min_,Builtin.min2])
     | false=>
      simp only [Bool.false_eq_true,if_false,beq_iff_eq] at hb
      subst hb
      simp only [builtin]
      exact ay (by simp [Builtin.max_,Builtin.max2])
    ·cases hr
   ·cases hr
  ·cases hc
 ·cases hc
theorem Xq {x:IX} {i:Nat} (h:Sim P glob g s B w (Act.tm a) env) (hc:au P o.op (.ext x i)=true) (hr:aop glob call cx env s (.ext x i)=.ok e env' s'):Good P glob g s B w a (execOp a.eval o) e env' s':=by
 simp only [au] at hc
 split at hc
 ·rename_i x' j hop
  simp only [Bool.and_eq_true,beq_iff_eq] at hc
  obtain ⟨rfl,hx⟩:=hc
  simp only [aop] at hr
  split at hr
  ·rename_i cs hcs
   obtain ⟨r,h1,rfl,rfl,rfl⟩:=uJ hr
   have hrep:=ai (a:=a) hx h.env h.base.glob hcs
   have hgo:(execOp a.eval o)=(do pure (Next.value (←Instr.extract (a.eval x') i))):=by simp only [execOp,hop]
   rw [hgo]
   generalize a.eval x'=ax at hrep
   cases hrep with
   | tu vs _ hl hrr=>
    obtain ⟨hlt,rfl⟩:=List.getElem?_eq_some_iff.1 h1
    have hlt':i<vs.size:=by omega
    exact .val h (ay (u:=vs[i]) (by simp [Instr.extract,hlt'])) (hrr i hlt' hlt)
  ·cases hr
 ·cases hc
theorem VE {f:Fn} {as cs:List IX} (h:Sim P glob g s B w (Act.tm a) env) (hc:au P o.op (.mkfn f as cs)=true) (hr:aop glob call cx env s (.mkfn f as cs)=.ok e env' s'):Good P glob g s B w a (execOp a.eval o) e env' s':=by
 simp only [au] at hc
 split at hc
 ·rename_i f' vs ws hop
  simp only [Bool.and_eq_true,beq_iff_eq] at hc
  obtain ⟨⟨⟨rfl,hf⟩,h1⟩,h2⟩:=hc
  simp only [aop] at hr
  split at hr
  ·rename_i as' env1 he1
   split at hr
   ·rename_i cs' env2 he2
    cases hr
    obtain ⟨g1,s1,m1,r1⟩:=qB h1 h he1
    obtain ⟨g2,s2,m2,r2⟩:=qB h2 m1 he2
    refine ⟨.func f (vs.map a.eval) (ws.map a.eval),w,g2,.inl ?_,s1.trans s2,m2,.v ?_⟩
    ·simp only [execOp,hop];exact ay (by simp [Instr.makeFunc])
    ·have r1':=r1.mono s2.le
     refine .fn f _ _ _ _ (by have:=r1'.1;simpa using this) (by have:=r2.1;simpa using this) (fun i hi hi'=>?_) (fun i hi hi'=>?_)
     ·have:=r1'.2 i (by simpa using hi) hi';simpa using this
     ·have:=r2.2 i (by simpa using hi) hi';simpa using this
   ·cases hr
  ·cases hr
 ·cases hc
theorem VD {t:Nat} {x:IX} (h:Sim P glob g s B w (Act.tm a) env) (hc:au P o.op (.mkif t x)=true) (hr:aop glob call cx env s (.mkif t x)=.ok e env' s'):Good P glob g s B w a (execOp a.eval o) e env' s':=by
 simp only [au] at hc
 split at hc
 ·rename_i t' x' hop
  simp only [Bool.and_eq_true,beq_iff_eq] at hc
  obtain ⟨⟨rfl,hx⟩,hty⟩:=hc
  simp only [aop] at hr
  split at hr
  ·rename_i v env1 he
   cases hr
   obtain ⟨g1,s1,m1,r1⟩:=jZ hx h he
   refine ⟨.iface t (a.eval x'),w,g1,.inl ?_,s1,m1,.v (.ifc t _ _ r1)⟩
   simp only [execOp,hop]
   refine ay ?_
   split at hty
   ·cases hty
   ·cases hty
   ·rename_i d hu hne
    cases hd:P.underlying t with
    | none=>exact absurd hd (by simpa using hne)
    | some d=>cases d<;>simp_all [Instr.makeInterface,Sem.run_bind,run_underlying hd]
  ·cases hr
 ·cases hc
theorem Td {x:IX} (h:Sim P glob g s B w (Act.tm a) env) (hc:au P o.op (.nilchk x)=true) (hr:aop glob call cx env s (.nilchk x)=.ok e env' s'):Good P glob g s B w a (execOp a.eval o) e env' s':=by
 simp only [au] at hc
 split at hc
 ·rename_i x' hop
  simp only [aop] at hr
  split at hr
  ·rename_i cs hcs
   cases hr
   have hrep:=ai (a:=a) hc h.env h.base.glob hcs
   refine .val h (v:=a.eval x') ?_ hrep
   simp only [execOp,hop]
   generalize a.eval x'=ax at hrep
   cases hrep;rfl
  ·rename_i l off hcs
   cases hr
   have hrep:=ai (a:=a) hc h.env h.base.glob hcs
   refine .val h (v:=a.eval x') ?_ hrep
   simp only [execOp,hop]
   generalize a.eval x'=ax at hrep
   cases hrep;rfl
  ·cases hr
 ·cases hc
end Go.Ai
namespace Go.Ai
variable {P:Program} {glob:Nat→Option (List AV)} {g:af} {s:St} {B:Nat} {w:World} {env:Env} {a:Act} {o:Oper} {call:AV→List AV→St→Ctx→CO} {cx:Ctx} {e:EV} {env':Env} {s':St}
inductive KV:Nat→AV→AV→Bool→Prop
 | i (k:IntKind) (p q:Int):KV 0 (.i k p) (.i k q) (p == q)
 | s (p q:List UInt8):KV 1 (.s p) (.s q) (p == q)
 | b (p q:Bool):KV 2 (.b p) (.b q) (p == q)
theorem Dy {xs ys:List AV} {r:Bool} (h:nO [] xs ys=some r):xs=[]∧ys=[]∧r=true:=by
 cases xs with
 | nil=>
  cases ys with
  | nil=>simp [nO] at h;exact ⟨rfl,rfl,h⟩
  | cons y ys=>simp [nO] at h
 | cons x xs=>simp [nO] at h
theorem zS {k:Nat} {ks:List Nat} {xs ys:List AV} {r:Bool} (h:nO (k::ks) xs ys=some r):∃x xs' y ys' b r',xs=x::xs'∧ys=y::ys'∧nO ks xs' ys'=some r'∧r=(b && r')∧KV k x y b:=by
 unfold nO at h
 split at h
 ·rename_i h1;cases h1
 ·rename_i h1;cases h1
  split at h
  case isFalse=>cases h
  rename_i hkk;subst hkk
  split at h
  ·rename_i r' h1;cases h;exact ⟨_,_,_,_,_,r',rfl,rfl,h1,rfl,.i _ _ _⟩
  ·cases h
 ·rename_i h1;cases h1
  split at h
  ·rename_i r' h1;cases h;exact ⟨_,_,_,_,_,r',rfl,rfl,h1,rfl,.s _ _⟩
  ·cases h
 ·rename_i h1;cases h1
  split at h
  ·rename_i r' h1;cases h;exact ⟨_,_,_,_,_,r',rfl,rfl,h1,rfl,.b _ _⟩
  ·cases h
 ·cases h
theorem QC {k:Nat} {t:TypeId} {x y:AV} {b:Bool} (h:SX P k t=true) (hk:KV k x y b) {g:af} {n:Nat} {u v:Value} (hu:Rep g n u x) (hv:Rep g n v y) (d:Nat) (w:World):
  (Op.equalIn (d+1) t u v).run P w=.ok b w∧∀{us:Array Value} {i:Nat} {z:Value},us[i]?=some z→(Go.part t us i).run P w=.ok z w:=by
 cases hk with
 | i k p q=>
  simp only [SX] at h
  split at h
  ·rename_i kd hty
   cases hu;cases hv
   refine ⟨by simp [Op.equalIn,run_underlying hty],fun {us i z} hz=>?_⟩
   obtain ⟨hi,rfl⟩:=Array.getElem?_eq_some_iff.1 hz
   simp [Go.part,isAgg,Sem.run_bind,run_underlying hty,hi]
  ·cases h
 | s p q=>
  simp only [SX] at h
  split at h
  ·rename_i hty
   cases hu;cases hv
   have e1:((⟨p.toArray⟩:ByteArray) == ⟨q.toArray⟩)=(p == q):=by
    apply Bool.eq_iff_iff.2
    change (p.toArray == q.toArray)=true ↔ (p == q)=true
    simp
   refine ⟨by simp [Op.equalIn,run_underlying hty,e1],fun {us i z} hz=>?_⟩
   obtain ⟨hi,rfl⟩:=Array.getElem?_eq_some_iff.1 hz
   simp [Go.part,isAgg,Sem.run_bind,run_underlying hty,hi]
  ·cases h
 | b p q=>
  simp only [SX] at h
  split at h
  ·rename_i hty
   cases hu;cases hv
   refine ⟨by simp [Op.equalIn,run_underlying hty],fun {us i z} hz=>?_⟩
   obtain ⟨hi,rfl⟩:=Array.getElem?_eq_some_iff.1 hz
   simp [Go.part,isAgg,Sem.run_bind,run_underlying hty,hi]
  ·cases h
theorem OZ:∀(ks:List Nat) (xs ys:List AV) {r:Bool},nO ks xs ys=some r→xs.length=ks.length∧ys.length=ks.length
 | [],xs,ys,r,h=>by obtain ⟨rfl,rfl,_⟩:=Dy h;exact ⟨rfl,rfl⟩
 | k::ks,xs,ys,r,h=>by
  obtain ⟨x,xs',y,ys',b,r',rfl,rfl,h1,_⟩:=zS h
  have:=OZ ks xs' ys' h1
  simp [this]
theorem Hy {w:World} {d N:Nat} {us vs:Array Value}:∀(fs:List Field) (i:Nat) (ks:List Nat) (xs ys:List AV) {r:Bool},jY P i ks fs=true→nO ks xs ys=some r→
  aB g N (us.toList.drop i) xs→aB g N (vs.toList.drop i) ys→(Op.eqFields (d+1) us vs fs).run P w=.ok r w
 | [],i,ks,xs,ys,r,hf,h,hu,hv=>by
  cases ks with
  | nil=>obtain ⟨rfl,rfl,rfl⟩:=Dy h;simp [Op.eqFields]
  | cons k ks=>simp [jY] at hf
 | f::fs,i,[],xs,ys,r,hf,h,hu,hv=>by simp [jY] at hf
 | f::fs,i,k::ks,xs,ys,r,hf,h,hu,hv=>by
  simp only [jY,Bool.and_eq_true,beq_iff_eq,bne_iff_ne] at hf
  obtain ⟨⟨⟨rfl,hn⟩,hs⟩,hf⟩:=hf
  obtain ⟨x,xs',y,ys',b,r',rfl,rfl,h1,rfl,hk⟩:=zS h
  have tail:∀{us:Array Value} {x:AV} {xs:List AV},aB g N (us.toList.drop f.offset) (x::xs)→∃v,us[f.offset]?=some v∧Rep g N v x∧aB g N (us.toList.drop (f.offset+1)) xs:=by
   intro us x xs hr
   have hlt:f.offset<us.toList.length:=by have:=hr.1;simp at this ⊢;omega
   rw [List.drop_eq_getElem_cons hlt] at hr
   exact ⟨us[f.offset]'(by simpa using hlt),by simp at hlt;simp [hlt],by simpa using hr.head,hr.tail⟩
  obtain ⟨u1,e1,r1,t1⟩:=tail hu
  obtain ⟨v1,e2,r2,t2⟩:=tail hv
  have ih:=Hy (w:=w) (d:=d) fs (f.offset+1) ks xs' ys' hf h1 t1 t2
  obtain ⟨heq,hp⟩:=QC hs hk r1 r2 d w
  simp only [Op.eqFields,Sem.run_ite,Sem.run_bind,hp e1,hp e2,Result.andThen_ok,heq]
  rw [if_pos hn]
  cases b with
  | true=>simpa using ih
  | false=>simp
theorem GR {w:World} {b:Bool} {m N:Nat} {us:Array Value}:∀(fs:List Field) (i:Nat) (ks:List Nat) (xs:List AV),jY P i ks fs=true→Aj ks xs=true→aB g N (us.toList.drop i) xs→
  (forIn (m:=Sem) fs PUnit.unit (fun f _=>
   if f.name≠ "_" then do
    let x ←Go.part f.type us f.offset
    Instr.checkKey b (m+1) f.type x
    pure (ForInStep.yield PUnit.unit)
   else pure (ForInStep.yield PUnit.unit))).run P w=.ok PUnit.unit w
 | [],_,_,_,_,_,_=>by simp
 | f::fs,i,[],xs,hf,_,_=>by simp [jY] at hf
 | f::fs,i,k::ks,xs,hf,hk,hr=>by
  simp only [jY,Bool.and_eq_true,beq_iff_eq,bne_iff_ne] at hf
  obtain ⟨⟨⟨rfl,hn⟩,hs⟩,hf⟩:=hf
  have hx:∃x xs',xs=x::xs'∧Aj ks xs'=true∧∃r,KV k x x r:=by
   unfold Aj at hk
   split at hk
   ·rename_i h1;cases h1
   ·rename_i h1;cases h1;rename_i kd z zs;exact ⟨_,_,rfl,hk,_,KV.i kd z z⟩
   ·rename_i h1;cases h1;rename_i z zs;exact ⟨_,_,rfl,hk,_,KV.s z z⟩
   ·rename_i h1;cases h1;rename_i z zs;exact ⟨_,_,rfl,hk,_,KV.b z z⟩
   ·cases hk
  obtain ⟨x,xs',rfl,hk',r0,hv⟩:=hx
  have hlt:f.offset<us.toList.length:=by have:=hr.1;simp at this ⊢;omega
  rw [List.drop_eq_getElem_cons hlt] at hr
  have hv':us[f.offset]?=some (us[f.offset]'(by simpa using hlt)):=by simp at hlt;simp [hlt]
  have ih:=GR (w:=w) (b:=b) (m:=m) fs (f.offset+1) ks xs' hf hk' hr.tail
  have hp:=(QC hs hv hr.head hr.head 0 w).2 hv'
  have hc:(Instr.checkKey b (m+1) f.type (us.toList[f.offset]'hlt)).run P w=.ok () w:=by
   have hh:=hr.head
   cases hv with
   | i kd p=>rw [fO hh];simp only [SX] at hs;split at hs<;>first | (rename_i hty;simp [Instr.checkKey,Sem.run_bind,run_underlying hty])|cases hs
   | s p=>rw [iV hh];simp only [SX] at hs;split at hs<;>first | (rename_i hty;simp [Instr.checkKey,Sem.run_bind,run_underlying hty])|cases hs
   | b p=>rw [jS hh];simp only [SX] at hs;split at hs<;>first | (rename_i hty;simp [Instr.checkKey,Sem.run_bind,run_underlying hty])|cases hs
  simp only [List.forIn_cons,Sem.run_bind,Sem.run_ite]
  rw [if_pos hn]
  simp only [hp,Sem.run_bind,Result.andThen_ok]
  rw [Array.getElem_toList] at hc
  simp only [hc,Result.andThen_ok,Sem.run_pure]
  exact ih
end Go.Ai
namespace Go.Ai
variable {P:Program} {glob:Nat→Option (List AV)} {g:af} {s:St} {B:Nat} {w:World} {env:Env} {a:Act} {o:Oper} {call:AV→List AV→St→Ctx→CO} {cx:Ctx} {e:EV} {env':Env} {s':St}
def xK (kk:Nat):TypeDesc→Bool
 | .int _=>kk == 0
 | .string=>kk == 1
 | .bool=>kk == 2
 | _=>false
theorem zU {kk:Nat} {t:TypeId} (h:IL P kk t=true):∃kt et,P.underlying t=some (.map kt et)∧EW P kk kt=true:=by
 unfold IL at h
 split at h
 ·rename_i kt et hu;exact ⟨kt,et,hu,h⟩
 ·cases h
theorem vN {kk:Nat} {d:TypeDesc} (hd:xK kk d=true) {x y:AV} {r:Bool} (h:oK kk x y=some r) {N:Nat} {u v:Value} (hu:Rep g N u x) (hv:Rep g N v y):Instr.sameNow d u v=some r:=by
 unfold oK at h
 split at h
 ·split at h
  ·rename_i hk;subst hk;cases h
   rw [fO hu,fO hv]
   cases d<;>simp [xK] at hd<;>simp [Instr.sameNow]
  ·cases h
 ·cases h
  rw [iV hu,iV hv]
  rename_i p q
  have e1:((⟨p.toArray⟩:ByteArray) == ⟨q.toArray⟩)=(p == q):=by
   rw [Bool.eq_iff_iff]
   change (p.toArray == q.toArray)=true ↔ (p == q)=true
   simp
  cases d<;>simp [xK] at hd<;>simp [Instr.sameNow,e1]
 ·cases h
  rw [jS hu,jS hv]
  cases d<;>simp [xK] at hd<;>simp [Instr.sameNow]
 ·rename_i n _ _
  exfalso
  cases d<;>simp [xK] at hd
 ·cases h
theorem Uz {kk:Nat} {d:TypeDesc} (hd:xK kk d=true) {x:AV} {N:Nat} {u:Value} (hu:Rep g N u x):∀(es:List (AV×AV)) (ents:List MapEntry) (i:Nat) {r:Option AV},find kk x es=some r→
  aB g N (ents.map (·.key)) (es.map (·.1))→aB g N (ents.map (·.val)) (es.map (·.2))→
  (r=none∧Instr.findNow d u ents i=some none)∨(∃a j v,r=some a∧Instr.findNow d u ents i=some (some (j,v))∧Rep g N v a):=by
 intro es
 induction es with
 | nil=>
  intro ents i r h hk hv
  cases ents with
  | nil=>simp [find] at h;subst h;exact .inl ⟨rfl,rfl⟩
  | cons e es=>exact absurd hk.1 (by simp)
 | cons p es ih=>
  intro ents i r h hk hv
  obtain ⟨k',v'⟩:=p
  cases ents with
  | nil=>exact absurd hk.1 (by simp)
  | cons e ents=>
   simp only [List.map_cons] at hk hv
   simp only [find] at h
   split at h
   ·rename_i hq
    cases h
    have:=vN hd hq hu hk.head
    exact .inr ⟨v',i,e.val,rfl,by simp [Instr.findNow,this],hv.head⟩
   ·rename_i hq
    have:=vN hd hq hu hk.head
    rcases ih ents (i+1) h hk.tail hv.tail with ⟨h1,h2⟩|⟨a,j,v,h1,h2,h3⟩
    ·exact .inl ⟨h1,by simp [Instr.findNow,this,h2]⟩
    ·exact .inr ⟨a,j,v,h1,by simp [Instr.findNow,this,h2],h3⟩
   ·cases h
theorem run_checkKey {kk:Nat} {kt:TypeId} {d:TypeDesc} (hk:P.underlying kt=some d) (hd:xK kk d=true) (b:Bool) (u:Value):(Instr.checkKey b 10000 kt u).run P w=.ok () w:=by
 have:∀n,(Instr.checkKey b (n+1) kt u).run P w=.ok () w:=by
  intro n
  cases d<;>simp [xK] at hd<;>cases u<;>simp [Instr.checkKey,Sem.run_bind,run_underlying hk]
 exact this 9999
def KF (P:Program) (n:Nat) (fs:Array Field):Prop:=(n<50∧fs.size=n∧uw P 0 fs.toList=true)∨(¬n<50∧jY P 0 (kds n) fs.toList=true)
theorem qU {kk:Nat} {kt:TypeId} (h:EW P kk kt=true):(∃d,P.underlying kt=some d∧xK kk d=true)∨(∃n fs,kk=n+3∧P.underlying kt=some (.struct fs)∧KF P n fs∧P.stoodInHeld kt=false):=by
 unfold EW at h
 split at h
 ·rename_i hk;exact .inl ⟨_,hk,rfl⟩
 ·rename_i hk;exact .inl ⟨_,hk,rfl⟩
 ·rename_i hk;exact .inl ⟨_,hk,rfl⟩
 ·rename_i n fs hk
  simp only [Bool.and_eq_true,Bool.not_eq_true'] at h
  refine .inr ⟨n,fs,rfl,hk, ?_,h.2⟩
  have h1:=h.1
  by_cases hn:n<50
  ·rw [if_pos hn] at h1
   simp only [Bool.and_eq_true,beq_iff_eq] at h1
   exact .inl ⟨hn,h1.1,h1.2⟩
  ·rw [if_neg hn] at h1
   exact .inr ⟨hn,h1⟩
 ·cases h
theorem Cm {w:World} {t:TypeId} (h:isStr P t=true) {us:Array Value} {i:Nat} {v:Value} (hv:us[i]?=some v):(Go.part t us i).run P w=.ok v w:=by
 have hu:=uN h
 obtain ⟨hi,rfl⟩:=Array.getElem?_eq_some_iff.1 hv
 simp [Go.part,isAgg,Sem.run_bind,run_underlying hu,hi]
theorem NS:∀(xs ys:List AV) {r:Bool},fB xs ys=some r→xs.length=ys.length
 | [],[],_,_=>rfl
 | [],_::_,_,h=>by simp [fB] at h
 | x::xs,[],_,h=>by cases x<;>simp [fB] at h
 | x::xs,y::ys,r,h=>by
  cases x<;>(try (simp [fB] at h;done))
  cases y<;>(try (simp [fB] at h;done))
  simp only [fB] at h
  split at h
  ·rename_i q h1;simp [NS xs ys h1]
  ·cases h
theorem IY {w:World} {d:Nat} {us vs:Array Value} {N:Nat}:∀(fs:List Field) (i:Nat) (xs ys:List AV) {r:Bool},uw P i fs=true→fB xs ys=some r→xs.length=fs.length→
  aB g N (us.toList.drop i) xs→aB g N (vs.toList.drop i) ys→(Op.eqFields (d+1) us vs fs).run P w=.ok r w
 | [],i,xs,ys,r,_,h,hl,_,_=>by
  have:xs=[]:=List.eq_nil_of_length_eq_zero hl
  subst this
  cases ys with
  | nil=>simp [fB] at h;subst h;simp [Op.eqFields]
  | cons y ys=>simp [fB] at h
 | f::fs,i,xs,ys,r,hf,h,hl,hu,hv=>by
  simp only [uw,Bool.and_eq_true,beq_iff_eq,bne_iff_ne] at hf
  obtain ⟨⟨⟨rfl,hn⟩,hs⟩,hf⟩:=hf
  cases xs with
  | nil=>simp at hl
  | cons x xs=>
   cases ys with
   | nil=>cases x<;>simp [fB] at h
   | cons y ys=>
    cases x<;>(try (simp [fB] at h;done))
    cases y<;>(try (simp [fB] at h;done))
    rename_i p q
    simp only [fB] at h
    cases h1:fB xs ys with
    | none=>rw [h1] at h;cases h
    | some r'=>
    rw [h1] at h
    simp only [Option.some.injEq] at h
    have h2:=h
    have tail:∀{us:Array Value} {x:AV} {xs:List AV},aB g N (us.toList.drop f.offset) (x::xs)→∃v,us[f.offset]?=some v∧Rep g N v x∧aB g N (us.toList.drop (f.offset+1)) xs:=by
     intro us x xs hr
     have hlt:f.offset<us.toList.length:=by have:=hr.1;simp at this ⊢;omega
     rw [List.drop_eq_getElem_cons hlt] at hr
     exact ⟨us[f.offset]'(by simpa using hlt),by simp at hlt;simp [hlt],by simpa using hr.head,hr.tail⟩
    obtain ⟨u1,e1,r1,t1⟩:=tail hu
    obtain ⟨v1,e2,r2,t2⟩:=tail hv
    rw [iV r1] at e1
    rw [iV r2] at e2
    have ih:=IY (w:=w) (d:=d) fs (f.offset+1) xs ys hf h1 (by simpa using hl) t1 t2
    have heq:(Op.equalIn (d+1) f.type (.string ⟨p.toArray⟩) (.string ⟨q.toArray⟩)).run P w=.ok (p == q) w:=by
     have e3:((⟨p.toArray⟩:ByteArray) == ⟨q.toArray⟩)=(p == q):=by
      rw [Bool.eq_iff_iff]
      change (p.toArray == q.toArray)=true ↔ (p == q)=true
      simp
     simp [Op.equalIn,run_underlying (uN hs),e3]
    simp only [Op.eqFields,Sem.run_ite,Sem.run_bind,Cm hs e1,Cm hs e2,Result.andThen_ok,heq]
    rw [if_pos hn]
    cases hpq:(p == q) with
    | true=>
     have:p=q:=by simpa using hpq
     simp [this] at h2
     subst h2
     simpa [hpq] using ih
    | false=>
     have:p≠q:=by simpa using hpq
     rw [hpq] at h2
     simp at h2
     subst h2
     simp
theorem rW {w:World} {n:Nat} {kt:TypeId} {fs:Array Field} (hu:P.underlying kt=some (.struct fs)) (hF:KF P n fs) (hp:P.stoodInHeld kt=false) {x y:AV} {r:Bool} (h:oK (n+3) x y=some r)
  {N:Nat} {u v:Value} (hx:Rep g N u x) (hy:Rep g N v y):(Op.equal kt u v).run P w=.ok r w:=by
 unfold oK at h
 split at h<;>(try (rename_i hk;omega))<;>(try (rename_i hk _ _;omega))<;>(try (rename_i hk _;omega))
 ·rename_i xs m ys zs hk
  have:m=n:=by omega
  subst this
  have hfo:P.fieldsOf kt=fs:=by simp [Program.fieldsOf,hu]
  cases hx with
  | ag us _ hl1 _ hr1=>
   cases hy with
   | ag vs _ hl2 _ hr2=>
    have:=run_equalIn_struct (P:=P) w 9999 kt us vs (by rw [hfo];exact hu) hp
    show (Op.equalIn 10000 kt (.agg us) (.agg vs)).run P w=_
    rw [this,hfo]
    have q1:aB g N (us.toList.drop 0) ys:=⟨by simpa using hl1,fun i hi hi'=>by simp only [List.drop_zero];rw [Array.getElem_toList];exact hr1 i (by simpa using hi) hi'⟩
    have q2:aB g N (vs.toList.drop 0) zs:=⟨by simpa using hl2,fun i hi hi'=>by simp only [List.drop_zero];rw [Array.getElem_toList];exact hr2 i (by simpa using hi) hi'⟩
    rcases hF with ⟨hn5,hn,hf⟩|⟨hn5,hf⟩
    ·rw [if_pos hn5] at h
     split at h
     ·exact IY (g:=g) (N:=N) (d:=9998) fs.toList 0 ys zs hf h (by simp;omega) q1 q2
     ·cases h
    ·rw [if_neg hn5] at h
     exact Hy (g:=g) (N:=N) (d:=9998) fs.toList 0 _ ys zs hf h q1 q2
 ·cases h
theorem Qd {w:World} {n:Nat} {kt:TypeId} {fs:Array Field} (hu:P.underlying kt=some (.struct fs)) (hF:KF P n fs) (hp:P.stoodInHeld kt=false) {x:AV} {N:Nat} {u:Value} (hx:Rep g N u x):
  ∀(es:List (AV×AV)) (ents:List MapEntry) (i:Nat) {r:Option AV},find (n+3) x es=some r→
  aB g N (ents.map (·.key)) (es.map (·.1))→aB g N (ents.map (·.val)) (es.map (·.2))→
  (r=none∧(Instr.findAsking kt u ents i).run P w=.ok none w)∨(∃a j v,r=some a∧(Instr.findAsking kt u ents i).run P w=.ok (some (j,v)) w∧Rep g N v a):=by
 intro es
 induction es with
 | nil=>
  intro ents i r h hk hv
  cases ents with
  | nil=>simp [find] at h;subst h;exact .inl ⟨rfl,rfl⟩
  | cons e es=>exact absurd hk.1 (by simp)
 | cons p es ih=>
  intro ents i r h hk hv
  obtain ⟨k',v'⟩:=p
  cases ents with
  | nil=>exact absurd hk.1 (by simp)
  | cons e ents=>
   simp only [List.map_cons] at hk hv
   simp only [find] at h
   split at h
   ·rename_i hq
    cases h
    have:=rW (w:=w) hu hF hp hq hx hk.head
    exact .inr ⟨v',i,e.val,rfl,by simp [Instr.findAsking,Sem.run_bind,this],hv.head⟩
   ·rename_i hq
    have:=rW (w:=w) hu hF hp hq hx hk.head
    rcases ih ents (i+1) h hk.tail hv.tail with ⟨h1,h2⟩|⟨a,j,v,h1,h2,h3⟩
    ·exact .inl ⟨h1,by simp [Instr.findAsking,Sem.run_bind,this,h2]⟩
    ·exact .inr ⟨a,j,v,h1,by simp [Instr.findAsking,Sem.run_bind,this,h2],h3⟩
   ·cases h
theorem pY {kt:TypeId} {fs:Array Field} (hu:P.underlying kt=some (.struct fs)) (u:Value) (ents:List MapEntry):(Instr.findKey kt u ents).run P w=(Instr.findAsking kt u ents).run P w:=by
 cases ents with
 | nil=>simp [Instr.findKey,run_underlying hu,Instr.findNow,Instr.findAsking]
 | cons e es=>simp [Instr.findKey,run_underlying hu,Instr.findNow,Instr.sameNow]
theorem MN {kk:Nat} {kt:TypeId} (h:EW P kk kt=true) (u:Value):(Instr.findKey kt u []).run P w=.ok none w:=by
 rcases qU h with ⟨d,hd,_⟩|⟨n,fs,_,hd,_⟩<;>simp [Instr.findKey,run_underlying hd,Instr.findNow]
theorem Ar {kk:Nat} {kt:TypeId} (hk:EW P kk kt=true) {x:AV} {N:Nat} {u:Value} (hx:Rep g N u x) (_:3≤kk→qj kk x=true) {es:List (AV×AV)} {ents:List MapEntry} {r:Option AV} (h:find kk x es=some r)
  (h1:aB g N (ents.map (·.key)) (es.map (·.1))) (h2:aB g N (ents.map (·.val)) (es.map (·.2))):
  (r=none∧(Instr.findKey kt u ents).run P w=.ok none w)∨(∃a j v,r=some a∧(Instr.findKey kt u ents).run P w=.ok (some (j,v)) w∧Rep g N v a):=by
 rcases qU hk with ⟨d,hd,hkd⟩|⟨n,fs,rfl,hu,hF,hp⟩
 ·rcases Uz hkd hx es ents 0 h h1 h2 with ⟨a1,a2⟩|⟨a,j,v,a1,a2,a3⟩
  ·exact .inl ⟨a1,by simp [Instr.findKey,run_underlying hd,a2]⟩
  ·exact .inr ⟨a,j,v,a1,by simp [Instr.findKey,run_underlying hd,a2],a3⟩
 ·rw [pY hu]
  exact Qd hu hF hp hx es ents 0 h h1 h2
theorem DW {w:World} {b:Bool} {m N:Nat} {us:Array Value}:∀(fs:List Field) (i:Nat) (xs:List AV),uw P i fs=true→fs.length=xs.length→aB g N (us.toList.drop i) xs→
  (forIn (m:=Sem) fs PUnit.unit (fun f _=>
   if f.name≠ "_" then do
    let x ←Go.part f.type us f.offset
    Instr.checkKey b (m+1) f.type x
    pure (ForInStep.yield PUnit.unit)
   else pure (ForInStep.yield PUnit.unit))).run P w=.ok PUnit.unit w
 | [],_,_,_,_,_=>by simp
 | f::fs,i,xs,hf,hl,hr=>by
  simp only [uw,Bool.and_eq_true,beq_iff_eq,bne_iff_ne] at hf
  obtain ⟨⟨⟨rfl,hn⟩,hs⟩,hf⟩:=hf
  cases xs with
  | nil=>simp at hl
  | cons x xs=>
   have hlt:f.offset<us.toList.length:=by have:=hr.1;simp at this ⊢;omega
   rw [List.drop_eq_getElem_cons hlt] at hr
   have hv:us[f.offset]?=some (us[f.offset]'(by simpa using hlt)):=by simp at hlt;simp [hlt]
   have ih:=DW (w:=w) (b:=b) (m:=m) fs (f.offset+1) xs hf (by simpa using hl) hr.tail
   have hc:∀v,(Instr.checkKey b (m+1) f.type v).run P w=.ok () w:=by
    intro v
    cases v<;>simp [Instr.checkKey,Sem.run_bind,run_underlying (uN hs)]
   simp only [List.forIn_cons,Sem.run_bind,Sem.run_ite]
   rw [if_pos hn]
   simp only [Cm hs hv,Sem.run_bind,Result.andThen_ok,hc,Sem.run_pure]
   exact ih
theorem bU {kk:Nat} {kt:TypeId} (hk:EW P kk kt=true) {x:AV} {N:Nat} {u:Value} (hx:Rep g N u x) (h3:3≤kk→qj kk x=true) (b:Bool):(Instr.checkKey b 10000 kt u).run P w=.ok () w:=by
 rcases qU hk with ⟨d,hd,hkd⟩|⟨n,fs,rfl,hu,hF,hp⟩
 ·exact run_checkKey hd hkd b u
 ·have hkk:=h3 (by omega)
  unfold qj at hkk
  split at hkk<;>(try (rename_i hk;omega))<;>(try (rename_i hk _;omega))
  ·rename_i m cs hk
   have:m=n:=by omega
   subst this
   cases hx with
   | ag us _ hl h1 hr=>
    have q1:aB g N (us.toList.drop 0) cs:=⟨by simpa using hl,fun i hi hi'=>by simp only [List.drop_zero];rw [Array.getElem_toList];exact hr i (by simpa using hi) hi'⟩
    rw [show (10000:Nat)=9999+1 from rfl,Instr.checkKey]
    simp only [Sem.run_bind,run_underlying hu,Result.andThen_ok]
    rw [←Array.forIn_toList]
    rcases hF with ⟨hn5,hn,hf⟩|⟨hn5,hf⟩
    ·rw [if_pos hn5] at hkk
     simp only [Bool.and_eq_true,beq_iff_eq] at hkk
     have e0:=DW (P:=P) (g:=g) (w:=w) (b:=b) (m:=9998) (N:=N) (us:=us) fs.toList 0 cs hf (by simp;omega) q1
     exact (congrArg (fun r=>Result.andThen r _) e0).trans rfl
    ·rw [if_neg hn5] at hkk
     have e0:=GR (P:=P) (g:=g) (w:=w) (b:=b) (m:=9998) (N:=N) (us:=us) fs.toList 0 _ cs hf hkk q1
     exact (congrArg (fun r=>Result.andThen r _) e0).trans rfl
  ·cases hkk
end Go.Ai
namespace Go.Ai
variable {P:Program} {glob:Nat→Option (List AV)} {g:af} {s:St} {B:Nat} {w:World} {env:Env} {a:Act} {o:Oper} {call:AV→List AV→St→Ctx→CO} {cx:Ctx} {e:EV} {env':Env} {s':St}
theorem dZ {x:Option Operand} {ix:Option IX} (hc:V7 x ix=true) (h:Sim P glob g s B w (Act.tm a) env) {d r:Nat} (hb:bound glob env d ix=some r):
  (x=none∧r=d)∨(∃y k n,x=some y∧a.eval y=.int k n∧0≤n∧r=n.toNat):=by
 unfold V7 at hc
 split at hc
 ·simp [bound] at hb;exact .inl ⟨rfl,hb.symm⟩
 ·rename_i y iy
  right
  simp only [bound] at hb
  split at hb
  ·rename_i k n hn
   split at hb
   ·rename_i h0
    cases hb
    exact ⟨y,k,n,rfl,fO (ai (a:=a) hc h.env h.base.glob hn),h0,rfl⟩
   ·cases hb
  ·cases hb
 ·cases hc
theorem gY {isSlice:Bool} {len cap:Nat} {lo hi:Option Operand} {l hh:Nat}
  (hlo:(lo=none∧l=0)∨(∃y k n,lo=some y∧a.eval y=.int k n∧0≤n∧l=n.toNat))
  (hhi:(hi=none∧hh=len)∨(∃y k n,hi=some y∧a.eval y=.int k n∧0≤n∧hh=n.toNat)) (h1:l≤hh) (h2:hh≤cap):
  (Instr.sliceBounds isSlice len cap (lo.map a.eval) (hi.map a.eval) none).run P w=.ok (l,hh,cap) w:=by
 rcases hhi with ⟨rfl,rfl⟩|⟨y,k,n,rfl,hy,hn0,rfl⟩
 ·rcases hlo with ⟨rfl,rfl⟩|⟨z,k',m,rfl,hz,hm0,rfl⟩
  ·simp [Instr.sliceBounds,Sem.run_bind]
  ·have:m≤(hh:Int):=by omega
   simp [Instr.sliceBounds,Sem.run_bind,Instr.sliceBound,hz,asIntOf,hm0,this]
 ·have hle:n≤(cap:Int):=by omega
  rcases hlo with ⟨rfl,rfl⟩|⟨z,k',m,rfl,hz,hm0,rfl⟩
  ·simp [Instr.sliceBounds,Sem.run_bind,Instr.sliceBound,hy,asIntOf,hn0,hle]
  ·have:m≤n:=by omega
   simp [Instr.sliceBounds,Sem.run_bind,Instr.sliceBound,hy,hz,asIntOf,hn0,hle,hm0,this,Int.max_eq_left hn0]
theorem Vy {x:IX} {lo hi:Option IX} (h:Sim P glob g s B w (Act.tm a) env) (hc:au P o.op (.slcs x lo hi)=true) (hr:aop glob call cx env s (.slcs x lo hi)=.ok e env' s'):Good P glob g s B w a (execOp a.eval o) e env' s':=by
 simp only [au] at hc
 split at hc
 ·rename_i t x' lo' hi' hop
  simp only [Bool.and_eq_true] at hc
  obtain ⟨⟨⟨hx,hlo⟩,hhi⟩,hty⟩:=hc
  simp only [aop] at hr
  split at hr
  ·rename_i cs hcs
   split at hr
   ·rename_i l hh hl hhh
    split at hr
    ·rename_i hcond
     cases hr
     have hxv:=iV (ai (a:=a) hx h.env h.base.glob hcs)
     have hb:=gY (P:=P) (w:=w) (isSlice:=false) (len:=cs.length) (cap:=cs.length) (dZ hlo h hl) (dZ hhi h hhh) hcond.1 hcond.2
     refine .val h ?_ (.s _)
     simp only [execOp,hop]
     refine ay ?_
     simp [Instr.sliceAt,Instr.slice,Sem.run_bind,run_underlying (uN hty),hxv,hb,ByteArray.size_mk',ByteArray.extract_mk]
    ·cases hr
   ·cases hr
  ·cases hr
 ·cases hc
theorem Ob {g:af} {n:Nat} {b off cap sz:Nat} {es:List AV} {l h:Nat} {sz':Nat} {c:Nat→Nat→Value} (hc:es.length≤cap)
   (hsz':∀i (h:i<es.length),(AV.cells es[i]).length=sz')
   (hm:∀i j,i<es.length→j<sz'→g.m b (off+i * sz'+j)=some (c i j)∧(c i j).oneCell'=true)
   (hrr:∀i (h:i<es.length) j (h':j<(AV.cells es[i]).length),Rep g n (c i j) (AV.cells es[i])[j]) (hlh:l≤h) (hh:h≤es.length)
  (hsz:∀a∈es,a.cells.length=sz):Rep g n (.slice (if cap=l then some ⟨b,off,none⟩ else some ⟨b,off+l * sz,none⟩) (h - l) (cap - l)) (.sl ((es.drop l).take (h - l))):=by
 have hlen:((es.drop l).take (h - l)).length=h - l:=by simp;omega
 by_cases hz:es=[]
 ·subst hz
  simp at hh
  subst hh
  have:l=0:=by omega
  subst this
  simp
  exact .sl b off cap sz [] (fun _ _=>undef) (by simp) (fun i hi=>by simp at hi) (fun i j hi=>by simp at hi) (fun i hi=>by simp at hi)
 ·have hszz:sz'=sz:=by
   have h0:0<es.length:=List.length_pos_iff.2 hz
   rw [←hsz' 0 h0];exact hsz _ (List.getElem_mem h0)
  subst hszz
  have mk:∀off2,(l<h→off2=off+l * sz')→Rep g n (.slice (some ⟨b,off2,none⟩) (h - l) (cap - l)) (.sl ((es.drop l).take (h - l))):=by
   intro off2 ho
   have key:=Rep.sl (g:=g) (n:=n) b off2 (cap - l) sz' ((es.drop l).take (h - l)) (fun i j=>c (l+i) j) (by rw [hlen];omega)
    (fun i hi=>hsz _ (List.mem_of_mem_drop (List.mem_of_mem_take (List.getElem_mem hi))))
    (fun i j hi hj=>by
     rw [hlen] at hi
     have:=hm (l+i) j (by omega) hj
     rw [ho (by omega)]
     rw [Nat.add_mul] at this
     rw [show off+l * sz'+i * sz'+j=off+(l * sz'+i * sz')+j by omega];exact this)
    (fun i hi j hj=>by
     have hi2:=hi;rw [hlen] at hi2
     have e1:((es.drop l).take (h - l))[i]=es[l+i]'(by omega):=by rw [List.getElem_take,List.getElem_drop]
     simp only [e1] at hj ⊢
     exact hrr (l+i) (by omega) j hj)
   rw [hlen] at key
   exact key
  split
  ·rename_i hcap
   exact mk off (fun hlt=>by omega)
  ·exact mk _ (fun _=>rfl)
theorem Xi {sz:Nat} {x:IX} {lo hi:Option IX} (h:Sim P glob g s B w (Act.tm a) env) (hc:au P o.op (.slc sz x lo hi)=true) (hr:aop glob call cx env s (.slc sz x lo hi)=.ok e env' s'):Good P glob g s B w a (execOp a.eval o) e env' s':=by
 simp only [au] at hc
 split at hc
 ·rename_i t x' lo' hi' hop
  simp only [Bool.and_eq_true] at hc
  obtain ⟨⟨⟨hx,hlo⟩,hhi⟩,hty⟩:=hc
  obtain ⟨el,hu,hsz⟩:=Hl hty
  simp only [aop] at hr
  split at hr
  ·rename_i es env1 he
   obtain ⟨g1,s1,m1,r1⟩:=jZ hx h he
   split at hr
   ·rename_i l hh hl hhh
    split at hr
    ·rename_i hcond
     obtain ⟨hlh,hhl,hall⟩:=hcond
     cases hr
     have hall':∀a∈es,a.cells.length=sz:=fun a ha=>by simpa using List.all_eq_true.1 hall a ha
     have hgo:(execOp a.eval o)=(do pure (Next.value (←Instr.sliceAt t (a.eval x') (lo'.map a.eval) (hi'.map a.eval) none))):=by simp only [execOp,hop];rfl
     rw [hgo]
     have hs2:=s1
     generalize a.eval x'=ax at r1
     cases r1 with
     | slNil=>
      simp at hhl
      subst hhl
      have:l=0:=by omega
      subst this
      have hb:=gY (P:=P) (w:=w) (isSlice:=true) (len:=0) (cap:=0) (dZ hlo m1 hl) (dZ hhi m1 hhh) (Nat.le_refl _) (Nat.le_refl _)
      refine ⟨.slice none 0 0,w,g1,.inl (ay ?_),s1,m1,.v (by simpa using Rep.slNil)⟩
      simp [Instr.sliceAt,Instr.slice,Sem.run_bind,run_underlying hu,hb,run_sizeOf hsz]
     | slE ad=>
      simp at hhl
      subst hhl
      have:l=0:=by omega
      subst this
      have hb:=gY (P:=P) (w:=w) (isSlice:=true) (len:=0) (cap:=0) (dZ hlo m1 hl) (dZ hhi m1 hhh) (Nat.le_refl _) (Nat.le_refl _)
      refine ⟨.slice (some ad) 0 0,w,g1,.inl (ay ?_),s1,m1,.v (by simpa using Rep.slE ad)⟩
      simp [Instr.sliceAt,Instr.slice,Sem.run_bind,run_underlying hu,hb,run_sizeOf hsz]
     | sl bk off cap sz' _ c hcap hsz' hm hrr=>
      have hb:=gY (P:=P) (w:=w) (isSlice:=true) (len:=es.length) (cap:=cap) (dZ hlo m1 hl) (dZ hhi m1 hhh) hlh (by omega)
      refine ⟨.slice (if cap=l then some ⟨bk,off,none⟩ else some ⟨bk,off+l * sz,none⟩) (hh - l) (cap - l),w,g1,.inl (ay ?_),s1,m1,.v (Ob hcap hsz' hm hrr hlh hhl hall')⟩
      simp [Instr.sliceAt,Instr.slice,Sem.run_bind,run_underlying hu,hb,run_sizeOf hsz,Addr.add_lit]
    ·cases hr
   ·cases hr
  ·rename_i env1 he
   obtain ⟨g1,s1,m1,r1⟩:=jZ hx h he
   split at hr
   ·rename_i hl hhh
    cases hr
    have hgo:(execOp a.eval o)=(do pure (Next.value (←Instr.sliceAt t (a.eval x') (lo'.map a.eval) (hi'.map a.eval) none))):=by simp only [execOp,hop];rfl
    rw [hgo]
    generalize a.eval x'=ax at r1
    cases r1
    have hb:=gY (P:=P) (w:=w) (isSlice:=true) (len:=0) (cap:=0) (dZ hlo m1 hl) (dZ hhi m1 hhh) (Nat.le_refl _) (Nat.le_refl _)
    refine ⟨.slice none 0 0,w,g1,.inl (ay ?_),s1,m1,.v .ns⟩
    simp [Instr.sliceAt,Instr.slice,Sem.run_bind,run_underlying hu,hb,run_sizeOf hsz]
   ·cases hr
  ·rename_i k ver sz2 o2 m env1 he
   obtain ⟨g1,s1,m1,r1⟩:=jZ hx h he
   split at hr
   ·rename_i l hh hl hhh
    split at hr
    ·rename_i hcond
     obtain ⟨rfl,hlh,hhm⟩:=hcond
     cases hr
     have hgo:(execOp a.eval o)=(do pure (Next.value (←Instr.sliceAt t (a.eval x') (lo'.map a.eval) (hi'.map a.eval) none))):=by simp only [execOp,hop];rfl
     rw [hgo]
     generalize a.eval x'=ax at r1
     cases r1 with
     | skE _ _ _ _ ad hk=>
      have h0:hh=0:=by omega
      have:l=0:=by omega
      subst this h0
      have hb:=gY (P:=P) (w:=w) (isSlice:=true) (len:=0) (cap:=0) (dZ hlo m1 hl) (dZ hhi m1 hhh) (Nat.le_refl _) (Nat.le_refl _)
      refine ⟨.slice (some ad) 0 0,w,g1,.inl (ay ?_),s1,m1,.v (by simpa using Rep.skE k ver sz o2 ad hk)⟩
      simp [Instr.sliceAt,Instr.slice,Sem.run_bind,run_underlying hu,hb,run_sizeOf hsz]
     | sk _ _ _ _ _ b off len cap c hk hhi2 ho hc hcc=>
      have hb:=gY (P:=P) (w:=w) (isSlice:=true) (len:=m) (cap:=c) (dZ hlo m1 hl) (dZ hhi m1 hhh) hlh (by omega)
      refine ⟨.slice (if c=l then some ⟨b,off+o2,none⟩ else some ⟨b,off+o2+l * sz,none⟩) (hh - l) (c - l),w,g1,.inl (ay ?_),s1,m1,.v ?_⟩
      ·simp [Instr.sliceAt,Instr.slice,Sem.run_bind,run_underlying hu,hb,run_sizeOf hsz,Addr.add_lit]
      ·by_cases hcl:c=l
       ·rw [if_pos hcl,show hh - l=0 by omega,show c - l=0 by omega];exact .skE _ _ _ _ _ hk
       ·rw [if_neg hcl,Nat.add_assoc]
        have e1:l * sz+(hh - l) * sz=hh * sz:=by rw [←Nat.add_mul];congr 1;omega
        have e2:hh * sz≤m * sz:=Nat.mul_le_mul_right sz hhm
        have e3:l * sz+(c - l) * sz=c * sz:=by rw [←Nat.add_mul];congr 1;omega
        exact .sk k ver sz (o2+l * sz) (hh - l) b off len cap (c - l) hk hhi2 (by omega) (by omega) (by omega)
    ·cases hr
   ·cases hr
  ·cases hr
 ·cases hc
theorem VG {kk:Nat} {z:AV} {ok:Bool} {m k:IX} (h:Sim P glob g s B w (Act.tm a) env) (hc:au P o.op (.look kk z ok m k)=true) (hr:aop glob call cx env s (.look kk z ok m k)=.ok e env' s'):Good P glob g s B w a (execOp a.eval o) e env' s':=by
 simp only [au] at hc
 split at hc
 ·rename_i t m' k' ok' hop
  simp only [Bool.and_eq_true,beq_iff_eq] at hc
  obtain ⟨⟨⟨⟨rfl,hm⟩,hk⟩,hkey⟩,hz⟩:=hc
  obtain ⟨kt,et,hu,hkt⟩:=zU hkey
  rw [hu] at hz
  simp only [] at hz
  unfold UM at hz
  cases hi:P.info? et with
  | none=>simp [hi] at hz
  | some info=>
   cases hzz:info.zero with
   | none=>simp [hi,hzz] at hz
   | some zv=>
    simp [hi,hzz] at hz
    have hzrep:=IK g s.length zv z hz
    simp only [aop] at hr
    split at hr
    ·rename_i key hkv
     split at hr
     ·cases hr
     rename_i hk3'
     have hk3:3≤kk→qj kk key=true:=fun h3=>by
      cases hkk:qj kk key with
      | true=>rfl
      | false=>exact absurd ⟨h3,hkk⟩ hk3'
     split at hr
     ·rename_i r hfind
      have hkrep:=ai (a:=a) hk h.env h.base.glob hkv
      -- the looked-up value
      have main:∃v okb,(Instr.lookup t (a.eval m') (a.eval k') ok).run P w=.ok (if ok then .tuple #[v,.bool okb] else v) w∧Rep g s.length v (r.getD z)∧okb=r.isSome:=by
       split at hfind
       ·rename_i es hes
        have hmrep:=ai (a:=a) hm h.env h.base.glob hes
        generalize a.eval m'=am at hmrep
        cases hmrep with
        | im bk _ vs hmm hl hkk hvv=>
         obtain ⟨ents,clock,q1,q2,_⟩:=h.base.imm.mm bk _ hmm
         have hlen:ents.toList.length=es.length:=by rw [←hl,←q2];simp
         have rk:aB g s.length (ents.toList.map (·.key)) (es.map (·.1)):=⟨by simpa using hlen,fun i hi1 hi2=>by
          subst q2
          have:=hkk i (by simpa using hi1) (by simpa using hi2)
          simpa using this⟩
         have rv:aB g s.length (ents.toList.map (·.val)) (es.map (·.2)):=⟨by simpa using hlen,fun i hi1 hi2=>by
          subst q2
          have:=hvv i (by simpa using hi1) (by simpa using hi2)
          simpa using this⟩
         rcases Ar (w:=w) hkt hkrep hk3 hfind rk rv with ⟨rfl,h2⟩|⟨v0,j,v,rfl,h2,h3⟩
         ·refine ⟨zv,false, ?_,by simpa using hzrep,rfl⟩
          simp [Instr.lookup,Sem.run_bind,run_underlying hu,getObj,Sem.run,q1,bU hkt hkrep hk3,h2,zeroValue,typeInfo,hi,hzz]
         ·refine ⟨v,true, ?_,by simpa using h3,rfl⟩
          simp [Instr.lookup,Sem.run_bind,run_underlying hu,getObj,Sem.run,q1,bU hkt hkrep hk3,h2]
       ·rename_i hes
        have hmrep:=ai (a:=a) hm h.env h.base.glob hes
        generalize a.eval m'=am at hmrep
        cases hmrep
        split at hfind
        ·cases hfind
         refine ⟨zv,false, ?_,by simpa using hzrep,rfl⟩
         simp [Instr.lookup,Sem.run_bind,run_underlying hu,bU hkt hkrep hk3,MN hkt,zeroValue,typeInfo,hi,hzz]
        ·cases hfind
       ·rename_i l hes
        have hmrep:=ai (a:=a) hm h.env h.base.glob hes
        generalize a.eval m'=am at hmrep
        split at hfind
        ·rename_i es hsl
         cases hmrep with
         | mp _ hlt=>
          obtain ⟨_,ents,clock,q1,rk,rv,_⟩:=h.base.heap.obj l _ hsl
          rcases Ar (w:=w) hkt hkrep hk3 hfind rk rv with ⟨rfl,h2⟩|⟨v0,j,v,rfl,h2,h3⟩
          ·refine ⟨zv,false, ?_,by simpa using hzrep,rfl⟩
           simp [Instr.lookup,Sem.run_bind,run_underlying hu,getObj,Sem.run,q1,bU hkt hkrep hk3,h2,zeroValue,typeInfo,hi,hzz]
          ·refine ⟨v,true, ?_,by simpa using h3,rfl⟩
           simp [Instr.lookup,Sem.run_bind,run_underlying hu,getObj,Sem.run,q1,bU hkt hkrep hk3,h2]
        ·rename_i es hsl
         cases hmrep with
         | mp _ hlt=>
          obtain ⟨_,ents,clock,q1,rk,rv,_⟩:=h.base.heap.obj l _ hsl
          rcases Ar (w:=w) hkt hkrep hk3 hfind rk rv with ⟨rfl,h2⟩|⟨v0,j,v,rfl,h2,h3⟩
          ·refine ⟨zv,false, ?_,by simpa using hzrep,rfl⟩
           simp [Instr.lookup,Sem.run_bind,run_underlying hu,getObj,Sem.run,q1,bU hkt hkrep hk3,h2,zeroValue,typeInfo,hi,hzz]
          ·refine ⟨v,true, ?_,by simpa using h3,rfl⟩
           simp [Instr.lookup,Sem.run_bind,run_underlying hu,getObj,Sem.run,q1,bU hkt hkrep hk3,h2]
        ·cases hfind
       ·cases hfind
      obtain ⟨v,okb,q1,q2,rfl⟩:=main
      have hgo:(execOp a.eval o)=(do pure (Next.value (←Instr.lookup t (a.eval m') (a.eval k') ok))):=by simp only [execOp,hop]
      rw [hgo]
      cases ok with
      | true=>
       simp only [if_true] at hr q1
       cases hr
       refine .val h (ay q1) (.tu _ _ rfl (fun i hi1 hi2=>?_))
       match i,hi1 with
       | 0,_=>exact q2
       | 1,_=>exact .b _
      | false=>
       simp only [Bool.false_eq_true,if_false] at hr q1
       cases hr
       exact .val h (ay q1) q2
     ·cases hr
    ·cases hr
 ·cases hc
end Go.Ai
namespace Go.Ai
variable {P:Program} {glob:Nat→Option (List AV)} {g:af} {s:St} {B:Nat} {w:World} {env:Env} {a:Act} {o:Oper} {call:AV→List AV→St→Ctx→CO} {cx:Ctx} {e:EV} {env':Env} {s':St}
theorem cell_lt {w:World} {b o:Nat} {v:Value} (h:w.cell? ⟨b,o,none⟩=some v):b<w.heap.size:=World.block_lt_of_cell? w ⟨b,o,none⟩ h
theorem Imm.fresh (h:Imm g w) {b:Nat} (hb:w.heap.size≤b):fP g b:=by
 refine ⟨fun o=>?_, ?_⟩
 ·cases hm:g.m b o with
  | none=>rfl
  | some v=>have:=cell_lt (h.m b o v hm);omega
 ·cases hm:g.mm b with
  | none=>rfl
  | some es=>
   have:=(h.mm b es hm).lt;omega
theorem yt {tm:Nat→Value} (h:dH g s.length B w tm env) {k:Nat} {e:EV} (hk:lk env k=some e) (ho:e.owns=true) {b:Nat} (hb:aQ (tm k)=some b):b<w.heap.size:=by
 have hr:=h.rel k e hk
 cases e with
 | bx cs=>obtain ⟨b',arr,ty,h1,h2,_⟩:=hr;rw [h1] at hb;simp [aQ] at hb;subst hb;exact (Array.getElem?_eq_some_iff.1 h2).1
 | own tip t sz es=>
  obtain ⟨xs,h1,_⟩:=hr
  rcases h1.2 with ⟨hv,_⟩|⟨gb,cap,cur,hv,_,hg,_⟩
  ·rw [hv] at hb;simp [aQ] at hb
  ·rw [hv] at hb;simp [aQ] at hb;subst hb;exact hg.lt
 | om es=>obtain ⟨b',ents,clock,h1,h2,_⟩:=hr;rw [h1] at hb;simp [aQ] at hb;subst hb;exact (Array.getElem?_eq_some_iff.1 h2).1
 | _=>simp [EV.owns] at ho
structure Grew (qt:Prop) (w w':World):Prop where
 size:w.heap.size≤w'.heap.size
 old:∀b,b<w.heap.size→w'.heap[b]?=w.heap[b]?
 io:w'.os=w.os∧w'.output=w.output∧(qt→TD w w')
theorem Grew.alloc {qt:Prop} (w:World) (o:Obj):Grew qt w (w.alloc o):=⟨by simp,fun b hb=>heap_alloc_old w o b hb,rfl,rfl,fun _=>⟨rfl,Nat.le_refl _⟩⟩
theorem Imm.grew {qt:Prop} {w':World} (h:Imm g w) (hg:Grew qt w w'):Imm g w':=
 ⟨fun b o v hv=>by rw [World.cell?_of_block (hg.old b (cell_lt (h.m b o v hv)))];exact h.m b o v hv,
  fun b es he=>(h.mm b es he).keep (hg.old b (h.mm b es he).lt)⟩
theorem Base.grew {qt:Prop} {w':World} (h:Base P glob g s w) (hg:Grew qt w w'):Base P glob g s w':=
 ⟨h.imm.grew hg,h.heap.next (.refl _ _) (fun _ _=>rfl) hg.size (fun b hb=>⟨hg.old b (h.heap.taken_lt hb),rfl,rfl⟩),h.glob⟩
theorem Sim.grew {w':World} {tm:Nat→Value} (h:Sim P glob g s B w tm env) (hg:Grew True w w'):Sim P glob g s B w' tm env∧Step True g s.length B w g s.length w':=by
 refine ⟨⟨h.base.grew hg,h.env.next (.refl _ _) (fun k e hk ho b hb=>⟨hg.old b (yt h.env hk ho hb),rfl,rfl,fun ht=>ht⟩),Nat.le_trans h.B hg.size⟩,
  ⟨.refl _ _,hg.size,fun b hb _=>hg.old b (by have:=h.B;omega),fun _ _ _=>rfl,fun _ _=>rfl,fun b hb=>.inl hb,hg.io⟩⟩
theorem x9 {tm:Nat→Value} (h:Sim P glob g s B w tm env) {b:Nat} (hb:w.heap.size≤b):(∀k e',lk env k=some e'→e'.owns=true→aQ (tm k)≠some b)∧¬g.taken s.length b:=
 ⟨fun k e' hk ho hbk=>by have:=yt h.env hk ho hbk;omega,fun ht=>by have:=h.base.heap.taken_lt ht;omega⟩
theorem Sim.push {g':af} {w':World} {tm:Nat→Value} {ob:eH} (h:Sim P glob g s B w tm env) (hg:Grew True w w') (hle:g.le s.length g' (s.length+1)) (hh:∀l,l<s.length→g'.hist l=g.hist l)
  (hm:∀b,b<w.heap.size→g'.m b=g.m b∧g'.mm b=g.mm b) (hbl:∀b,g'.bl s.length b→w.heap.size≤b∧b<w'.heap.size) (him:Imm g' w') (ho:IQ P g' (s.length+1) w' s.length ob):
  Step True g s.length B w g' (s++[ob]).length w'∧Sim P glob g' (s++[ob]) B w' tm env:=by
 have hB:=h.B
 have hlen:(s++[ob]).length=s.length+1:=by simp
 have hbl2:∀l,l<s.length→∀b,g'.bl l b→g.bl l b:=by
  intro l hl b hb'
  rcases hb' with hb' | ⟨k,v,hk,hv⟩
  ·exact .inl ((hle.L l hl).symm.trans hb')
  ·rw [hh l hl] at hk;exact .inr ⟨k,v,hk,hv⟩
 have htk:∀b,g'.taken (s.length+1) b→g.taken s.length b∨w.heap.size≤b:=by
  rintro b ⟨l,hl,hb⟩
  by_cases hls:l<s.length
  ·exact .inl ⟨l,hls,hbl2 l hls b hb⟩
  ·have:l=s.length:=by omega
   subst this;exact .inr (hbl b hb).1
 rw [hlen]
 refine ⟨⟨hle,hg.size,fun b hb _=>hg.old b (by omega),fun b hb _=>(hm b (by omega)).1,fun b hb=>(hm b (by omega)).2,fun b hb=>?_,hg.io⟩,⟨⟨him,⟨fun l l' b hl hl' h1 h2=>?_,fun l b hl hb=>?_,fun l o hs=>?_⟩,h.base.glob.mono hle⟩, ?_,Nat.le_trans hB hg.size⟩⟩
 ·rcases htk b hb with h1|h1
  ·exact .inl h1
  ·exact .inr (by omega)
 ·rw [hlen] at hl hl'
  by_cases e:l<s.length
  ·by_cases e':l'<s.length
   ·exact h.base.heap.inj l l' b e e' (hbl2 l e b h1) (hbl2 l' e' b h2)
   ·have:l'=s.length:=by omega
    subst this
    have q1:=h.base.heap.lt l b e (hbl2 l e b h1);have q2:=(hbl b h2).1;omega
  ·have:l=s.length:=by omega
   subst this
   by_cases e':l'<s.length
   ·have q1:=h.base.heap.lt l' b e' (hbl2 l' e' b h2);have q2:=(hbl b h1).1;omega
   ·omega
 ·rw [hlen] at hl
  by_cases e:l<s.length
  ·exact Nat.lt_of_lt_of_le (h.base.heap.lt l b e (hbl2 l e b hb)) hg.size
  ·have:l=s.length:=by omega
   subst this;exact (hbl b hb).2
 ·rw [hlen]
  have hl:l<(s++[ob]).length:=(List.getElem?_eq_some_iff.1 hs).1
  rw [hlen] at hl
  by_cases e:l<s.length
  ·rw [List.getElem?_append_left e] at hs
   refine (h.base.heap.obj l o hs).next hle e (hh l e) (fun b hb=>?_)
   have:=h.base.heap.lt l b e hb
   exact ⟨hg.old b this,(hm b this).1,(hm b this).2⟩
  ·have:l=s.length:=by omega
   subst this
   simp at hs;subst hs;exact ho
 ·rw [hlen]
  refine h.env.next hle (fun k e hk ho' b hb=>?_)
  have hlt:=yt h.env hk ho' hb
  refine ⟨hg.old b hlt,(hm b hlt).1,(hm b hlt).2,fun ht=>?_⟩
  rcases htk b ht with h1|h1
  ·exact h1
  ·omega
theorem G8 (h:Sim P glob g s B w (Act.tm a) env) {cells:Array Value} {cs:List AV} {ty:TypeId} (hr:aB g s.length cells.toList cs) (h1:bH cells.toList) {x:Sem Next}
  (hx:x.run P w=.ok (.value (.pointer (some ⟨w.heap.size,0,none⟩))) (w.alloc (.cells cells ty))):Good P glob g s B w a x (.bx cs) env s:=by
 obtain ⟨h2,s2⟩:=h.grew (Grew.alloc (qt:=True) w (.cells cells ty))
 refine ⟨_,_,g,.inl hx,s2,h2,⟨fun d _=>⟨w.heap.size,cells,ty,by rw [upd_same],heap_alloc_new w _,hr,h1,h.base.imm.fresh (Nat.le_refl _),h.B⟩,fun j hj=>by simp [EV.refers] at hj,fun _ b hb=>?_⟩⟩
 simp [aQ] at hb;subst hb
 exact x9 h (Nat.le_refl _)
theorem VH {x:IX} (h:Sim P glob g s B w (Act.tm a) env) (hc:au P o.op (.lbox x)=true) (hr:aop glob call cx env s (.lbox x)=.ok e env' s'):Good P glob g s B w a (execOp a.eval o) e env' s':=by
 simp only [au] at hc
 split at hc
 ·rename_i t x' hop
  simp only [aop] at hr
  split at hr
  ·rename_i v env1 he
   split at hr
   ·rename_i h1
    cases hr
    obtain ⟨g1,s1,m1,r1⟩:=jZ hc h he
    obtain ⟨q1,q2⟩:=uH r1 h1
    refine (G8 (ty:=t) m1 q1 q2 ?_).after (env1:=[]) s1 rfl
    simp only [execOp,hop]
    exact ay (by simp [Instr.box,newVar,newRow,Sem.run_bind])
   ·cases hr
  ·cases hr
 ·cases hc
theorem kM {t:TypeId} {zs:List AV} (h:vY P t zs=true):∃i z,P.info? t=some i∧i.zero=some z∧NK z zs=true:=by
 unfold vY at h
 cases hi:P.info? t with
 | none=>simp [hi] at h
 | some i=>
  cases hz:i.zero with
  | none=>simp [hi,hz] at h
  | some z=>simp [hi,hz] at h;exact ⟨i,z,rfl,hz,h⟩
theorem jy {z:Value} {zs:List AV} (h:NK z zs=true) (g:af) (n:Nat):aB g n z.cells.toList zs∧bH z.cells.toList:=by
 simp only [NK,Bool.and_eq_true] at h
 exact ⟨xR g n _ _ h.2,fun x hx=>List.all_eq_true.1 h.1 x hx⟩
theorem L9 {zs:List AV} (h:Sim P glob g s B w (Act.tm a) env) (hc:au P o.op (.lalloc zs)=true) (hr:aop glob call cx env s (.lalloc zs)=.ok e env' s'):Good P glob g s B w a (execOp a.eval o) e env' s':=by
 simp only [au] at hc
 split at hc
 ·rename_i t hop
  simp only [aop] at hr
  cases hr
  obtain ⟨i,z,hi,hz,hok⟩:=kM hc
  obtain ⟨q1,q2⟩:=jy hok g s.length
  refine G8 (ty:=t) h q1 q2 ?_
  simp only [execOp,hop]
  exact ay (by simp [Instr.alloc,newVar,newRow,Sem.run_bind,zeroValue,typeInfo,hi,hz])
 ·cases hc
def af.place (g:af) (l b:Nat):af:={ g with L:=fun l'=>if l'=l then b else g.L l',hist:=fun l'=>if l'=l then fun _=>none else g.hist l' }
theorem O4 (h:Sim P glob g s B w (Act.tm a) env) {ob:Obj} {ho:eH} (hrow:(∀t sz k,ho≠.row t sz k)∧(∀es,ho≠.map es)∧(∀t sz v cs,ho≠.buf t sz v cs)∧(∀es,ho≠.umap es)∧∀es,ho≠.mapo es)
  (hcells:∀cs,ho=.cells cs→∃arr ty,ob=.cells arr ty (0,0)∧aB g s.length arr.toList cs∧bH arr.toList)
  (hloop:∀env ps asg body pend,ho=.loop env ps asg body pend→∃r,ob=.loop r∧DR P g s.length r env ps asg body pend)
  (hdfr:ho=.dfr→ob=.deferred (some [])):
  Step True g s.length B w (g.place s.length w.heap.size) (s++[ho]).length (w.alloc ob)∧Sim P glob (g.place s.length w.heap.size) (s++[ho]) B (w.alloc ob) (Act.tm a) env:=by
 have hg:=Grew.alloc (qt:=True) w ob
 have hle:g.le s.length (g.place s.length w.heap.size) (s.length+1):=⟨fun _ _ _ h=>h,fun _ _ h=>h,fun l hl=>by simp [af.place];omega,fun l hl k v hk=>by simp [af.place];rw [if_neg (by omega)];exact hk,by omega⟩
 have hLn:(g.place s.length w.heap.size).L s.length=w.heap.size:=by simp [af.place]
 have hfr:=h.base.imm.fresh (Nat.le_refl w.heap.size)
 have hnc:fP (g.place s.length w.heap.size) ((g.place s.length w.heap.size).L s.length):=by rw [hLn];exact ⟨hfr.m,hfr.mm⟩
 refine h.push hg hle (fun l hl=>by simp [af.place];omega) (fun _ _=>⟨rfl,rfl⟩) (fun b hb=>?_) ⟨(h.base.imm.grew hg).m,(h.base.imm.grew hg).mm⟩ ?_
 ·rcases hb with hb|⟨k,v,hk,_⟩
  ·rw [hLn] at hb;subst hb;simp
  ·simp [af.place] at hk
 ·cases ho with
  | cells cs=>obtain ⟨arr,ty,rfl,q2,q3⟩:=hcells cs rfl;exact ⟨hnc,arr,ty,by rw [hLn];exact heap_alloc_new w _,q2.mono hle,q3⟩
  | loop env ps asg body pend=>obtain ⟨r,rfl,q2⟩:=hloop env ps asg body pend rfl;exact ⟨hnc,r,by rw [hLn];exact heap_alloc_new w _,q2.mono hle⟩
  | dfr=>rw [hdfr rfl];exact ⟨hnc,by rw [hLn];exact heap_alloc_new w _⟩
  | dead=>trivial
  | row t sz k=>exact absurd rfl (hrow.1 t sz k)
  | map es=>exact absurd rfl (hrow.2.1 es)
  | buf t sz v cs=>exact absurd rfl (hrow.2.2.1 t sz v cs)
  | umap es=>exact absurd rfl (hrow.2.2.2.1 es)
  | mapo es=>exact absurd rfl (hrow.2.2.2.2 es)
theorem O5 (h:Sim P glob g s B w (Act.tm a) env) {cells:Array Value} {cs:List AV} {ty:TypeId} (hr:aB g s.length cells.toList cs) (h1:bH cells.toList) {x:Sem Next}
  (hx:x.run P w=.ok (.value (.pointer (some ⟨w.heap.size,0,none⟩))) (w.alloc (.cells cells ty))):Good P glob g s B w a x (.v (.pt s.length 0)) env (s++[.cells cs]):=by
 obtain ⟨h2,h3⟩:=O4 h (ob:=.cells cells ty) (ho:=.cells cs) ⟨(fun _ _ _ hh=>by cases hh),(fun _ hh=>by cases hh),(fun _ _ _ _ hh=>by cases hh),(fun _ hh=>by cases hh),(fun _ hh=>by cases hh)⟩ (fun cs' hcs=>by cases hcs;exact ⟨cells,ty,rfl,hr,h1⟩) (fun _ _ _ _ _ hh=>by cases hh) (fun hh=>by cases hh)
 refine ⟨_,_,_,.inl hx,h2,h3,.v ?_⟩
 have:=Rep.pt (g:=g.place s.length w.heap.size) (n:=(s++[eH.cells cs]).length) s.length 0 (by simp)
 simpa [af.place] using this
theorem VP {x:IX} (h:Sim P glob g s B w (Act.tm a) env) (hc:au P o.op (.hbox x)=true) (hr:aop glob call cx env s (.hbox x)=.ok e env' s'):Good P glob g s B w a (execOp a.eval o) e env' s':=by
 simp only [au] at hc
 split at hc
 ·rename_i t x' hop
  simp only [aop] at hr
  split at hr
  ·rename_i v env1 he
   split at hr
   ·rename_i h1
    cases hr
    obtain ⟨g1,s1,m1,r1⟩:=jZ hc h he
    obtain ⟨q1,q2⟩:=uH r1 h1
    refine (O5 (ty:=t) m1 q1 q2 ?_).after (env1:=[]) s1 rfl
    simp only [execOp,hop]
    exact ay (by simp [Instr.box,newVar,newRow,Sem.run_bind])
   ·cases hr
  ·cases hr
 ·cases hc
theorem Mc {zs:List AV} (h:Sim P glob g s B w (Act.tm a) env) (hc:au P o.op (.halloc zs)=true) (hr:aop glob call cx env s (.halloc zs)=.ok e env' s'):Good P glob g s B w a (execOp a.eval o) e env' s':=by
 simp only [au] at hc
 split at hc
 ·rename_i t hop
  simp only [aop] at hr
  cases hr
  obtain ⟨i,z,hi,hz,hok⟩:=kM hc
  obtain ⟨q1,q2⟩:=jy hok g s.length
  refine O5 (ty:=t) h q1 q2 ?_
  simp only [execOp,hop]
  exact ay (by simp [Instr.alloc,newVar,newRow,Sem.run_bind,zeroValue,typeInfo,hi,hz])
 ·cases hc
theorem Uu (h:Sim P glob g s B w (Act.tm a) env) (hc:au P o.op .mkmap=true) (hr:aop glob call cx env s .mkmap=.ok e env' s'):Good P glob g s B w a (execOp a.eval o) e env' s':=by
 simp only [au] at hc
 split at hc
 ·rename_i t hop
  simp only [aop] at hr
  cases hr
  obtain ⟨h2,s2⟩:=h.grew (Grew.alloc (qt:=True) w (.map #[] 0))
  refine ⟨.map (some w.heap.size),_,g,.inl ?_,s2,h2,⟨fun d _=>⟨w.heap.size,#[],0,by rw [upd_same],heap_alloc_new w _,.nil _ _,.nil _ _,h.base.imm.fresh (Nat.le_refl _),h.B,.nil⟩,fun j hj=>by simp [EV.refers] at hj,fun _ b hb=>?_⟩⟩
  ·simp only [execOp,hop]
   exact ay (by simp [Instr.makeMap,Sem.run_bind])
  ·simp [aQ] at hb;subst hb
   exact x9 h (Nat.le_refl _)
 ·cases hc
end Go.Ai
namespace Go.Ai
variable {P:Program} {glob:Nat→Option (List AV)} {g:af} {s:St} {B:Nat} {w:World} {env:Env} {a:Act} {o:Oper} {call:AV→List AV→St→Ctx→CO} {cx:Ctx} {e:EV} {env':Env} {s':St}
structure Src (P:Program) (w:World) (sz:Nat) (x:Value) (m:Nat) (news:List Value):Prop where
 len:∀w':World,(Builtin.lenOf x).run P w'=.ok m w'
 cells:∀w':World,w'.heap=w.heap→(Builtin.firstCells sz m x).run P w'=.ok news.toArray w'
 size:news.length=m * sz
 one:bH news
theorem rM {sz n len cap b o:Nat} {xs:List Value} (hl:xs.length=n * sz) (h:jF w b o xs):(Builtin.firstCells sz n (.slice (some ⟨b,o,none⟩) len cap)).run P w=.ok xs.toArray w:=by
 simp only [Builtin.firstCells]
 rw [←hl]
 exact run_loadCells_list (P:=P) w ⟨b,o,none⟩ xs (fun j v hv=>by
  rw [Addr.add_lit]
  obtain ⟨hj,rfl⟩:=List.getElem?_eq_some_iff.1 hv
  exact h j hj)
theorem AY (P:Program) (g o:Nat) (t:TypeId) (fz:Nat×Nat):∀(vs:List Value) (i:Nat) (cur:Array Value) (w:World),w.heap[g]?=some (.cells cur t fz)→(fz=(0,0)∨cur.size≤fz.1)→o+i+vs.length≤cur.size→(∀v∈vs,v.oneCell'=true)→
  (storeCells ⟨g,o,none⟩ vs i).run P w=.ok () (w.setRow g (cur.toList.take (o+i)++vs++cur.toList.drop (o+i+vs.length)).toArray)
 | [],i,cur,w,hg,_,_,_=>by
  simp only [storeCells,List.append_nil,List.length_nil,Nat.add_zero,List.take_append_drop,Array.toArray_toList]
  rw [setRow_self w g cur t fz hg]
  rfl
 | v::rest,i,cur,w,hg,hfz,hl,h1=>by
  have hi:o+i<cur.size:=by simp at hl;omega
  have hadd:(⟨g,o,none⟩:Addr).add i=⟨g,o+i,none⟩:=by unfold Addr.add;split<;>simp_all
  have hcell:w.cell? ⟨g,o+i,none⟩=some cur[o+i]:=by simp [World.cell?,hg,hi]
  have hfro:w.frozen? ⟨g,o+i,none⟩=false:=by
   obtain ⟨lo,hi'⟩:=fz
   simp only [World.frozen?,hg,Bool.and_eq_false_iff,decide_eq_false_iff_not]
   rcases hfz with hz|hz
   ·cases hz;right;omega
   ·left;simp only at hz;omega
  have hst:(store ((⟨g,o,none⟩:Addr).add i) v).run P w=.ok () (w.setRow g (cur.setIfInBounds (o+i) v)):=by
   rw [hadd,run_store P w _ v _ (h1 v (by simp)),hcell]
   simp [hfro,setCell_eq_setRow w g (o+i) cur t fz v hg]
  have ih:=AY P g o t fz rest (i+1) (cur.setIfInBounds (o+i) v) (w.setRow g (cur.setIfInBounds (o+i) v)) (setRow_heap w g cur _ t _ hg) (by simpa using hfz) (by simp at hl ⊢;omega) (fun x hx=>h1 x (by simp [hx]))
  simp only [storeCells,Sem.run_bind,hst,Result.andThen_ok,ih,setRow_setRow]
  congr 3
  have e:=list_seg_step cur.toList (o+i) v rest (by simp at hl ⊢;omega)
  simpa [Array.toList_setIfInBounds,Nat.add_assoc] using e
theorem Sv {t t' ty el:TypeId} {tip:Bool} {i:TypeInfo} {z:Value} {sz n m:Nat} {xs news:List Value} {v x:Value} {d:TypeDesc} (ht:P.underlying t=some (.slice el)) (ht':P.underlying t'=some d)
  (hd:(∃q,d=.slice q)∨d=.string) (hi:P.info? el=some i) (hz:i.zero=some z) (hsz:i.size=sz) (hzs:z.cells.size=sz) (hown:GU w tip B el sz v n xs) (hx:Src P w sz x m news)
  (hmax:n+m≤dK) (hby:i.bytes≤65536) (hB:B≤w.heap.size):
  ∃v' w',(Builtin.append_ #[t,t'] ty #[v,x]).run P w=.ok v' w'∧GU w' tip B el sz v' (n+m) (xs++news)∧
   ((∃gb cur,aQ v=some gb∧aQ v'=some gb∧rowT w tip gb cur el∧w'=w.setRow gb (cur.toList.take xs.length++news++cur.toList.drop (xs.length+news.length)).toArray∧xs.length≤cur.size∧B≤gb)∨
    (Grew True w w'∧∀b,aQ v'=some b→w.heap.size≤b)):=by
 subst hsz
 have hmax':n+m≤1073741824:=hmax
 have hlen:(xs++news).length=(n+m) * i.size:=by rw [List.length_append,hown.1,hx.size,Nat.add_mul]
 have hfitb:∀old,old<n+m→¬(281474976710656<Builtin.nextslicecap (n+m) old * i.bytes):=by
  intro old ho
  have h1:=nextslicecap_le ho
  have h2:Builtin.nextslicecap (n+m) old * i.bytes≤2147483648 * 65536:=Nat.mul_le_mul (by omega) hby
  omega
 have grown:∀old,old<n+m→GU (w.drew.alloc (.cells (xs.toArray++news.toArray++Builtin.zeroCells z.cells (grownCap w (n+m) old el - (n+m))) el)) tip B el i.size
    (.slice (some ⟨w.heap.size,0,none⟩) (n+m) (grownCap w (n+m) old el)) (n+m) (xs++news):=by
  intro old ho
  have hge:=grownCap_ge w (n+m) old el
  refine ⟨hlen,.inr ⟨w.heap.size,_,_,rfl,hB,.of (heap_alloc_new w.drew _),hge,grownCap_le_maxLen w _ _ _ (by simp only [maxLen];omega), ?_, ?_⟩⟩
  ·simp only [Array.size_append,List.size_toArray,size_zeroCells,hzs]
   rw [hown.1,hx.size,←Nat.add_mul,←Nat.add_mul]
   congr 1;omega
  ·rw [←hlen]
   simp only [Array.toList_append]
   rw [List.take_left']
   rfl
 have hgrew:∀ob,Grew True w (w.drew.alloc ob):=fun ob=>⟨show w.heap.size≤(w.heap.push ob).size by simp,fun b hb=>heap_alloc_old w.drew ob b hb,rfl,rfl,fun _=>⟨rfl,Nat.le_succ _⟩⟩
 have hcd:∀w':World,w'.heap=w.drew.heap→(Builtin.firstCells i.size m x).run P w'=.ok news.toArray w':=fun w' hw'=>hx.cells w' hw'
 rcases hown.2 with ⟨rfl,rfl⟩|⟨gb,cap,cur,rfl,hBg,⟨fz,hg,hfz⟩,hcap,hmaxl,hsize,htake⟩
 ·have hx0:xs=[]:=List.eq_nil_of_length_eq_zero (by rw [hown.1];simp)
  subst hx0
  by_cases hm:m=0
  ·subst hm
   have hn0:news=[]:=List.eq_nil_of_length_eq_zero (by rw [hx.size];simp)
   subst hn0
   refine ⟨.slice none 0 0,w, ?_,by simpa using hown,.inr ⟨⟨Nat.le_refl _,fun _ _=>rfl,rfl,rfl,fun _=>⟨rfl,Nat.le_refl _⟩⟩,fun b hb=>by simp [aQ] at hb⟩⟩
   have hc0:=hx.cells w rfl
   rcases hd with ⟨q,rfl⟩|rfl<;>simp [Builtin.append_,run_underlying ht,run_underlying ht',sizeOf,typeInfo,hi,hx.len,hc0]
  ·refine ⟨_,_, ?_,grown 0 (by omega),.inr ⟨hgrew _,fun b hb=>by simp [aQ] at hb;omega⟩⟩
   have h48:=hfitb 0 (by omega)
   simp only [Nat.zero_add] at h48 ⊢
   have h63:¬(9223372036854775807<(m:Int)):=by omega
   rcases hd with ⟨q,rfl⟩|rfl<;>(simp [Builtin.append_,run_underlying ht,run_underlying ht',sizeOf,typeInfo,zeroValue,hi,hz,hx.len,hm,h63,h48,Question.forced,run_firstCells_none,hcd w.drew rfl,newRow,grownCap])
 ·have hxl:xs.length≤cur.size:=by rw [hown.1,hsize];exact Nat.mul_le_mul_right _ hcap
  by_cases hroom:n+m≤cap
  ·have hfit:n * i.size+news.length≤cur.size:=by
    rw [hx.size,←Nat.add_mul,hsize];exact Nat.mul_le_mul_right _ hroom
   have hst:=AY P gb (n * i.size) el fz news 0 cur w hg (hfz.imp id (·.2)) (by simpa using hfit) hx.one
   simp only [Nat.add_zero] at hst
   refine ⟨.slice (some ⟨gb,0,none⟩) (n+m) cap,w.setRow gb (cur.toList.take (n * i.size)++news++cur.toList.drop (n * i.size+news.length)).toArray, ?_,⟨hlen,.inr ⟨gb,cap,_,rfl,hBg,⟨fz,dR hg, ?_⟩,hroom,hmaxl, ?_, ?_⟩⟩,.inl ⟨gb,cur,rfl,rfl,⟨fz,hg,hfz⟩,by rw [hown.1],hxl,hBg⟩⟩
   ·rcases hd with ⟨q,rfl⟩|rfl<;>(simp [Builtin.append_,run_underlying ht,run_underlying ht',sizeOf,typeInfo,hi,hx.len,hroom,hx.cells w rfl,Addr.add_lit,hst])
   ·rcases hfz with hz|⟨hz,hz2⟩
    ·exact .inl hz
    ·refine .inr ⟨hz,Nat.le_trans ?_ hz2⟩
     simp;omega
   ·simp;omega
   ·rw [←hlen,List.length_append,hown.1]
    simp only [List.toList_toArray]
    rw [←htake]
    rw [List.take_append_of_le_length (by simp;omega),List.take_of_length_le (by simp;omega)]
  ·refine ⟨_,_, ?_,grown cap (by omega),.inr ⟨hgrew _,fun b hb=>by simp [aQ] at hb;omega⟩⟩
   have h48:=hfitb cap (by omega)
   have h63:¬(9223372036854775807<((n:Int)+(m:Int))):=by omega
   have hca:jF w gb 0 xs:=by rw [←htake];exact (jA hg).take _
   have hfo:(Builtin.firstCells i.size n (.slice (some ⟨gb,0,none⟩) n cap)).run P w.drew=.ok xs.toArray w.drew:=rM hown.1 hca
   rcases hd with ⟨q,rfl⟩|rfl<;>(simp [Builtin.append_,run_underlying ht,run_underlying ht',sizeOf,typeInfo,zeroValue,hi,hz,hx.len,hroom,h63,h48,Question.forced,hfo,hcd w.drew rfl,newRow,grownCap])<;>(congr 2;apply Array.ext';simp [List.append_assoc])
theorem NE {t t' ty el:TypeId} {i:TypeInfo} {z:Value} {sz n m:Nat} {xs news:List Value} {v x:Value} {d:TypeDesc} (ht:P.underlying t=some (.slice el)) (ht':P.underlying t'=some d)
  (hd:(∃q,d=.slice q)∨d=.string) (hi:P.info? el=some i) (hz:i.zero=some z) (hsz:i.size=sz) (hzs:z.cells.size=sz) (hown:w.ownsRow B el sz v n xs) (hx:Src P w sz x m news)
  (hmax:n+m≤dK) (hby:i.bytes≤65536) (hB:B≤w.heap.size):
  ∃v' w',(Builtin.append_ #[t,t'] ty #[v,x]).run P w=.ok v' w'∧w'.ownsRow B el sz v' (n+m) (xs++news)∧
   ((∃gb cur,aQ v=some gb∧aQ v'=some gb∧w.heap[gb]?=some (.cells cur el (0,0))∧w'=w.setRow gb (cur.toList.take xs.length++news++cur.toList.drop (xs.length+news.length)).toArray∧xs.length≤cur.size∧B≤gb)∨
    (Grew True w w'∧∀b,aQ v'=some b→w.heap.size≤b)):=by
 obtain ⟨v',w',h1,h2,h3⟩:=Sv (tip:=false) ht ht' hd hi hz hsz hzs (Oi hown) hx hmax hby hB
 refine ⟨v',w',h1,h2.z, ?_⟩
 rcases h3 with ⟨gb,cur,e1,e2,e3,e4,e5,e6⟩|h3
 ·exact .inl ⟨gb,cur,e1,e2,e3.z,e4,e5,e6⟩
 ·exact .inr h3
theorem Yh {t t' ty el:TypeId} {sz:Nat} {d:TypeDesc} (hsl:sliceOf P t el sz=true) (ht':P.underlying t'=some d) (hd:(∃q,d=.slice q)∨d=.string)
  (hinf:(P.info? el).any (fun i=>i.bytes≤65536 && i.zero.any fun z=>z.cells.size == sz)=true) (h:Sim P glob g s B w (Act.tm a) env) {k:Nat} {tip:Bool} {es ys:List AV}
  (hk:lk env k=some (.own tip el sz es)) {x:Value} {news:List Value} (hx:Src P w sz x ys.length news) (hr:aB g s.length news (ys.flatMap AV.cells)) (hys:∀y∈ys,y.cells.length=sz)
  (hmax:es.length+ys.length≤dK) {q:Sem Next} (hq:∀{v' w'},(Builtin.append_ #[t,t'] ty #[Act.tm a k,x]).run P w=.ok v' w'→q.run P w=.ok (.value v') w'):
  Good P glob g s B w a q (.own tip el sz (es++ys)) ((k,.v .u)::jL env k) s:=by
 unfold sliceOf at hsl
 split at hsl
 ·rename_i el' hu
  simp only [Bool.and_eq_true,beq_iff_eq] at hsl
  obtain ⟨hel,hsz⟩:=hsl
  rw [hel] at hu
  obtain ⟨i,hi,hisz⟩:=gm hsz
  rw [hi] at hinf
  simp only [Option.any_some,Bool.and_eq_true,decide_eq_true_eq] at hinf
  obtain ⟨hby,hzz⟩:=hinf
  cases hz:i.zero with
  | none=>simp [hz] at hzz
  | some z=>
   simp [hz] at hzz
   obtain ⟨xs,q1,q2,q3,q4,q5,q6⟩:=h.env.rel k _ hk
   obtain ⟨v',w',r1,r2,r3⟩:=Sv (ty:=ty) hu ht' hd hi hz hisz hzz q1 hx hmax hby h.B
   have hown':aB g s.length (xs++news) ((es++ys).flatMap AV.cells):=by rw [List.flatMap_append];exact q2.append hr
   have hone:bH (xs++news):=fun u hu=>(List.mem_append.1 hu).elim (q3 u) (hx.one u)
   have hsz':∀y∈es++ys,y.cells.length=sz:=fun y hy=>(List.mem_append.1 hy).elim (q4 y) (hys y)
   have hlen:(es++ys).length=es.length+ys.length:=List.length_append
   rcases r3 with ⟨gb,cur,e1,e2,e3T,rfl,e5,e6⟩|⟨hgrew,hfresh⟩
   ·obtain ⟨p1,p2,p3⟩:=q6 gb e1
    obtain ⟨fz,e3,e3z⟩:=id e3T
    -- in place: the claims are extended if the slice's elements are fixed
    have hcur:∀j,j<xs.length→cur[j]?=xs[j]?:=by
     intro j hj
     rcases q1.2 with ⟨hv,_⟩|⟨gb',cap,cur',hv,_,hg',_,_,_,htake⟩
     ·rw [hv] at e1;simp [aQ] at e1
     ·rw [hv] at e1;simp [aQ] at e1;subst e1
      obtain ⟨fz',hg',_⟩:=hg'
      rw [e3] at hg';cases hg'
      rw [←htake,List.getElem?_take,if_pos (by rw [←q1.1];exact hj)]
      simp
    have hnew:∀j,j<xs.length→(cur.toList.take xs.length++news++cur.toList.drop (xs.length+news.length)).toArray[j]?=cur[j]?:=by
     intro j hj
     simp only [List.getElem?_toArray]
     rw [List.append_assoc,List.getElem?_append_left (by simp;omega),List.getElem?_take,if_pos hj]
     simp
    let g':af:=if tip then g.claim gb (xs++news) else g
    have hoff:=h.env.off k _ hk rfl gb e1
    have hgm:∀b,b≠gb→g'.m b=g.m b:=by
     intro b hb;funext j
     cases tip<;>simp [g',af.claim,hb]
    have hgL:g'.L=g.L:=by cases tip<;>rfl
    have hgH:g'.hist=g.hist:=by cases tip<;>rfl
    have hgT:∀b,g'.taken s.length b→g.taken s.length b:=by intro b hb;cases tip<;>exact hb
    have hgmm:g'.mm=g.mm:=by cases tip<;>rfl
    have hle:g.le s.length g' s.length:=by
     refine ⟨fun b o v hm=>?_,fun b es hm=>by rw [hgmm];exact hm,fun l _=>by rw [hgL],fun l _ k v hk=>by rw [hgH];exact hk,Nat.le_refl _⟩
     by_cases hb:b=gb
     ·subst hb
      by_cases ho:o<xs.length
      ·rw [p3 o ho] at hm
       cases tip with
       | false=>simp at hm
       | true=>
        simp at hm
        simp only [g',if_true,af.claim,true_and]
        rw [if_pos (by simp;omega),List.getElem?_append_left ho,List.getElem?_eq_getElem ho,hm]
      ·rw [p2 o (by omega)] at hm;cases hm
     ·rw [hgm b hb];exact hm
    have hbase1:Base P glob g s (w.setRow gb (cur.toList.take xs.length++news++cur.toList.drop (xs.length+news.length)).toArray):=by
     refine h.base.setRow e3 hoff (fun o v hv=>?_) p1
     by_cases ho:o<xs.length
     ·exact hnew o ho
     ·rw [p2 o (by omega)] at hv;cases hv
    have hrow':(w.setRow gb (cur.toList.take xs.length++news++cur.toList.drop (xs.length+news.length)).toArray).heap[gb]?=some (.cells (cur.toList.take xs.length++news++cur.toList.drop (xs.length+news.length)).toArray el fz):=dR e3
    have hcell:∀j (hj:j<(xs++news).length),(cur.toList.take xs.length++news++cur.toList.drop (xs.length+news.length)).toArray[j]?=some (xs++news)[j]:=by
     intro j hj
     by_cases hjx:j<xs.length
     ·rw [hnew j hjx,hcur j hjx,List.getElem?_eq_getElem hjx,List.getElem_append_left hjx]
     ·simp only [List.getElem?_toArray]
      rw [List.append_assoc,List.getElem?_append_right (by simp;omega)]
      simp only [List.length_take,Array.length_toList,Nat.min_eq_left e5]
      simp at hj
      rw [List.getElem?_append_left (by omega),List.getElem?_eq_getElem (by omega),List.getElem_append_right (by omega)]
    have him:Imm g' (w.setRow gb (cur.toList.take xs.length++news++cur.toList.drop (xs.length+news.length)).toArray):=by
     refine ⟨fun b o v hm=>?_,by rw [hgmm];exact hbase1.imm.mm⟩
     by_cases hb:b=gb
     ·subst hb
      cases tip with
      | false=>exact hbase1.imm.m b o v hm
      | true=>
       simp only [g',if_true,af.claim,true_and] at hm
       split at hm
       ·rename_i ho
        rw [cell_of_row _ b o _ el fz hrow',hcell o ho]
        rw [List.getElem?_eq_getElem ho] at hm;exact hm
       ·exact hbase1.imm.m b o v hm
     ·rw [hgm b hb] at hm;exact hbase1.imm.m b o v hm
    refine ⟨v',_,g',.inl (hq r1),⟨hle,by simp,fun b hb _=>aG _ (by omega),fun b hb _=>hgm b (by omega),fun b _=>by rw [hgmm],fun b hb=>.inl (hgT b hb),rfl,rfl,fun _=>⟨rfl,Nat.le_refl _⟩⟩,
     ⟨hbase1.fix hle him hgH (fun b hb=>⟨hgm b (fun hbg=>hoff (by subst hbg;exact hb)),by rw [hgmm]⟩),h.env.dropNext k hle (fun k' x hk' hx' hne b hb=>⟨aG _ (fun hbg=>?_),hgm b (fun hbg=>?_),by rw [hgmm],hgT b⟩),by simpa using h.B⟩,
     ⟨fun dd _=>⟨xs++news, ?_,hown'.mono hle,hone,hsz',q5,fun b hb=>?_⟩,fun j hj=>by simp [EV.refers] at hj,fun _ b hb=>⟨fun k' e' hk' he' hb'=>?_,fun hl=>?_⟩⟩⟩
    ·subst hbg;exact h.env.apart k' k x _ hk' hk hx' rfl hne b hb e1
    ·subst hbg;exact h.env.apart k' k x _ hk' hk hx' rfl hne b hb e1
    ·rw [upd_same,hlen];exact r2
    ·rw [upd_same,e2] at hb;cases hb
     refine ⟨by rw [hgmm];exact p1,fun j hj=>?_,fun j hj=>?_⟩
     ·have hj2:xs.length≤j:=by simp at hj;omega
      cases tip with
      | false=>exact p2 j hj2
      | true=>
       simp only [g',if_true,af.claim,true_and]
       rw [if_neg (by omega)];exact p2 j hj2
     ·cases tip with
      | false=>
       show g.m gb j=none
       by_cases hjx:j<xs.length
       ·simpa using p3 j hjx
       ·exact p2 j (by omega)
      | true=>
       simp only [g',if_true,af.claim,true_and]
       rw [if_pos hj,List.getElem?_eq_getElem hj]
    ·rw [e2] at hb;cases hb
     have hne:k'≠k:=fun hkk=>by
      subst hkk;rw [bF] at hk';cases hk';simp [EV.owns] at he'
     rw [aJ _ _ (Ne.symm hne),pq] at hk'
     cases hy:lk env k' with
     | none=>rw [hy] at hk';simp at hk'
     | some y=>
      rw [hy] at hk'
      simp only [Option.map_some,Option.some.injEq] at hk'
      split at hk'
      ·subst hk';simp [EV.owns] at he'
      ·subst hk'
       exact h.env.apart k' k y _ hy hk he' rfl hne gb hb' e1
    ·rw [e2] at hb;cases hb
     exact hoff (hgT _ hl)
   ·obtain ⟨h2,s2⟩:=h.grew hgrew
    -- a new block: it is claimed if the elements are fixed
    cases hb':aQ v' with
    | none=>
     refine ⟨v',w',g,.inl (hq r1),s2,⟨h2.base,h2.env.dropNext k (.refl _ _) (fun k' x hk' hx' hne b hb=>⟨rfl,rfl,rfl,fun ht=>ht⟩),h2.B⟩,
      ⟨fun dd _=>⟨xs++news,by rw [upd_same,hlen];exact r2,hown',hone,hsz',q5,fun b hb=>by rw [upd_same,hb'] at hb;cases hb⟩,fun j hj=>by simp [EV.refers] at hj,fun _ b hb=>by rw [hb'] at hb;cases hb⟩⟩
    | some nb=>
     have hnb:=hfresh nb hb'
     have hfr:=h.base.imm.fresh hnb
     let g':af:=if tip then g.claim nb (xs++news) else g
     have hgm:∀b,b≠nb→g'.m b=g.m b:=by
      intro b hb;funext j
      cases tip<;>simp [g',af.claim,hb]
     have hgL:g'.L=g.L:=by cases tip<;>rfl
     have hgH:g'.hist=g.hist:=by cases tip<;>rfl
     have hgT:∀b,g'.taken s.length b→g.taken s.length b:=by intro b hb;cases tip<;>exact hb
     have hgmm:g'.mm=g.mm:=by cases tip<;>rfl
     have hle:g.le s.length g' s.length:=by
      refine ⟨fun b o v hm=>?_,fun b es hm=>by rw [hgmm];exact hm,fun l _=>by rw [hgL],fun l _ k v hk=>by rw [hgH];exact hk,Nat.le_refl _⟩
      by_cases hb:b=nb
      ·subst hb;rw [hfr.m o] at hm;cases hm
      ·rw [hgm b hb];exact hm
     have hrow:∃cur,rowT w' tip nb cur el∧∀j (hj:j<(xs++news).length),cur[j]?=some (xs++news)[j]:=by
      rcases r2.2 with ⟨hv,_⟩|⟨gb',cap,cur,hv,_,hg',_,_,_,htake⟩
      ·rw [hv] at hb';simp [aQ] at hb'
      ·rw [hv] at hb';simp [aQ] at hb';subst hb'
       refine ⟨cur,hg',fun j hj=>?_⟩
       have:=List.getElem?_eq_getElem hj
       rw [←this]
       rw [←htake,List.getElem?_take,if_pos (by rw [←r2.1];exact hj)]
       simp
     obtain ⟨cur,hc1,hc2⟩:=hrow
     have him:Imm g' w':=by
      refine ⟨fun b o v hm=>?_,by rw [hgmm];exact h2.base.imm.mm⟩
      by_cases hb:b=nb
      ·subst hb
       cases tip with
       | false=>exact h2.base.imm.m b o v hm
       | true=>
        simp only [g',if_true,af.claim,true_and] at hm
        split at hm
        ·rename_i ho
         rw [hc1.cell o,hc2 o ho]
         rw [List.getElem?_eq_getElem ho] at hm;exact hm
        ·exact h2.base.imm.m b o v hm
      ·rw [hgm b hb] at hm;exact h2.base.imm.m b o v hm
     have hfo:=x9 h hnb
     refine ⟨v',w',g',.inl (hq r1),s2.trans ⟨hle,Nat.le_refl _,fun _ _ _=>rfl,fun b hb _=>hgm b (by have:=h.B;omega),fun b _=>by rw [hgmm],fun b hb=>.inl (hgT b hb),rfl,rfl,fun _=>⟨rfl,Nat.le_refl _⟩⟩,
      ⟨h2.base.fix hle him hgH (fun b hb=>⟨hgm b (fun hbg=>hfo.2 (by subst hbg;exact hb)),by rw [hgmm]⟩),h2.env.dropNext k hle (fun k' x hk' hx' hne b hb=>⟨rfl,hgm b (fun hbg=>?_),by rw [hgmm],hgT b⟩),h2.B⟩,
      ⟨fun dd _=>⟨xs++news,by rw [upd_same,hlen];exact r2,hown'.mono hle,hone,hsz',q5,fun b hb=>?_⟩,fun j hj=>by simp [EV.refers] at hj,fun _ b hb=>⟨fun k' e' hk' he' hbk=>?_,fun hl=>?_⟩⟩⟩
     ·subst hbg;exact hfo.1 k' x hk' hx' hb
     ·rw [upd_same,hb'] at hb;cases hb
      refine ⟨by rw [hgmm];exact hfr.mm,fun j hj=>?_,fun j hj=>?_⟩
      ·cases tip with
       | false=>exact hfr.m j
       | true=>
        simp only [g',if_true,af.claim,true_and]
        rw [if_neg (by omega)];exact hfr.m j
      ·cases tip with
       | false=>exact hfr.m j
       | true=>
        simp only [g',if_true,af.claim,true_and]
        rw [if_pos hj,List.getElem?_eq_getElem hj]
     ·rw [hb'] at hb;cases hb
      have hne:k'≠k:=fun hkk=>by
       subst hkk;rw [bF] at hk';cases hk';simp [EV.owns] at he'
      rw [aJ _ _ (Ne.symm hne),pq] at hk'
      cases hy:lk env k' with
      | none=>rw [hy] at hk';simp at hk'
      | some y=>
       rw [hy] at hk'
       simp only [Option.map_some,Option.some.injEq] at hk'
       split at hk'
       ·subst hk';simp [EV.owns] at he'
       ·subst hk'
        exact hfo.1 k' y hy he' hbk
     ·rw [hb'] at hb;cases hb
      exact hfo.2 (hgT _ hl)
 ·cases hsl
end Go.Ai
