/-
 Functions that defer one closure, which recovers.
-/
import Derived.Test.YtpihciomhfoafaaGreatDoorAiRn4
import Derived.Defers
set_option maxRecDepth 100000
set_option linter.unusedSimpArgs false
set_option linter.unusedVariables false
set_option linter.unusedSectionVars false
namespace Go.Ai
variable {qt:Prop} {P:Program} {glob:Nat→Option (List AV)} {g:af} {s:St} {B:Nat} {w:World} {env:Env} {a:Act} {call:AV→List AV→St→Ctx→CO} {cx:Ctx} {env':Env} {s':St}
def ptrTo (b:Nat):Value:=.pointer (some ⟨b,0,none⟩)
structure ab9 (P:Program) (f:FuncId) (k:Nat) (hnd:AV→Option (List (List AV))):Prop where
 fn:∃rf,P.funcs[f]?=some rf∧(rf.name == "runtime.NumGoroutine")=false∧rf.body.isNone=false
 idle:∀(bs:List Nat) (w:World),bs.length=k→CallsD P f (bs.map ptrTo).toArray .returning w fun e u w'=>e=.returned (.tuple #[])∧u=.returning∧w'=w
 busy:∀(bs:List Nat) (w:World) (v:AV) (u:Value) (g:af) (n:Nat) (news:List (List AV)),hnd v=some news→Rep g n u v→bs.length=k→bs.Nodup→news.length=k→
  (∀i (h:i<bs.length) (h':i<news.length),∃arr ty,w.heap[bs[i]]?=some (.cells arr ty (0,0))∧arr.size=news[i].length)→
  CallsD P f (bs.map ptrTo).toArray (.panicking [{ v:=u,recovered:=false }]) w fun e u' w'=>e=.returned (.tuple #[])∧u'=.panicking [{ v:=u,recovered:=true }]∧w.heap.size≤w'.heap.size∧w'.os=w.os∧w'.output=w.output∧
   (∀b,b<w.heap.size→b ∉ bs→w'.heap[b]?=w.heap[b]?)∧∀i (h:i<bs.length) (h':i<news.length),∃arr ty,w'.heap[bs[i]]?=some (.cells arr ty (0,0))∧aB g n arr.toList news[i]∧bH arr.toList
def YH (P:Program) (f:FuncId) (d:Ny):Prop:=
 ab9 P d.clo d.pins.length d.hnd∧
 ∃rf i0 ops0 i1 o1 o2 c cc cm,P.funcs[f]?=some rf∧(rf.name == "runtime.NumGoroutine")=false∧rf.body=some (.seq (.region i0 ops0 false) (match d.mid with|none=>.seq (.region i1 #[o1,o2] false) c|some _=>.seq cm (.seq (.region i1 #[o1,o2] false) c)))∧(∀m,d.mid=some m→sN P (.std rf.ntmps) cm m=true)∧
  iw P (.std rf.ntmps) ops0 ops0.toList d.pre=true∧sK P (.std rf.ntmps) #[o1,o2] o1 d.mkc=true∧
  (o2.op=.defer cc∧o2.dst=none∧o2.guard=none∧cc.callee=.value (.tmp d.ct)∧cc.args=#[])∧(∀pn dd,sN P ⟨rf.ntmps,d.lo,pn,dd⟩ c d.code=true)∧
  d.np≤rf.ntmps∧wG P rf.results.toList d.res=true∧(d.pins.all fun k=>decide (k<d.lo))=true
theorem QO {n:Nat}:∀{caps:List AV} {ls:List Nat} {ws:List Value},JX caps ls=true→aB g n ws caps→ws=ls.map fun l=>ptrTo (g.L l)
 | [],[],ws,_,h=>by
  have:=h.1;cases ws with
  | nil=>rfl
  | cons=>simp at this
 | [],_::_,_,h,_=>by simp [JX] at h
 | .pt l o::r,[],ws,h,_=>by cases o<;>simp [JX] at h
 | .pt l 0::r,l'::r',ws,h,hr=>by
  simp only [JX,Bool.and_eq_true,beq_iff_eq] at h
  obtain ⟨rfl,h⟩:=h
  cases ws with
  | nil=>exact absurd hr.1 (by simp)
  | cons w ws=>
   have h1:=hr.head
   cases h1
   rw [QO h hr.tail]
   rfl
 | .pt l (o+1)::r,_::_,ws,h,_=>by simp [JX] at h
theorem lK:∀(ls:List Nat) (news:List (List AV)) (s:St),(jh s ls news).length=s.length
 | [],_,_=>by simp [jh]
 | _::_,[],_=>by simp [jh]
 | l::ls,c::cs,s=>by simp only [jh];rw [lK ls cs];simp
theorem Cj:∀(ls:List Nat) (news:List (List AV)) (s:St) (l:Nat),l ∉ ls→(jh s ls news)[l]?=s[l]?
 | [],_,_,_,_=>by simp [jh]
 | _::_,[],_,_,_=>by simp [jh]
 | k::ls,c::cs,s,l,h=>by
  simp only [jh]
  rw [Cj ls cs _ l (fun hh=>h (by simp [hh])),List.getElem?_set_ne (fun he=>h (by simp [he]))]
theorem JM {n:Nat}:∀{ls:List Nat} {news:List (List AV)} {s:St},rH n s ls news=true→news.length=ls.length∧ls.Nodup
 | [],[],_,_=>⟨rfl,List.nodup_nil⟩
 | [],_::_,_,h=>by simp [rH] at h
 | _::_,[],_,h=>by simp [rH] at h
 | l::ls,c::cs,s,h=>by
  simp only [rH,Bool.and_eq_true] at h
  obtain ⟨h1,h2⟩:=JM h.2
  exact ⟨by simp [h1],List.nodup_cons.2 ⟨by simpa using h.1.1.1.2,h2⟩⟩
theorem JO {n:Nat}:∀{ls:List Nat} {news:List (List AV)} {s:St},rH n s ls news=true→∀i (h:i<ls.length) (h':i<news.length),n≤ls[i]∧(∃old,s[ls[i]]?=some (.cells old)∧old.length=news[i].length)
 | [],_,_,_,i,h,_=>by simp at h
 | _::_,[],_,h,_,_,_=>by simp [rH] at h
 | l::ls,c::cs,s,h,i,h1,h2=>by
  simp only [rH,Bool.and_eq_true,decide_eq_true_eq] at h
  cases i with
  | zero=>
   refine ⟨h.1.1.1.1, ?_⟩
   have h3:=h.1.1.2
   split at h3
   ·rename_i old ho;exact ⟨old,ho,by simpa using h3⟩
   ·cases h3
  | succ i=>exact JO h.2 i (by simpa using h1) (by simpa using h2)
theorem NV {n:Nat}:∀{ls:List Nat} {news:List (List AV)} {s:St},rH n s ls news=true→∀i (h:i<ls.length) (h':i<news.length),(jh s ls news)[ls[i]]?=some (.cells news[i])
 | [],_,_,_,i,h,_=>by simp at h
 | _::_,[],_,h,_,_,_=>by simp [rH] at h
 | l::ls,c::cs,s,h,i,h1,h2=>by
  have hg:=JO h
  simp only [jh]
  have hn:=(JM h).2
  have hnm:=(List.nodup_cons.1 hn).1
  cases i with
  | zero=>
   obtain ⟨_,old,ho,_⟩:=hg 0 (by simp) (by simp)
   simp only [List.getElem_cons_zero] at ho ⊢
   rw [Cj _ _ _ _ hnm,List.getElem?_set_self (List.getElem?_eq_some_iff.1 ho).1]
  | succ i=>
   simp only [rH,Bool.and_eq_true] at h
   have key:∀(ls:List Nat) (cs:List (List AV)),l ∉ ls→rH n s ls cs=true→rH n (s.set l (.cells c)) ls cs=true:=by
    intro ls
    induction ls with
    | nil=>intro cs _ h;cases cs<;>simp_all [rH]
    | cons k ls ih=>
     intro cs hm h
     cases cs with
     | nil=>simp [rH] at h
     | cons d cs=>
      simp only [rH,Bool.and_eq_true] at h ⊢
      refine ⟨⟨⟨h.1.1.1, ?_⟩,h.1.2⟩,ih cs (fun hh=>hm (by simp [hh])) h.2⟩
      rw [List.getElem?_set_ne (fun he=>hm (by simp [he]))]
      exact h.1.1.2
   exact NV (key ls cs hnm h.2) i (by simpa using h1) (by simpa using h2)
theorem TI (hb:Base P glob g s w) {n:Nat} {ls:List Nat} {news:List (List AV)} (hfit:rH n s ls news=true) {w':World} (hsize:w.heap.size≤w'.heap.size)
  (hother:∀b,b<w.heap.size→b ∉ ls.map g.L→w'.heap[b]?=w.heap[b]?)
  (hnew:∀i (h:i<ls.length) (h':i<news.length),∃arr ty,w'.heap[g.L ls[i]]?=some (.cells arr ty (0,0))∧aB g s.length arr.toList news[i]∧bH arr.toList):Base P glob g (jh s ls news) w':=by
 obtain ⟨hlen,hnd⟩:=JM hfit
 have hcell:∀l∈ls,∃old,s[l]?=some (.cells old):=by
  intro l hl
  obtain ⟨i,hi,rfl⟩:=List.getElem_of_mem hl
  obtain ⟨_,old,ho,_⟩:=JO hfit i hi (by omega)
  exact ⟨old,ho⟩
 have hno:∀b,(∃o v,g.m b o=some v)∨(∃es,g.mm b=some es)→b ∉ ls.map g.L:=by
  intro b hc hm
  obtain ⟨l,hl,rfl⟩:=List.mem_map.1 hm
  obtain ⟨old,ho⟩:=hcell l hl
  have hnc:=(hb.heap.obj l _ ho).1
  rcases hc with ⟨o,v,hv⟩|⟨es,he⟩
  ·rw [hnc.m o] at hv;cases hv
  ·rw [hnc.mm] at he;cases he
 refine ⟨⟨fun b o v hv=>?_,fun b es he=>?_⟩,⟨?_, ?_, ?_⟩,hb.glob⟩
 ·have hbs:=cell_lt (hb.imm.m b o v hv)
  rw [World.cell?_of_block (hother b hbs (hno b (.inl ⟨o,v,hv⟩)))]
  exact hb.imm.m b o v hv
 ·have hbs:=(hb.imm.mm b es he).lt
  exact (hb.imm.mm b es he).keep (hother b hbs (hno b (.inr ⟨es,he⟩)))
 ·intro l l' b h1 h2;rw [lK] at h1 h2;exact hb.heap.inj l l' b h1 h2
 ·intro l b h1 h2;rw [lK] at h1;exact Nat.lt_of_lt_of_le (hb.heap.lt l b h1 h2) hsize
 ·intro l ob ho
  rw [lK]
  by_cases hl:l∈ls
  ·obtain ⟨i,hi,rfl⟩:=List.getElem_of_mem hl
   rw [NV hfit i hi (by omega)] at ho
   cases ho
   obtain ⟨old,hold⟩:=hcell _ hl
   obtain ⟨arr,ty,e1,e2,e3⟩:=hnew i hi (by omega)
   exact ⟨(hb.heap.obj _ _ hold).1,arr,ty,e1,e2,e3⟩
  ·rw [Cj _ _ _ _ hl] at ho
   have hlt:l<s.length:=(List.getElem?_eq_some_iff.1 ho).1
   refine (hb.heap.obj l ob ho).next (.refl _ _) hlt rfl fun b hbl=>⟨hother b (hb.heap.lt l b hlt hbl) ?_,rfl,rfl⟩
   intro hm
   obtain ⟨l',hl',he⟩:=List.mem_map.1 hm
   obtain ⟨old,hold⟩:=hcell l' hl'
   have:=hb.heap.inj l l' b hlt (List.getElem?_eq_some_iff.1 hold).1 hbl (.inl he)
   subst this
   exact hl hl'
theorem OQ {env:Env}:∀{ks ls:List Nat},ks.mapM (placeOf env)=some ls→ls.length=ks.length∧∀p∈ks.zip ls,lk env p.1=some (.v (.pt p.2 0))
 | [],ls,h=>by simp at h;subst h;simp
 | k::ks,ls,h=>by
  simp only [List.mapM_cons,Option.bind_eq_bind,Option.pure_def] at h
  cases hk:placeOf env k with
  | none=>simp [hk] at h
  | some l=>
   cases hr:ks.mapM (placeOf env) with
   | none=>simp [hk,hr] at h
   | some ls'=>
    simp [hk,hr] at h
    subst h
    obtain ⟨h1,h2⟩:=OQ hr
    refine ⟨by simp [h1],fun p hp=>?_⟩
    simp only [List.zip_cons_cons,List.mem_cons] at hp
    rcases hp with rfl|hp
    ·unfold placeOf at hk
     split at hk
     ·rename_i l' hl;cases hk;exact hl
     ·cases hk
    ·exact h2 p hp
theorem Bj:∀{ks ls:List Nat} {k:Nat} {e:EV},lk (CJ ks ls) k=some e→∃l,(k,l)∈ks.zip ls∧e=.v (.pt l 0)
 | [],_,k,e,h=>by simp [CJ,lk] at h
 | _::_,[],k,e,h=>by simp [CJ,lk] at h
 | k0::ks,l::ls,k,e,h=>by
  simp only [CJ,dY] at h
  split at h
  ·rename_i hk;subst hk;cases h;exact ⟨l,by simp,rfl⟩
  ·obtain ⟨l',h1,h2⟩:=Bj h
   exact ⟨l',by simp [h1],h2⟩
theorem Qi {N:Nat} {d:Ny} {args:List AV} {r:AV} (h:mD glob call N d args s cx=.ret r s'):
  args.length=d.np∧∃envm sm,gq glob call ⟨cx.lim,s.length⟩ d.pre (sH args 0) s=.norm envm sm∧
   ((∃env2 s2 rs,Ag glob call ⟨cx.lim,s.length⟩ N d.mid envm sm=.ret env2 s2∧iM glob env2 s2 d.res=some rs∧finish false false s s2 (lQ rs)=.ret r s')∨
   ∃env0' s0 env1 s1 caps ls,Ag glob call ⟨cx.lim,s.length⟩ N d.mid envm sm=.norm env0' s0∧bD glob call ⟨cx.lim,s.length⟩ d.mkc env0' s0=.norm env1 s1∧
   lk env1 d.ct=some (.v (.fn (.func d.clo) [] caps))∧d.pins.mapM (placeOf env1)=some ls∧JX caps ls=true∧
   ((∃env2 s2 rs,(aI glob call ⟨cx.lim,s.length⟩ true N d.code env1 s1=.norm env2 s2∨aI glob call ⟨cx.lim,s.length⟩ true N d.code env1 s1=.ret env2 s2)∧iM glob env2 s2 d.res=some rs∧finish false false s s2 (lQ rs)=.ret r s')∨
     ∃v s2 news rs,aI glob call ⟨cx.lim,s.length⟩ true N d.code env1 s1=.pan v s2∧d.hnd v=some news∧rH s.length s2 ls news=true∧iM glob (CJ d.pins ls) (jh s2 ls news) d.res=some rs∧finish false false s (jh s2 ls news) (lQ rs)=.ret r s')):=by
 unfold mD at h
 split at h
 case isFalse=>cases h
 case isTrue hlen=>
 refine ⟨hlen, ?_⟩
 split at h
 case h_2=>cases h
 rename_i envm sm hm0
 refine ⟨envm,sm,hm0, ?_⟩
 split at h
 ·rename_i env2 s2 h2
  split at h
  ·rename_i rs hrs;exact .inl ⟨env2,s2,rs,h2,hrs,h⟩
  ·cases h
 case h_3=>cases h
 rename_i env0' s0 h0
 refine .inr ?_
 split at h
 case h_2=>cases h
 rename_i env1 s1 h1
 split at h
 case h_2=>cases h
 rename_i f caps ls hct hls
 split at h
 case isFalse=>cases h
 rename_i hfc
 obtain ⟨rfl,hcaps⟩:=hfc
 refine ⟨env0',s0,env1,s1,caps,ls,h0,h1,hct,hls,hcaps, ?_⟩
 split at h
 ·rename_i env2 s2 h2
  split at h
  ·rename_i rs hrs;exact .inl ⟨env2,s2,rs,.inl h2,hrs,h⟩
  ·cases h
 ·rename_i env2 s2 h2
  split at h
  ·rename_i rs hrs;exact .inl ⟨env2,s2,rs,.inr h2,hrs,h⟩
  ·cases h
 ·rename_i v s2 h2
  split at h
  ·rename_i news hn
   split at h
   ·rename_i hfit
    split at h
    ·rename_i rs hrs;exact .inr ⟨v,s2,news,rs,h2,hn,hfit,hrs,h⟩
    ·cases h
   ·cases h
  ·cases h
 ·cases h
theorem Rx {p k:Bool} {s1:St} {r0 r:AV} (h:finish p k s s1 r0=.pan r s'):False:=by
 unfold finish at h;(repeat' split at h)<;>cases h
theorem Qh {N:Nat} {d:Ny} {args:List AV} {r:AV} (h:mD glob call N d args s cx=.pan r s'):False:=by
 unfold mD at h
 (repeat' split at h)<;>first | (cases h;done)|exact Rx h
theorem Qg (hqt:qt=False) (hcall:l7 qt P glob call) (hext:dO call) (hdraw:FZ qt P glob call) (hM:P.follows .mixedOrders=true) {f:FuncId} {d:Ny} (hd:YH P f d) {N m:Nat} {args:List AV} {r:AV} (hcx:bQ cx s)
  (h:mD glob call N d args s cx=.ret r s') (hb:Base P glob g s w) {vs:Array Value} (hv:aB g s.length vs.toList args):CallsIn Fence.wide m P f vs w (Ret qt P glob g s w r s'):=by
 obtain ⟨⟨⟨rfc,hfc,hnc,hbc⟩,hidle,hbusy⟩,rf,i0,ops0,i1,o1,o2,c,cc,cm,hf,hname,hbody,hckm,hck0,hck1,⟨ho2,hdst2,hg2,hcal,hargs⟩,hckc,hnp,hres,hpl⟩:=hd
 obtain ⟨hlen,envm,sm,hm0,hcases⟩:=Qi h
 have hvs:vs.size=d.np:=by have:=hv.1;simp at this;omega
 have hcx':bQ ⟨cx.lim,s.length⟩ s:=⟨hcx.lim,Nat.le_refl _⟩
 let a0:Act:={ tmps:=vs++Array.replicate (rf.ntmps - vs.size) undef,defers:=[] }
 have hsz:a0.tmps.size=rf.ntmps:=by simp [a0];omega
 have htm:∀k (hk:k<args.length) (hk':k<vs.size),Act.tm a0 k=vs[k]:=by
  intro k hk hk'
  simp only [Act.tm,a0,Array.getD_eq_getD_getElem?]
  rw [Array.getElem?_append_left hk']
  simp [hk']
 have hfr:∀b0,Fr P glob g s w.heap.size w a0 (sH args 0) (.std rf.ntmps) b0 []:=by
  intro b0
  have hown:∀k e,lk (sH args 0) k=some e→e.owns=false:=by
   intro k e hk;obtain ⟨_,_,rfl⟩:=CY args 0 k hk;rfl
  refine ⟨⟨hb,⟨fun k e hk=>?_,fun k k' e e' hk _ ho=>?_,fun k e hk ho=>?_,fun k e j hk hr=>?_⟩,Nat.le_refl _⟩,hsz,rfl,fun l hl=>by simp at hl,List.nodup_nil,fun l hl=>by simp at hl,fun p hp=>by simp at hp⟩
  ·obtain ⟨h1,_,rfl⟩:=CY args 0 k hk
   simp only [Nat.sub_zero] at h1
   have hk':k<vs.size:=by omega
   show Rep g s.length (Act.tm a0 k) args[k - 0]
   rw [htm k h1 hk']
   have:=hv.2 k (by simpa using hk') h1
   rwa [Array.getElem_toList] at this
  ·rw [hown k e hk] at ho;cases ho
  ·rw [hown k e hk] at ho;cases ho
  ·obtain ⟨_,_,rfl⟩:=CY args 0 k hk;simp [EV.refers] at hr
 have hem:Ext ⟨cx.lim,s.length⟩ s sm:=CB hext d.pre hcx' (by rw [hm0];rfl)
 have hcxm:bQ ⟨cx.lim,s.length⟩ sm:=hcx'.ext hem
 have midE:∀{o:Out} {s1:St},Ag glob call ⟨cx.lim,s.length⟩ N d.mid envm sm=o→o.st=some s1→Ext ⟨cx.lim,s.length⟩ s s1:=by
  intro o s1 hm hs
  unfold Ag at hm
  split at hm
  ·subst hm;cases hs;exact hem
  ·exact hem.trans (aW hext _ hcxm (by rw [hm];exact hs))
 refine callsIn_wide.2 (calls_of_wp_defers hf hbody ((wpIn_wide (n:=m)).1 ?_))
 refine wpIn_seq (wpIn_region ?_)
 rw [List.range_eq_range']
 rcases hcases with ⟨env2,s2,rs,hmr,hrs,hfin⟩|⟨env0',s0,env1,s1,caps,ls,h0,h1,hct,hls,hcaps,hrest⟩
 ·cases hmid:d.mid with
  | none=>rw [hmid] at hmr;cases hmr
  | some mc=>
   rw [hmid] at hmr
   replace hmr:aI glob call ⟨cx.lim,s.length⟩ true N mc envm sm=.ret env2 s2:=hmr
   have he2:Ext ⟨cx.lim,s.length⟩ s s2:=hem.trans (aW hext mc hcxm (ro:=true) (N:=N) (env:=envm) (s':=s2) (congrArg Out.st hmr))
   have hops:=Ba (F:=Fence.wide) (n:=m) (b0:=s2.length) (ls:=[]) (Q:=Exit.then ((Code.seq cm (.seq (.region i1 #[o1,o2] false) c)).wpIn Fence.wide m P (bodyPostD P rf (Ret qt P glob g s w r s'))) (bodyPostD P rf (Ret qt P glob g s w r s'))) hcall hext (.inl rfl) ops0.toList d.pre 0 (by simp) hck0 hcx' (hfr s2.length) hm0 (fun g0 w0 a0' st0 hf0=>?_)
   ·simpa using hops
   show (Code.seq cm (.seq (.region i1 #[o1,o2] false) c)).wpIn Fence.wide m P _ a0' w0
   refine wpIn_seq ?_
   refine wpIn_mono (bg (F:=Fence.wide) (n:=m) (b0:=s2.length) hcall hext hdraw (.inl rfl) (fun h=>by cases h) hM mc cm (hckm mc hmid) hcxm (fun h=>by cases h) hf0 hmr rfl) (fun e a2 w2 hq=>?_)
   obtain ⟨rfl,g2,ls',st2,hf2⟩:=hq
   have hnil:ls'=[]:=by
    cases ls' with
    | nil=>rfl
    | cons l _=>
     have h1:=hf2.lo l (by simp)
     have h2:=(List.getElem?_eq_some_iff.1 (hf2.df l (by simp))).1
     omega
   subst hnil
   show Leaves P rf a2.tmps _ a2.defers .returning w2
   rw [show a2.defers=[] from hf2.dl]
   obtain ⟨us,g3,q1,q2,q3,q4⟩:=F5 (a:=a2) hres hf2.sim hrs
   refine ⟨Qw us,zy q1, ?_⟩
   obtain ⟨g',f1,f2,f3⟩:=sG (fn:=⟨0,[],false,false,.skip⟩) (cx:=cx) (ls:=[]) hb he2 (by simp) (by simp) q3 ((st0.trans st2).trans q2) (CG q4) hfin
   exact ⟨_,g',rfl,f1,f2,f3⟩
 have he0:Ext ⟨cx.lim,s.length⟩ s s0:=midE h0 rfl
 have hcx0:bQ ⟨cx.lim,s.length⟩ s0:=hcx'.ext he0
 have he1:Ext ⟨cx.lim,s.length⟩ s0 s1:=jR hext hcx0 (o:=d.mkc) (by rw [h1];rfl)
 have hcx1:bQ ⟨cx.lim,s.length⟩ s1:=hcx0.ext he1
 have hpl':∀k∈d.pins,k<d.lo:=by simpa [List.all_eq_true] using hpl
 obtain ⟨hlsl,hlsk⟩:=OQ hls
 -- the rest,once the closure is deferred
 have rest:∀g1 w1 a1,Step qt g s.length w.heap.size w g1 s1.length w1→Fr P glob g1 s1 w.heap.size w1 a1 env1 (.std rf.ntmps) 0 []→∀fv:Array Value,fv.toList=ls.map (fun l=>ptrTo (g1.L l))→
   c.wpIn Fence.wide m P (bodyPostD P rf (Ret qt P glob g s w r s')) { a1 with defers:=[{ target:=.fn (.func d.clo) fv,args:=#[] }] } w1:=by
  intro g1 w1 a1 st1 hf1 fv hfv
  let bs:=ls.map g1.L
  obtain rfl:fv=(bs.map ptrTo).toArray:=by
   apply Array.ext'
   rw [hfv]
   simp only [bs,List.map_map]
   rfl
  let dd:List Deferred:=[{ target:=.fn (.func d.clo) (bs.map ptrTo).toArray,args:=#[] }]
  let N':Wd:=⟨rf.ntmps,d.lo,d.pins.zip ls,dd⟩
  let a1':Act:={ a1 with defers:=dd }
  have hpin:∀p∈d.pins.zip ls,p.1<d.lo∧p.2<s1.length∧Act.tm a1 p.1=.pointer (some ⟨g1.L p.2,0,none⟩):=by
   intro p hp
   have hm:p.1∈d.pins:=(List.of_mem_zip hp).1
   have hr:Rep g1 s1.length (Act.tm a1 p.1) (.pt p.2 0):=hf1.sim.env.rel p.1 _ (hlsk p hp)
   generalize Act.tm a1 p.1=x at hr
   cases hr with
   | pt _ _ hlt=>exact ⟨hpl' _ hm,hlt,rfl⟩
  have hf1':∀b0,Fr P glob g1 s1 w.heap.size w1 a1' env1 N' b0 []:=fun b0=>
   ⟨hf1.sim,hf1.sz,rfl,by simp,List.nodup_nil,by simp,hpin⟩
  have hlslt:∀l∈ls,l<s1.length:=by
   intro l hl
   obtain ⟨i,hi,rfl⟩:=List.getElem_of_mem hl
   have hz:i<(d.pins.zip ls).length:=by simp;omega
   have:=(hpin (d.pins.zip ls)[i] (List.getElem_mem hz)).2.1
   simpa using this
  have hbsl:bs.length=d.pins.length:=by simp [bs,hlsl]
  have hinv:∀w2,(invoke (.fn (.func d.clo) (bs.map ptrTo).toArray) #[]).run P w2=.ok (.enter d.clo (bs.map ptrTo).toArray) w2:=by
   intro w2
   unfold invoke
   simp only [Array.empty_append]
   unfold callFunc
   have hbc':¬rfc.body=none:=by intro he;rw [he] at hbc;cases hbc
   have hnc':¬rfc.name= "runtime.NumGoroutine":=by intro he;rw [he] at hnc;simp at hnc
   simp [program,Sem.run_bind,Sem.run,hfc,hnc',hbc']
  have acS:=fun {out:Out} {b0:Nat} (hr1:aI glob call ⟨cx.lim,s.length⟩ true N d.code env1 s1=out) (hst:out.st.isSome=true)=>
   bg (F:=Fence.wide) (n:=m) (b0:=b0) hcall hext hdraw (.inl rfl) (fun h=>by cases h) hM d.code c (hckc N'.pn N'.dd) hcx1 (fun h=>by cases h) (hf1' b0) hr1 hst
  have acE:=fun {out:Out} {s2:St} (hr1:aI glob call ⟨cx.lim,s.length⟩ true N d.code env1 s1=out) (hst:out.st=some s2)=>
   (he0.trans he1).trans (aW hext d.code hcx1 (ro:=true) (N:=N) (env:=env1) (s':=s2) ((congrArg Out.st hr1).trans hst))
  have nols:∀{g2:af} {s2:St} {w2:World} {a2:Act} {env2:Env} {ls':List Nat},Fr P glob g2 s2 w.heap.size w2 a2 env2 N' s2.length ls'→ls'=[]:=by
   intro g2 s2 w2 a2 env2 ls' hf2
   cases ls' with
   | nil=>rfl
   | cons l _=>
    have h1:=hf2.lo l (by simp)
    have h2:=(List.getElem?_eq_some_iff.1 (hf2.df l (by simp))).1
    omega
  rcases hrest with ⟨env2,s2,rs,hac,hrs,hfin⟩|⟨v,s2,news,rs,hac,hn,hfit,hrs,hfin⟩
  ·have key:∀a2 w2 g2 ls',Ext ⟨cx.lim,s.length⟩ s s2→Step qt g1 s1.length w.heap.size w1 g2 s2.length w2→Fr P glob g2 s2 w.heap.size w2 a2 env2 N' s2.length ls'→Leaves P rf a2.tmps (Ret qt P glob g s w r s') a2.defers .returning w2:=by
    intro a2 w2 g2 ls' he2 st2 hf2
    have:=nols hf2;subst this
    rw [show a2.defers=dd from hf2.dl]
    refine leaves_cons (by simp) (hinv w2) (CallsD.mono (hidle bs w2 hbsl) (fun e u' w' hh=>?_))
    obtain ⟨rfl,rfl,rfl⟩:=hh
    show Leaves P rf a2.tmps _ [] .returning w'
    obtain ⟨us,g3,q1,q2,q3,q4⟩:=F5 (a:=a2) hres hf2.sim hrs
    refine ⟨Qw us,zy q1, ?_⟩
    obtain ⟨g',f1,f2,f3⟩:=sG (fn:=⟨0,[],false,false,.skip⟩) (cx:=cx) (ls:=[]) hb he2 (by simp) (by simp) q3 ((st1.trans st2).trans q2) (CG q4) hfin
    exact ⟨_,g',rfl,f1,f2,f3⟩
   rcases hac with hac|hac
   ·refine wpIn_mono (acS (b0:=s2.length) hac rfl) (fun e a2 w2 hq=>?_)
    obtain ⟨rfl,g2,ls',st2,hf2⟩:=hq
    exact key a2 w2 g2 ls' (acE hac rfl) st2 hf2
   ·refine wpIn_mono (acS (b0:=s2.length) hac rfl) (fun e a2 w2 hq=>?_)
    obtain ⟨rfl,g2,ls',st2,hf2⟩:=hq
    exact key a2 w2 g2 ls' (acE hac rfl) st2 hf2
  ·refine wpIn_mono (acS (b0:=s2.length) hac rfl) (fun e a2 w2 hq=>?_)
   obtain ⟨u,rfl,g2,ls',st2,hf2,hrp⟩:=hq
   have:=nols hf2;subst this
   show Leaves P rf a2.tmps _ a2.defers _ w2
   rw [show a2.defers=dd from hf2.dl]
   have he2:Ext ⟨cx.lim,s.length⟩ s (jh s2 ls news):=(acE hac rfl).trans (Hw _ _ hcx.lim (Nat.le_refl _) hfit)
   obtain ⟨hnl,hnd⟩:=JM hfit
   have hget:=JO hfit
   have hL:∀l∈ls,g2.L l=g1.L l:=fun l hl=>st2.le.L l (hlslt l hl)
   have hbs:bs=ls.map g2.L:=List.map_congr_left fun l hl=>(hL l hl).symm
   have hlt2:∀l∈ls,l<s2.length:=fun l hl=>Nat.lt_of_lt_of_le (hlslt l hl) st2.le.n
   have hnodup:bs.Nodup:=by
    rw [hbs]
    unfold List.Nodup
    rw [List.pairwise_map]
    refine hnd.imp_of_mem (fun {x y} hx hy hne hxy=>hne ?_)
    exact hf2.sim.base.heap.inj x y (g2.L x) (hlt2 x hx) (hlt2 y hy) (.inl rfl) (.inl hxy.symm)
   have hblk:∀i (h:i<bs.length) (h':i<news.length),∃arr ty,w2.heap[bs[i]]?=some (.cells arr ty (0,0))∧arr.size=news[i].length:=by
    intro i h h'
    have hi:i<ls.length:=by simpa [bs] using h
    obtain ⟨_,old,ho,hol⟩:=hget i hi h'
    obtain ⟨_,arr,ty,e1,e2,e3⟩:=hf2.sim.base.heap.obj _ _ ho
    refine ⟨arr,ty, ?_, ?_⟩
    ·have:bs[i]=g2.L ls[i]:=by simp [bs,hL _ (List.getElem_mem hi)]
     rw [this];exact e1
    ·have:=e2.1;simp at this;omega
   refine leaves_cons (by simp) (hinv w2) (CallsD.mono (hbusy bs w2 v u g2 s2.length news hn hrp hbsl hnodup (by omega) hblk) (fun e u' w' hh=>?_))
   obtain ⟨rfl,rfl,hsize,hos,hout,hother,hnew⟩:=hh
   show Leaves P rf a2.tmps _ [] .returning w'
   rw [hbs] at hother
   have hnew':∀i (h:i<ls.length) (h':i<news.length),∃arr ty,w'.heap[g2.L ls[i]]?=some (.cells arr ty (0,0))∧aB g2 s2.length arr.toList news[i]∧bH arr.toList:=by
    intro i hi h'
    obtain ⟨arr,ty,e1,e2,e3⟩:=hnew i (by simpa [bs] using hi) h'
    have:bs[i]'(by simpa [bs] using hi)=g2.L ls[i]:=by simp [bs,hL _ (List.getElem_mem hi)]
    rw [this] at e1
    exact ⟨arr,ty,e1,e2,e3⟩
   have hb3:=TI hf2.sim.base hfit hsize hother hnew'
   have hs3:Sim P glob g2 (jh s2 ls news) w.heap.size w' (Act.tm a2) (CJ d.pins ls):=by
    refine ⟨hb3,⟨fun k e hk=>?_,fun k k' e e' hk _ ho=>?_,fun k e hk ho=>?_,fun k e j hk hr=>?_⟩,Nat.le_trans hf2.sim.B hsize⟩
    ·obtain ⟨l,hl,rfl⟩:=Bj hk
     obtain ⟨q1,q2,q3⟩:=hf2.pin (k,l) hl
     show Rep g2 _ (Act.tm a2 k) (.pt l 0)
     rw [q3,lK]
     exact .pt l 0 q2
    ·obtain ⟨l,hl,rfl⟩:=Bj hk;simp [EV.owns] at ho
    ·obtain ⟨l,hl,rfl⟩:=Bj hk;simp [EV.owns] at ho
    ·obtain ⟨l,hl,rfl⟩:=Bj hk;simp [EV.refers] at hr
   have st3:Step qt g2 s2.length w.heap.size w2 g2 (jh s2 ls news).length w':=by
    rw [lK]
    refine ⟨.refl _ _,hsize,fun b hb' hnt=>hother b (Nat.lt_of_lt_of_le hb' hf2.sim.B) (fun hm=>?_),fun _ _ _=>rfl,fun _ _=>rfl,fun b hb'=>.inl hb',hos,hout,fun hq=>by rw [hqt] at hq;exact hq.elim⟩
    obtain ⟨l,hl,rfl⟩:=List.mem_map.1 hm
    exact hnt (.L (hlt2 l hl))
   obtain ⟨us,g3,q1,q2,q3,q4⟩:=F5 (a:=a2) hres hs3 hrs
   refine ⟨Qw us,zy q1, ?_⟩
   obtain ⟨g',f1,f2,f3⟩:=sG (fn:=⟨0,[],false,false,.skip⟩) (cx:=cx) (ls:=[]) hb he2 (by simp) (by simp) q3 (((st1.trans st2).trans st3).trans q2) (CG q4) hfin
   exact ⟨_,g',rfl,f1,f2,f3⟩
 have tailD:∀(b0:Nat) (g0:af) (w0:World) (a0':Act),Step qt g s.length w.heap.size w g0 s0.length w0→Fr P glob g0 s0 w.heap.size w0 a0' env0' (.std rf.ntmps) b0 []→
   (Code.seq (.region i1 #[o1,o2] false) c).wpIn Fence.wide m P (bodyPostD P rf (Ret qt P glob g s w r s')) a0' w0:=by
  intro b0 g0 w0 a0' st0 hf0x
  have hf0:Fr P glob g0 s0 w.heap.size w0 a0' env0' (.std rf.ntmps) 0 []:=⟨hf0x.sim,hf0x.sz,hf0x.dl,by simp,List.nodup_nil,by simp,hf0x.pin⟩
  refine wpIn_seq (wpIn_region ?_)
  rw [show List.range (#[o1,o2]:Array Oper).size=[0,1] from rfl,wpOpsIn_cons]
  refine EO hcall hext (.inl rfl) hcx0 hf0 (by rfl) hck1 h1 (fun g1 w1 a1 st1 hf1=>?_)
  rw [wpOpsIn_cons]
  have hcv:Rep g1 s1.length (Act.tm a1 d.ct) (.fn (.func d.clo) [] caps):=hf1.sim.env.rel d.ct _ hct
  generalize hcvv:Act.tm a1 d.ct=cv at hcv
  cases hcv with
  | fn _ vs0 ws _ _ hl hl' hr hr'=>
  have hvs0:vs0=#[]:=Array.eq_empty_of_size_eq_zero (by simpa using hl)
  subst hvs0
  have hws:ws.toList=ls.map fun l=>ptrTo (g1.L l):=QO hcaps ⟨by simpa using hl',fun i h h'=>by simpa using hr' i (by simpa using h) h'⟩
  have hexec:(execOp a1.eval o2).run P w1=.ok (.defer { target:=.fn (.func d.clo) ws,args:=#[] }) w1:=by
   have hcv':a1.eval (.tmp d.ct)=.func (.func d.clo) #[] ws:=hcvv
   simp [execOp,ho2,resolve,hcal,hargs,hcv',Deferred.ofValue,Sem.run_bind,Sem.run]
  unfold wpOpIn
  rw [show (#[o1,o2]:Array Oper)[1]?=some o2 from rfl]
  have hw:Region.wanted o2 (yielded #[o1,o2] a1.tmps)=true:=by simp [Region.wanted,hg2]
  simp only [hw,if_true,Oper.wpIn]
  refine ⟨fun f _=>isF.fn (.inl rfl) f, ?_⟩
  rw [show (Fence.wide.round)=none from rfl,Oper.semAt_none,hexec,Oper.uponIn_defer,hdst2]
  show c.wpIn Fence.wide m P _ _ w1
  have hdl:a1.defers=[]:=by have:=hf1.dl;simpa using this
  rw [hdl]
  exact rest g1 w1 a1 (st0.trans st1) hf1 ws hws
 cases hmid:d.mid with
 | none=>
  rw [hmid] at h0
  cases h0
  have hops:=Ba (F:=Fence.wide) (n:=m) (b0:=0) (ls:=[]) (Q:=Exit.then ((Code.seq (.region i1 #[o1,o2] false) c).wpIn Fence.wide m P (bodyPostD P rf (Ret qt P glob g s w r s'))) (bodyPostD P rf (Ret qt P glob g s w r s'))) hcall hext (.inl rfl) ops0.toList d.pre 0 (by simp) hck0 hcx' (hfr 0) hm0 (fun g0 w0 a0' st0 hf0=>?_)
  ·simpa using hops
  exact tailD 0 g0 w0 a0' st0 hf0
 | some mc=>
  rw [hmid] at h0
  replace h0:aI glob call ⟨cx.lim,s.length⟩ true N mc envm sm=.norm env0' s0:=h0
  have hops:=Ba (F:=Fence.wide) (n:=m) (b0:=s0.length) (ls:=[]) (Q:=Exit.then ((Code.seq cm (.seq (.region i1 #[o1,o2] false) c)).wpIn Fence.wide m P (bodyPostD P rf (Ret qt P glob g s w r s'))) (bodyPostD P rf (Ret qt P glob g s w r s'))) hcall hext (.inl rfl) ops0.toList d.pre 0 (by simp) hck0 hcx' (hfr s0.length) hm0 (fun g0 w0 a0' st0 hf0=>?_)
  ·simpa using hops
  show (Code.seq cm (.seq (.region i1 #[o1,o2] false) c)).wpIn Fence.wide m P _ a0' w0
  refine wpIn_seq ?_
  refine wpIn_mono (bg (F:=Fence.wide) (n:=m) (b0:=s0.length) hcall hext hdraw (.inl rfl) (fun h=>by cases h) hM mc cm (hckm mc hmid) hcxm (fun h=>by cases h) hf0 h0 rfl) (fun e a2 w2 hq=>?_)
  obtain ⟨rfl,g2,ls',st2,hf2⟩:=hq
  have hnil:ls'=[]:=by
   cases ls' with
   | nil=>rfl
   | cons l _=>
    have h1:=hf2.lo l (by simp)
    have h2:=(List.getElem?_eq_some_iff.1 (hf2.df l (by simp))).1
    omega
  subst hnil
  exact tailD s0.length g2 w2 a2 (st0.trans st2) hf2
end Go.Ai
