/-
 Functions that defer one closure, which recovers.
-/
import Derived.Test.YtcofenimejmoeaaGreatDoorAiA6
import Derived.Defers
import Derived.Test.YtcofenimejmoeaaGreatDoorAiA1
import Derived.IntWalk
import Derived.ChangeArms
import Derived.DataReads
import Derived.Deep.Slices
import GoSem.ClaimJoined
import Derived.OpenShut
import Derived.WideKeyArgs
import Derived.ChangeSame
import Derived.ProofKit
set_option maxRecDepth 100000
set_option linter.unusedSimpArgs false
set_option linter.unusedVariables false
set_option linter.unusedSectionVars false
namespace Go.Ai
variable {qt:Prop} {P:Program} {glob:Nat→Option (List AV)} {g:ai} {s:St} {B:Nat} {w:World} {env:Env} {a:Act} {call:AV→List AV→St→Ctx→CO} {cx:Ctx} {env':Env} {s':St}
def ptrTo (b:Nat):Value:=.pointer (some ⟨b,0,none⟩)
structure aeU (P:Program) (f:FuncId) (k:Nat) (hnd:AV→Option (List (List AV))):Prop where
 fn:∃rf,P.funcs[f]?=some rf∧(rf.name == "runtime.NumGoroutine")=false∧rf.body.isNone=false
 idle:∀(bs:List Nat) (w:World),bs.length=k→CallsD P f (bs.map ptrTo).toArray .returning w fun e u w'=>e=.returned (.tuple #[])∧u=.returning∧w'=w
 busy:∀(bs:List Nat) (w:World) (v:AV) (u:Value) (g:ai) (n:Nat) (news:List (List AV)),hnd v=some news→Rep g n u v→bs.length=k→bs.Nodup→news.length=k→
  (∀i (h:i<bs.length) (h':i<news.length),∃arr ty,w.heap[bs[i]]?=some (.cells arr ty (0,0))∧arr.size=news[i].length)→
  CallsD P f (bs.map ptrTo).toArray (.panicking [{ v:=u,recovered:=false }]) w fun e u' w'=>e=.returned (.tuple #[])∧u'=.panicking [{ v:=u,recovered:=true }]∧w.heap.size≤w'.heap.size∧w'.os=w.os∧w'.output=w.output∧
   (∀b,b<w.heap.size→b ∉ bs→w'.heap[b]?=w.heap[b]?)∧∀i (h:i<bs.length) (h':i<news.length),∃arr ty,w'.heap[bs[i]]?=some (.cells arr ty (0,0))∧aW g n arr.toList news[i]∧fD arr.toList
def aat (P:Program) (f:FuncId) (d:Gl):Prop:=
 aeU P d.clo d.pins.length d.hnd∧
 ∃rf i0 ops0 i1 o1 o2 c cc cm,P.funcs[f]?=some rf∧(rf.name == "runtime.NumGoroutine")=false∧rf.body=some (.seq (.region i0 ops0 false) (match d.mid with|none=>.seq (.region i1 #[o1,o2] false) c|some _=>.seq cm (.seq (.region i1 #[o1,o2] false) c)))∧(∀m,d.mid=some m→wM P (.std rf.ntmps) cm m=true)∧
  mJ P (.std rf.ntmps) ops0 ops0.toList d.pre=true∧wE P (.std rf.ntmps) #[o1,o2] o1 d.mkc=true∧
  (o2.op=.defer cc∧o2.dst=none∧o2.guard=none∧cc.callee=.value (.tmp d.ct)∧cc.args=#[])∧(∀pn dd,wM P ⟨rf.ntmps,d.lo,pn,dd⟩ c d.code=true)∧
  d.np≤rf.ntmps∧yL P rf.results.toList d.res=true∧(d.pins.all fun k=>decide (k<d.lo))=true
theorem Uz {n:Nat}:∀{caps:List AV} {ls:List Nat} {ws:List Value},Ew caps ls=true→aW g n ws caps→ws=ls.map fun l=>ptrTo (g.L l)
 | [],[],ws,_,h=>by
  have:=h.1;cases ws with
  | nil=>rfl
  | cons=>simp at this
 | [],_::_,_,h,_=>by simp [Ew] at h
 | .pt l o::r,[],ws,h,_=>by cases o<;>simp [Ew] at h
 | .pt l 0::r,l'::r',ws,h,hr=>by
  simp only [Ew,Bool.and_eq_true,beq_iff_eq] at h;obtain ⟨rfl,h⟩:=h
  cases ws with
  | nil=>exact absurd hr.1 (by simp)
  | cons w ws=>
   have h1:=hr.head;cases h1;rw [Uz h hr.tail];rfl
 | .pt l (o+1)::r,_::_,ws,h,_=>by simp [Ew] at h
theorem sS:∀(ls:List Nat) (news:List (List AV)) (s:St),(mV s ls news).length=s.length
 | [],_,_=>by simp [mV]
 | _::_,[],_=>by simp [mV]
 | l::ls,c::cs,s=>by simp only [mV];rw [sS ls cs];simp
theorem DF:∀(ls:List Nat) (news:List (List AV)) (s:St) (l:Nat),l ∉ ls→(mV s ls news)[l]?=s[l]?
 | [],_,_,_,_=>by simp [mV]
 | _::_,[],_,_,_=>by simp [mV]
 | k::ls,c::cs,s,l,h=>by
  simp only [mV];rw [DF ls cs _ l (fun hh=>h (by simp [hh])),List.getElem?_set_ne (fun he=>h (by simp [he]))]
theorem KP {n:Nat}:∀{ls:List Nat} {news:List (List AV)} {s:St},vG n s ls news=true→news.length=ls.length∧ls.Nodup
 | [],[],_,_=>⟨rfl,List.nodup_nil⟩
 | [],_::_,_,h=>by simp [vG] at h
 | _::_,[],_,h=>by simp [vG] at h
 | l::ls,c::cs,s,h=>by
  simp only [vG,Bool.and_eq_true] at h;obtain ⟨h1,h2⟩:=KP h.2;exact ⟨by simp [h1],List.nodup_cons.2 ⟨by simpa using h.1.1.1.2,h2⟩⟩
theorem KQ {n:Nat}:∀{ls:List Nat} {news:List (List AV)} {s:St},vG n s ls news=true→∀i (h:i<ls.length) (h':i<news.length),n≤ls[i]∧(∃old,s[ls[i]]?=some (.cells old)∧old.length=news[i].length)
 | [],_,_,_,i,h,_=>by simp at h
 | _::_,[],_,h,_,_,_=>by simp [vG] at h
 | l::ls,c::cs,s,h,i,h1,h2=>by
  simp only [vG,Bool.and_eq_true,decide_eq_true_eq] at h
  cases i with
  | zero=>
   refine ⟨h.1.1.1.1, ?_⟩;have h3:=h.1.1.2
   split at h3
   ·rename_i old ho;exact ⟨old,ho,by simpa using h3⟩
   ·cases h3
  | succ i=>exact KQ h.2 i (by simpa using h1) (by simpa using h2)
theorem PN {n:Nat}:∀{ls:List Nat} {news:List (List AV)} {s:St},vG n s ls news=true→∀i (h:i<ls.length) (h':i<news.length),(mV s ls news)[ls[i]]?=some (.cells news[i])
 | [],_,_,_,i,h,_=>by simp at h
 | _::_,[],_,h,_,_,_=>by simp [vG] at h
 | l::ls,c::cs,s,h,i,h1,h2=>by
  have hg:=KQ h;simp only [mV];have hn:=(KP h).2;have hnm:=(List.nodup_cons.1 hn).1
  cases i with
  | zero=>
   obtain ⟨_,old,ho,_⟩:=hg 0 (by simp) (by simp);simp only [List.getElem_cons_zero] at ho ⊢;rw [DF _ _ _ _ hnm,List.getElem?_set_self (List.getElem?_eq_some_iff.1 ho).1]
  | succ i=>
   simp only [vG,Bool.and_eq_true] at h
   have key:∀(ls:List Nat) (cs:List (List AV)),l ∉ ls→vG n s ls cs=true→vG n (s.set l (.cells c)) ls cs=true:=by
    intro ls
    induction ls with
    | nil=>intro cs _ h;cases cs<;>simp_all [vG]
    | cons k ls ih=>
     intro cs hm h
     cases cs with
     | nil=>simp [vG] at h
     | cons d cs=>
      simp only [vG,Bool.and_eq_true] at h ⊢;refine ⟨⟨⟨h.1.1.1, ?_⟩,h.1.2⟩,ih cs (fun hh=>hm (by simp [hh])) h.2⟩;rw [List.getElem?_set_ne (fun he=>hm (by simp [he]))];exact h.1.1.2
   exact PN (key ls cs hnm h.2) i (by simpa using h1) (by simpa using h2)
theorem X6 (hb:Base P glob g s w) {n:Nat} {ls:List Nat} {news:List (List AV)} (hfit:vG n s ls news=true) {w':World} (hsize:w.heap.size≤w'.heap.size)
  (hother:∀b,b<w.heap.size→b ∉ ls.map g.L→w'.heap[b]?=w.heap[b]?)
  (hnew:∀i (h:i<ls.length) (h':i<news.length),∃arr ty,w'.heap[g.L ls[i]]?=some (.cells arr ty (0,0))∧aW g s.length arr.toList news[i]∧fD arr.toList):Base P glob g (mV s ls news) w':=by
 obtain ⟨hlen,hnd⟩:=KP hfit
 have hcell:∀l∈ls,∃old,s[l]?=some (.cells old):=by
  intro l hl;obtain ⟨i,hi,rfl⟩:=List.getElem_of_mem hl;obtain ⟨_,old,ho,_⟩:=KQ hfit i hi (by omega);exact ⟨old,ho⟩
 have hno:∀b,(∃o v,g.m b o=some v)∨(∃es,g.mm b=some es)→b ∉ ls.map g.L:=by
  intro b hc hm;obtain ⟨l,hl,rfl⟩:=List.mem_map.1 hm;obtain ⟨old,ho⟩:=hcell l hl;have hnc:=(hb.heap.obj l _ ho).1;rcases hc with ⟨o,v,hv⟩|⟨es,he⟩
  ·rw [hnc.m o] at hv;cases hv
  ·rw [hnc.mm] at he;cases he
 refine ⟨⟨fun b o v hv=>?_,fun b es he=>?_⟩,⟨?_, ?_, ?_⟩,hb.glob⟩
 ·have hbs:=cell_lt (hb.imm.m b o v hv);rw [World.cell?_of_block (hother b hbs (hno b (.inl ⟨o,v,hv⟩)))];exact hb.imm.m b o v hv
 ·have hbs:=(hb.imm.mm b es he).lt;exact (hb.imm.mm b es he).keep (hother b hbs (hno b (.inr ⟨es,he⟩)))
 ·intro l l' b h1 h2;rw [sS] at h1 h2;exact hb.heap.inj l l' b h1 h2
 ·intro l b h1 h2;rw [sS] at h1;exact Nat.lt_of_lt_of_le (hb.heap.lt l b h1 h2) hsize
 ·intro l ob ho;rw [sS];by_cases hl:l∈ls
  ·obtain ⟨i,hi,rfl⟩:=List.getElem_of_mem hl;rw [PN hfit i hi (by omega)] at ho;cases ho;obtain ⟨old,hold⟩:=hcell _ hl;obtain ⟨arr,ty,e1,e2,e3⟩:=hnew i hi (by omega);exact ⟨(hb.heap.obj _ _ hold).1,arr,ty,e1,e2,e3⟩
  ·rw [DF _ _ _ _ hl] at ho;have hlt:l<s.length:=(List.getElem?_eq_some_iff.1 ho).1;refine (hb.heap.obj l ob ho).next (.refl _ _) hlt rfl fun b hbl=>⟨hother b (hb.heap.lt l b hlt hbl) ?_,rfl,rfl⟩;intro hm;obtain ⟨l',hl',he⟩:=List.mem_map.1 hm;obtain ⟨old,hold⟩:=hcell l' hl'
   have:=hb.heap.inj l l' b hlt (List.getElem?_eq_some_iff.1 hold).1 hbl (.inl he)
   subst this;exact hl hl'
theorem Qw {env:Env}:∀{ks ls:List Nat},ks.mapM (placeOf env)=some ls→ls.length=ks.length∧∀p∈ks.zip ls,lk env p.1=some (.v (.pt p.2 0))
 | [],ls,h=>by simp at h;subst h;simp
 | k::ks,ls,h=>by
  simp only [List.mapM_cons,Option.bind_eq_bind,Option.pure_def] at h
  cases hk:placeOf env k with
  | none=>simp [hk] at h
  | some l=>
   cases hr:ks.mapM (placeOf env) with
   | none=>simp [hk,hr] at h
   | some ls'=>
    simp [hk,hr] at h;subst h;obtain ⟨h1,h2⟩:=Qw hr;refine ⟨by simp [h1],fun p hp=>?_⟩;simp only [List.zip_cons_cons,List.mem_cons] at hp;rcases hp with rfl|hp
    ·unfold placeOf at hk
     split at hk
     ·rename_i l' hl;cases hk;exact hl
     ·cases hk
    ·exact h2 p hp
theorem CX:∀{ks ls:List Nat} {k:Nat} {e:EV},lk (zl ks ls) k=some e→∃l,(k,l)∈ks.zip ls∧e=.v (.pt l 0)
 | [],_,k,e,h=>by simp [zl,lk] at h
 | _::_,[],k,e,h=>by simp [zl,lk] at h
 | k0::ks,l::ls,k,e,h=>by
  simp only [zl,jI] at h
  split at h
  ·rename_i hk;subst hk;cases h;exact ⟨l,by simp,rfl⟩
  ·obtain ⟨l',h1,h2⟩:=CX h;exact ⟨l',by simp [h1],h2⟩
theorem SV {N:Nat} {d:Gl} {args:List AV} {r:AV} (h:tY glob call N d args s cx=.ret r s'):
  args.length=d.np∧∃envm sm,mD glob call ⟨cx.lim,s.length⟩ d.pre (xJ args 0) s=.norm envm sm∧
   ((∃env2 s2 rs,BR glob call ⟨cx.lim,s.length⟩ N d.mid envm sm=.ret env2 s2∧nX glob env2 s2 d.res=some rs∧finish false false s s2 (sZ rs)=.ret r s')∨
   ∃env0' s0 env1 s1 caps ls,BR glob call ⟨cx.lim,s.length⟩ N d.mid envm sm=.norm env0' s0∧fK glob call ⟨cx.lim,s.length⟩ d.mkc env0' s0=.norm env1 s1∧
   lk env1 d.ct=some (.v (.fn (.func d.clo) [] caps))∧d.pins.mapM (placeOf env1)=some ls∧Ew caps ls=true∧
   ((∃env2 s2 rs,(bF glob call ⟨cx.lim,s.length⟩ true N d.code env1 s1=.norm env2 s2∨bF glob call ⟨cx.lim,s.length⟩ true N d.code env1 s1=.ret env2 s2)∧nX glob env2 s2 d.res=some rs∧finish false false s s2 (sZ rs)=.ret r s')∨
     ∃v s2 news rs,bF glob call ⟨cx.lim,s.length⟩ true N d.code env1 s1=.pan v s2∧d.hnd v=some news∧vG s.length s2 ls news=true∧nX glob (zl d.pins ls) (mV s2 ls news) d.res=some rs∧finish false false s (mV s2 ls news) (sZ rs)=.ret r s')):=by
 unfold tY at h
 split at h
 case isFalse=>cases h
 case isTrue hlen=>
 refine ⟨hlen, ?_⟩
 split at h
 case h_2=>cases h
 rename_i envm sm hm0;refine ⟨envm,sm,hm0, ?_⟩
 split at h
 ·rename_i env2 s2 h2
  split at h
  ·rename_i rs hrs;exact .inl ⟨env2,s2,rs,h2,hrs,h⟩
  ·cases h
 case h_3=>cases h
 rename_i env0' s0 h0;refine .inr ?_
 split at h
 case h_2=>cases h
 rename_i env1 s1 h1
 split at h
 case h_2=>cases h
 rename_i f caps ls hct hls
 split at h
 case isFalse=>cases h
 rename_i hfc;obtain ⟨rfl,hcaps⟩:=hfc;refine ⟨env0',s0,env1,s1,caps,ls,h0,h1,hct,hls,hcaps, ?_⟩
 split at h
 ·rename_i env2 s2 h2
  split at h
  ·rename_i rs hrs;exact .inl ⟨env2,s2,rs,.inl h2,hrs,h⟩
  ·cases h
 ·rename_i env2 s2 h2
  split at h
  ·rename_i rs hrs;exact .inl ⟨env2,s2,rs,.inr h2,hrs,h⟩
  ·cases h
 ·rename_i v s2 h2
  split at h
  ·rename_i news hn
   split at h
   ·rename_i hfit
    split at h
    ·rename_i rs hrs;exact .inr ⟨v,s2,news,rs,h2,hn,hfit,hrs,h⟩
    ·cases h
   ·cases h
  ·cases h
 ·cases h
theorem Vw {p k:Bool} {s1:St} {r0 r:AV} (h:finish p k s s1 r0=.pan r s'):False:=by
 unfold finish at h;(repeat' split at h)<;>cases h
theorem SS {N:Nat} {d:Gl} {args:List AV} {r:AV} (h:tY glob call N d args s cx=.pan r s'):False:=by
 unfold tY at h
 (repeat' split at h)<;>first | (cases h;done)|exact Vw h
theorem SQ (hqt:qt=False) (hcall:tH qt P glob call) (hext:jh call) (hdraw:Gi qt P glob call) (hM:P.follows .mixedOrders=true) {f:FuncId} {d:Gl} (hd:aat P f d) {N m:Nat} {args:List AV} {r:AV} (hcx:gq cx s)
  (h:tY glob call N d args s cx=.ret r s') (hb:Base P glob g s w) {vs:Array Value} (hv:aW g s.length vs.toList args):CallsIn Fence.wide m P f vs w (Ret qt P glob g s w r s'):=by
 obtain ⟨⟨⟨rfc,hfc,hnc,hbc⟩,hidle,hbusy⟩,rf,i0,ops0,i1,o1,o2,c,cc,cm,hf,hname,hbody,hckm,hck0,hck1,⟨ho2,hdst2,hg2,hcal,hargs⟩,hckc,hnp,hres,hpl⟩:=hd;obtain ⟨hlen,envm,sm,hm0,hcases⟩:=SV h;have hvs:vs.size=d.np:=by have:=hv.1;simp at this;omega
 have hcx':gq ⟨cx.lim,s.length⟩ s:=⟨hcx.lim,Nat.le_refl _⟩
 let a0:Act:={ tmps:=vs++Array.replicate (rf.ntmps - vs.size) undef,defers:=[] }
 have hsz:a0.tmps.size=rf.ntmps:=by simp [a0];omega
 have htm:∀k (hk:k<args.length) (hk':k<vs.size),Act.tm a0 k=vs[k]:=by
  intro k hk hk';simp only [Act.tm,a0,Array.getD_eq_getD_getElem?];rw [Array.getElem?_append_left hk'];simp [hk']
 have hfr:∀b0,Fr P glob g s w.heap.size w a0 (xJ args 0) (.std rf.ntmps) b0 []:=by
  intro b0
  have hown:∀k e,lk (xJ args 0) k=some e→e.owns=false:=by
   intro k e hk;obtain ⟨_,_,rfl⟩:=DV args 0 k hk;rfl
  refine ⟨⟨hb,⟨fun k e hk=>?_,fun k k' e e' hk _ ho=>?_,fun k e hk ho=>?_,fun k e j hk hr=>?_⟩,Nat.le_refl _⟩,hsz,rfl,fun l hl=>by simp at hl,List.nodup_nil,fun l hl=>by simp at hl,fun p hp=>by simp at hp⟩
  ·obtain ⟨h1,_,rfl⟩:=DV args 0 k hk;simp only [Nat.sub_zero] at h1;have hk':k<vs.size:=by omega
   show Rep g s.length (Act.tm a0 k) args[k - 0];rw [htm k h1 hk']
   have:=hv.2 k (by simpa using hk') h1
   rwa [Array.getElem_toList] at this
  ·rw [hown k e hk] at ho;cases ho
  ·rw [hown k e hk] at ho;cases ho
  ·obtain ⟨_,_,rfl⟩:=DV args 0 k hk;simp [EV.refers] at hr
 have hem:Ext ⟨cx.lim,s.length⟩ s sm:=DJ hext d.pre hcx' (by rw [hm0];rfl);have hcxm:gq ⟨cx.lim,s.length⟩ sm:=hcx'.ext hem
 have midE:∀{o:Out} {s1:St},BR glob call ⟨cx.lim,s.length⟩ N d.mid envm sm=o→o.st=some s1→Ext ⟨cx.lim,s.length⟩ s s1:=by
  intro o s1 hm hs;unfold BR at hm
  split at hm
  ·subst hm;cases hs;exact hem
  ·exact hem.trans (dO hext _ hcxm (by rw [hm];exact hs))
 refine callsIn_wide.2 (calls_of_wp_defers hf hbody ((wpIn_wide (n:=m)).1 ?_));refine wpIn_seq (wpIn_region ?_);rw [List.range_eq_range'];rcases hcases with ⟨env2,s2,rs,hmr,hrs,hfin⟩|⟨env0',s0,env1,s1,caps,ls,h0,h1,hct,hls,hcaps,hrest⟩
 ·cases hmid:d.mid with
  | none=>rw [hmid] at hmr;cases hmr
  | some mc=>
   rw [hmid] at hmr
   replace hmr:bF glob call ⟨cx.lim,s.length⟩ true N mc envm sm=.ret env2 s2:=hmr
   have he2:Ext ⟨cx.lim,s.length⟩ s s2:=hem.trans (dO hext mc hcxm (ro:=true) (N:=N) (env:=envm) (s':=s2) (congrArg Out.st hmr));have hops:=CP (F:=Fence.wide) (n:=m) (b0:=s2.length) (ls:=[]) (Q:=Exit.then ((Code.seq cm (.seq (.region i1 #[o1,o2] false) c)).wpIn Fence.wide m P (bodyPostD P rf (Ret qt P glob g s w r s'))) (bodyPostD P rf (Ret qt P glob g s w r s'))) hcall hext (.inl rfl) ops0.toList d.pre 0 (by simp) hck0 hcx' (hfr s2.length) hm0 (fun g0 w0 a0' st0 hf0=>?_)
   ·simpa using hops
   show (Code.seq cm (.seq (.region i1 #[o1,o2] false) c)).wpIn Fence.wide m P _ a0' w0;refine wpIn_seq ?_;refine wpIn_mono (eH (F:=Fence.wide) (n:=m) (b0:=s2.length) hcall hext hdraw (.inl rfl) (fun h=>by cases h) hM mc cm (hckm mc hmid) hcxm (fun h=>by cases h) hf0 hmr rfl) (fun e a2 w2 hq=>?_);obtain ⟨rfl,g2,ls',st2,hf2⟩:=hq
   have hnil:ls'=[]:=by
    cases ls' with
    | nil=>rfl
    | cons l _=>
     have h1:=hf2.lo l (by simp);have h2:=(List.getElem?_eq_some_iff.1 (hf2.df l (by simp))).1;omega
   subst hnil;show Leaves P rf a2.tmps _ a2.defers .returning w2;rw [show a2.defers=[] from hf2.dl];obtain ⟨us,g3,q1,q2,q3,q4⟩:=Gq (a:=a2) hres hf2.sim hrs;refine ⟨TR us,Bh q1, ?_⟩;obtain ⟨g',f1,f2,f3⟩:=xG (fn:=⟨0,[],false,false,.skip⟩) (cx:=cx) (ls:=[]) hb he2 (by simp) (by simp) q3 ((st0.trans st2).trans q2) (DK q4) hfin;exact ⟨_,g',rfl,f1,f2,f3⟩
 have he0:Ext ⟨cx.lim,s.length⟩ s s0:=midE h0 rfl;have hcx0:gq ⟨cx.lim,s.length⟩ s0:=hcx'.ext he0;have he1:Ext ⟨cx.lim,s.length⟩ s0 s1:=qj hext hcx0 (o:=d.mkc) (by rw [h1];rfl);have hcx1:gq ⟨cx.lim,s.length⟩ s1:=hcx0.ext he1;have hpl':∀k∈d.pins,k<d.lo:=by simpa [List.all_eq_true] using hpl
 obtain ⟨hlsl,hlsk⟩:=Qw hls
 -- the rest,once the closure is deferred
 have rest:∀g1 w1 a1,Step qt g s.length w.heap.size w g1 s1.length w1→Fr P glob g1 s1 w.heap.size w1 a1 env1 (.std rf.ntmps) 0 []→∀fv:Array Value,fv.toList=ls.map (fun l=>ptrTo (g1.L l))→
   c.wpIn Fence.wide m P (bodyPostD P rf (Ret qt P glob g s w r s')) { a1 with defers:=[{ target:=.fn (.func d.clo) fv,args:=#[] }] } w1:=by
  intro g1 w1 a1 st1 hf1 fv hfv
  let bs:=ls.map g1.L
  obtain rfl:fv=(bs.map ptrTo).toArray:=by
   apply Array.ext';rw [hfv];simp only [bs,List.map_map];rfl
  let dd:List Deferred:=[{ target:=.fn (.func d.clo) (bs.map ptrTo).toArray,args:=#[] }]
  let N':Wd:=⟨rf.ntmps,d.lo,d.pins.zip ls,dd⟩
  let a1':Act:={ a1 with defers:=dd }
  have hpin:∀p∈d.pins.zip ls,p.1<d.lo∧p.2<s1.length∧Act.tm a1 p.1=.pointer (some ⟨g1.L p.2,0,none⟩):=by
   intro p hp;have hm:p.1∈d.pins:=(List.of_mem_zip hp).1;have hr:Rep g1 s1.length (Act.tm a1 p.1) (.pt p.2 0):=hf1.sim.env.rel p.1 _ (hlsk p hp);generalize Act.tm a1 p.1=x at hr
   cases hr with
   | pt _ _ hlt=>exact ⟨hpl' _ hm,hlt,rfl⟩
  have hf1':∀b0,Fr P glob g1 s1 w.heap.size w1 a1' env1 N' b0 []:=fun b0=>
   ⟨hf1.sim,hf1.sz,rfl,by simp,List.nodup_nil,by simp,hpin⟩
  have hlslt:∀l∈ls,l<s1.length:=by
   intro l hl;obtain ⟨i,hi,rfl⟩:=List.getElem_of_mem hl;have hz:i<(d.pins.zip ls).length:=by simp;omega
   have:=(hpin (d.pins.zip ls)[i] (List.getElem_mem hz)).2.1
   simpa using this
  have hbsl:bs.length=d.pins.length:=by simp [bs,hlsl]
  have hinv:∀w2,(invoke (.fn (.func d.clo) (bs.map ptrTo).toArray) #[]).run P w2=.ok (.enter d.clo (bs.map ptrTo).toArray) w2:=by
   intro w2;unfold invoke;simp only [Array.empty_append];unfold callFunc;have hbc':¬rfc.body=none:=by intro he;rw [he] at hbc;cases hbc
   have hnc':¬rfc.name= "runtime.NumGoroutine":=by intro he;rw [he] at hnc;simp at hnc
   simp [program,Sem.run_bind,Sem.run,hfc,hnc',hbc']
  have acS:=fun {out:Out} {b0:Nat} (hr1:bF glob call ⟨cx.lim,s.length⟩ true N d.code env1 s1=out) (hst:out.st.isSome=true)=>
   eH (F:=Fence.wide) (n:=m) (b0:=b0) hcall hext hdraw (.inl rfl) (fun h=>by cases h) hM d.code c (hckc N'.pn N'.dd) hcx1 (fun h=>by cases h) (hf1' b0) hr1 hst
  have acE:=fun {out:Out} {s2:St} (hr1:bF glob call ⟨cx.lim,s.length⟩ true N d.code env1 s1=out) (hst:out.st=some s2)=>
   (he0.trans he1).trans (dO hext d.code hcx1 (ro:=true) (N:=N) (env:=env1) (s':=s2) ((congrArg Out.st hr1).trans hst))
  have nols:∀{g2:ai} {s2:St} {w2:World} {a2:Act} {env2:Env} {ls':List Nat},Fr P glob g2 s2 w.heap.size w2 a2 env2 N' s2.length ls'→ls'=[]:=by
   intro g2 s2 w2 a2 env2 ls' hf2
   cases ls' with
   | nil=>rfl
   | cons l _=>
    have h1:=hf2.lo l (by simp);have h2:=(List.getElem?_eq_some_iff.1 (hf2.df l (by simp))).1;omega
  rcases hrest with ⟨env2,s2,rs,hac,hrs,hfin⟩|⟨v,s2,news,rs,hac,hn,hfit,hrs,hfin⟩
  ·have key:∀a2 w2 g2 ls',Ext ⟨cx.lim,s.length⟩ s s2→Step qt g1 s1.length w.heap.size w1 g2 s2.length w2→Fr P glob g2 s2 w.heap.size w2 a2 env2 N' s2.length ls'→Leaves P rf a2.tmps (Ret qt P glob g s w r s') a2.defers .returning w2:=by
    intro a2 w2 g2 ls' he2 st2 hf2
    have:=nols hf2;subst this
    rw [show a2.defers=dd from hf2.dl];refine leaves_cons (by simp) (hinv w2) (CallsD.mono (hidle bs w2 hbsl) (fun e u' w' hh=>?_));obtain ⟨rfl,rfl,rfl⟩:=hh;show Leaves P rf a2.tmps _ [] .returning w';obtain ⟨us,g3,q1,q2,q3,q4⟩:=Gq (a:=a2) hres hf2.sim hrs;refine ⟨TR us,Bh q1, ?_⟩;obtain ⟨g',f1,f2,f3⟩:=xG (fn:=⟨0,[],false,false,.skip⟩) (cx:=cx) (ls:=[]) hb he2 (by simp) (by simp) q3 ((st1.trans st2).trans q2) (DK q4) hfin;exact ⟨_,g',rfl,f1,f2,f3⟩
   rcases hac with hac|hac
   ·refine wpIn_mono (acS (b0:=s2.length) hac rfl) (fun e a2 w2 hq=>?_);obtain ⟨rfl,g2,ls',st2,hf2⟩:=hq;exact key a2 w2 g2 ls' (acE hac rfl) st2 hf2
   ·refine wpIn_mono (acS (b0:=s2.length) hac rfl) (fun e a2 w2 hq=>?_);obtain ⟨rfl,g2,ls',st2,hf2⟩:=hq;exact key a2 w2 g2 ls' (acE hac rfl) st2 hf2
  ·refine wpIn_mono (acS (b0:=s2.length) hac rfl) (fun e a2 w2 hq=>?_);obtain ⟨u,rfl,g2,ls',st2,hf2,hrp⟩:=hq
   have:=nols hf2;subst this
   show Leaves P rf a2.tmps _ a2.defers _ w2;rw [show a2.defers=dd from hf2.dl];have he2:Ext ⟨cx.lim,s.length⟩ s (mV s2 ls news):=(acE hac rfl).trans (Iw _ _ hcx.lim (Nat.le_refl _) hfit);obtain ⟨hnl,hnd⟩:=KP hfit;have hget:=KQ hfit;have hL:∀l∈ls,g2.L l=g1.L l:=fun l hl=>st2.le.L l (hlslt l hl);have hbs:bs=ls.map g2.L:=List.map_congr_left fun l hl=>(hL l hl).symm;have hlt2:∀l∈ls,l<s2.length:=fun l hl=>Nat.lt_of_lt_of_le (hlslt l hl) st2.le.n
   have hnodup:bs.Nodup:=by
    rw [hbs];unfold List.Nodup;rw [List.pairwise_map];refine hnd.imp_of_mem (fun {x y} hx hy hne hxy=>hne ?_);exact hf2.sim.base.heap.inj x y (g2.L x) (hlt2 x hx) (hlt2 y hy) (.inl rfl) (.inl hxy.symm)
   have hblk:∀i (h:i<bs.length) (h':i<news.length),∃arr ty,w2.heap[bs[i]]?=some (.cells arr ty (0,0))∧arr.size=news[i].length:=by
    intro i h h';have hi:i<ls.length:=by simpa [bs] using h
    obtain ⟨_,old,ho,hol⟩:=hget i hi h';obtain ⟨_,arr,ty,e1,e2,e3⟩:=hf2.sim.base.heap.obj _ _ ho;refine ⟨arr,ty, ?_, ?_⟩
    ·have:bs[i]=g2.L ls[i]:=by simp [bs,hL _ (List.getElem_mem hi)]
     rw [this];exact e1
    ·have:=e2.1;simp at this;omega
   refine leaves_cons (by simp) (hinv w2) (CallsD.mono (hbusy bs w2 v u g2 s2.length news hn hrp hbsl hnodup (by omega) hblk) (fun e u' w' hh=>?_));obtain ⟨rfl,rfl,hsize,hos,hout,hother,hnew⟩:=hh;show Leaves P rf a2.tmps _ [] .returning w';rw [hbs] at hother
   have hnew':∀i (h:i<ls.length) (h':i<news.length),∃arr ty,w'.heap[g2.L ls[i]]?=some (.cells arr ty (0,0))∧aW g2 s2.length arr.toList news[i]∧fD arr.toList:=by
    intro i hi h';obtain ⟨arr,ty,e1,e2,e3⟩:=hnew i (by simpa [bs] using hi) h'
    have:bs[i]'(by simpa [bs] using hi)=g2.L ls[i]:=by simp [bs,hL _ (List.getElem_mem hi)]
    rw [this] at e1;exact ⟨arr,ty,e1,e2,e3⟩
   have hb3:=X6 hf2.sim.base hfit hsize hother hnew'
   have hs3:Sim P glob g2 (mV s2 ls news) w.heap.size w' (Act.tm a2) (zl d.pins ls):=by
    refine ⟨hb3,⟨fun k e hk=>?_,fun k k' e e' hk _ ho=>?_,fun k e hk ho=>?_,fun k e j hk hr=>?_⟩,Nat.le_trans hf2.sim.B hsize⟩
    ·obtain ⟨l,hl,rfl⟩:=CX hk;obtain ⟨q1,q2,q3⟩:=hf2.pin (k,l) hl;show Rep g2 _ (Act.tm a2 k) (.pt l 0);rw [q3,sS];exact .pt l 0 q2
    ·obtain ⟨l,hl,rfl⟩:=CX hk;simp [EV.owns] at ho
    ·obtain ⟨l,hl,rfl⟩:=CX hk;simp [EV.owns] at ho
    ·obtain ⟨l,hl,rfl⟩:=CX hk;simp [EV.refers] at hr
   have st3:Step qt g2 s2.length w.heap.size w2 g2 (mV s2 ls news).length w':=by
    rw [sS];refine ⟨.refl _ _,hsize,fun b hb' hnt=>hother b (Nat.lt_of_lt_of_le hb' hf2.sim.B) (fun hm=>?_),fun _ _ _=>rfl,fun _ _=>rfl,fun b hb'=>.inl hb',hos,hout,fun hq=>by rw [hqt] at hq;exact hq.elim⟩;obtain ⟨l,hl,rfl⟩:=List.mem_map.1 hm;exact hnt (.L (hlt2 l hl))
   obtain ⟨us,g3,q1,q2,q3,q4⟩:=Gq (a:=a2) hres hs3 hrs;refine ⟨TR us,Bh q1, ?_⟩;obtain ⟨g',f1,f2,f3⟩:=xG (fn:=⟨0,[],false,false,.skip⟩) (cx:=cx) (ls:=[]) hb he2 (by simp) (by simp) q3 (((st1.trans st2).trans st3).trans q2) (DK q4) hfin;exact ⟨_,g',rfl,f1,f2,f3⟩
 have tailD:∀(b0:Nat) (g0:ai) (w0:World) (a0':Act),Step qt g s.length w.heap.size w g0 s0.length w0→Fr P glob g0 s0 w.heap.size w0 a0' env0' (.std rf.ntmps) b0 []→
   (Code.seq (.region i1 #[o1,o2] false) c).wpIn Fence.wide m P (bodyPostD P rf (Ret qt P glob g s w r s')) a0' w0:=by
  intro b0 g0 w0 a0' st0 hf0x;have hf0:Fr P glob g0 s0 w.heap.size w0 a0' env0' (.std rf.ntmps) 0 []:=⟨hf0x.sim,hf0x.sz,hf0x.dl,by simp,List.nodup_nil,by simp,hf0x.pin⟩;refine wpIn_seq (wpIn_region ?_);rw [show List.range (#[o1,o2]:Array Oper).size=[0,1] from rfl,wpOpsIn_cons];refine EZ hcall hext (.inl rfl) hcx0 hf0 (by rfl) hck1 h1 (fun g1 w1 a1 st1 hf1=>?_);rw [wpOpsIn_cons];have hcv:Rep g1 s1.length (Act.tm a1 d.ct) (.fn (.func d.clo) [] caps):=hf1.sim.env.rel d.ct _ hct;generalize hcvv:Act.tm a1 d.ct=cv at hcv
  cases hcv with
  | fn _ vs0 ws _ _ hl hl' hr hr'=>
  have hvs0:vs0=#[]:=Array.eq_empty_of_size_eq_zero (by simpa using hl);subst hvs0;have hws:ws.toList=ls.map fun l=>ptrTo (g1.L l):=Uz hcaps ⟨by simpa using hl',fun i h h'=>by simpa using hr' i (by simpa using h) h'⟩
  have hexec:(execOp a1.eval o2).run P w1=.ok (.defer { target:=.fn (.func d.clo) ws,args:=#[] }) w1:=by
   have hcv':a1.eval (.tmp d.ct)=.func (.func d.clo) #[] ws:=hcvv;simp [execOp,ho2,resolve,hcal,hargs,hcv',Deferred.ofValue,Sem.run_bind,Sem.run]
  unfold wpOpIn;rw [show (#[o1,o2]:Array Oper)[1]?=some o2 from rfl];have hw:Region.wanted o2 (yielded #[o1,o2] a1.tmps)=true:=by simp [Region.wanted,hg2]
  simp only [hw,if_true,Oper.wpIn];refine ⟨fun f _=>isF.fn (.inl rfl) f, ?_⟩;rw [show (Fence.wide.round)=none from rfl,Oper.semAt_none,hexec,Oper.uponIn_defer,hdst2];show c.wpIn Fence.wide m P _ _ w1;have hdl:a1.defers=[]:=by have:=hf1.dl;simpa using this
  rw [hdl];exact rest g1 w1 a1 (st0.trans st1) hf1 ws hws
 cases hmid:d.mid with
 | none=>
  rw [hmid] at h0;cases h0;have hops:=CP (F:=Fence.wide) (n:=m) (b0:=0) (ls:=[]) (Q:=Exit.then ((Code.seq (.region i1 #[o1,o2] false) c).wpIn Fence.wide m P (bodyPostD P rf (Ret qt P glob g s w r s'))) (bodyPostD P rf (Ret qt P glob g s w r s'))) hcall hext (.inl rfl) ops0.toList d.pre 0 (by simp) hck0 hcx' (hfr 0) hm0 (fun g0 w0 a0' st0 hf0=>?_)
  ·simpa using hops
  exact tailD 0 g0 w0 a0' st0 hf0
 | some mc=>
  rw [hmid] at h0
  replace h0:bF glob call ⟨cx.lim,s.length⟩ true N mc envm sm=.norm env0' s0:=h0
  have hops:=CP (F:=Fence.wide) (n:=m) (b0:=s0.length) (ls:=[]) (Q:=Exit.then ((Code.seq cm (.seq (.region i1 #[o1,o2] false) c)).wpIn Fence.wide m P (bodyPostD P rf (Ret qt P glob g s w r s'))) (bodyPostD P rf (Ret qt P glob g s w r s'))) hcall hext (.inl rfl) ops0.toList d.pre 0 (by simp) hck0 hcx' (hfr s0.length) hm0 (fun g0 w0 a0' st0 hf0=>?_)
  ·simpa using hops
  show (Code.seq cm (.seq (.region i1 #[o1,o2] false) c)).wpIn Fence.wide m P _ a0' w0;refine wpIn_seq ?_;refine wpIn_mono (eH (F:=Fence.wide) (n:=m) (b0:=s0.length) hcall hext hdraw (.inl rfl) (fun h=>by cases h) hM mc cm (hckm mc hmid) hcxm (fun h=>by cases h) hf0 h0 rfl) (fun e a2 w2 hq=>?_);obtain ⟨rfl,g2,ls',st2,hf2⟩:=hq
  have hnil:ls'=[]:=by
   cases ls' with
   | nil=>rfl
   | cons l _=>
    have h1:=hf2.lo l (by simp);have h2:=(List.getElem?_eq_some_iff.1 (hf2.df l (by simp))).1;omega
  subst hnil;exact tailD s0.length g2 w2 a2 (st0.trans st2) hf2
end Go.Ai
namespace Go.Ai
variable {qt:Prop} {P:Program} {glob:Nat→Option (List AV)} {g:ai} {s:St} {B:Nat} {w:World} {env:Env} {a:Act} {call:AV→List AV→St→Ctx→CO} {cx:Ctx} {env':Env} {s':St}
theorem Base.setLoop (h:Base P glob g s w) {l:Nat} {e0:Env} {p0:List Nat} {a0 b0:bH} {q q':Nc} (hl:s[l]?=some (.loop e0 p0 a0 b0 q)) {r':Loop} (hr:Eh P g s.length r' e0 p0 a0 b0 q'):
  Base P glob g (s.set l (.loop e0 p0 a0 b0 q')) { w with heap:=w.heap.setIfInBounds (g.L l) (.loop r') }:=by
 have hlt:l<s.length:=(List.getElem?_eq_some_iff.1 hl).1;have hblt:=h.heap.lt l _ hlt (.inl rfl);have hfree:nM g (g.L l):=(h.heap.obj l _ hl).1;refine ⟨⟨fun c o' v hv=>?_,fun c es hc=>?_⟩,h.heap.setAt hlt (.refl _ _) (fun _ _ _=>rfl) (fun b hb=>.inl hb) (fun b hb=>by simpa using h.heap.lt l b hlt hb) (by simp) (fun b _ hb=>⟨dM (fun hbe=>hb (.inl hbe.symm)),rfl,rfl⟩) ⟨hfree,r',yE hblt,hr⟩,h.glob⟩
 ·have hcb:c≠g.L l:=fun hcb=>by subst hcb;rw [hfree.m o'] at hv;cases hv
  rw [World.cell?_of_block (dM hcb)];exact h.imm.m c o' v hv
 ·have hcb:c≠g.L l:=fun hcb=>by subst hcb;rw [hfree.mm] at hc;cases hc
  exact (h.imm.mm c es hc).keep (dM hcb)
theorem TJ {n:Nat}:∀(ps:List Nat) (args:List AV) (vs:List Value) {tmps:Array Value} {env:Env},iU g n B w (fun k=>tmps.getD k undef) env→aW g n vs args→(∀p∈ps,p<tmps.size)→ps.length=args.length→
  iU g n B w (fun k=>((ps.zip vs).foldl (fun t p=>t.setIfInBounds p.1 p.2) tmps).getD k undef) (Cj env ps args)
 | [],args,vs,tmps,env,h,_,_,_=>by simpa [Cj] using h
 | p::ps,args,vs,tmps,env,h,hr,hp,hl=>by
  match args,vs with
  | [],_=>simp at hl
  | _::_,[]=>exact absurd hr.1 (by simp)
  | x::args,v::vs=>
   simp only [List.zip_cons_cons,List.foldl_cons,Cj];have h1:=h.acP p v x hr.head
   have he:upd (fun k=>tmps.getD k undef) p v=fun k=>(tmps.setIfInBounds p v).getD k undef:=by
    have:=Yj (a:={ tmps:=tmps,defers:=[] }) (d:=p) (v:=v) (hp p (by simp))
    exact this.symm
   rw [he] at h1;exact TJ ps args vs h1 hr.tail (fun q hq=>by simpa using hp q (by simp [hq])) (by simpa using hl)
theorem QT:∀(l:List (Nat×Value)) (tmps:Array Value),(l.foldl (fun t p=>t.setIfInBounds p.1 p.2) tmps).size=tmps.size
 | [],_=>rfl
 | p::l,tmps=>by simp [QT l]
theorem aaQ {l:Nat} (hs:Sim P glob g s B w (Act.tm a) env) {p:Nc} {jump:Option Code} {q:Bool} {r:AV} (hj:(match p with | .ready=>jump=none | .ret=>jump=some .ret | .exit id=>jump=some (.exit id) | .busy=>False)) (hq:q=jump.isNone)
  (h:rV s l p q=.ret r s'):∃v w',(Instr.endRound (g.L l) jump).run P w=.ok v w'∧Base P glob g s' w'∧Step qt g s.length B w g s'.length w'∧Rep g s'.length v r:=by
 unfold rV at h
 split at h
 ·rename_i e0 p0 a0 b0 hl;cases h;have hlt:l<s.length:=(List.getElem?_eq_some_iff.1 hl).1;obtain ⟨rl,hrl,q1,q2,q3,q4,q5,q6⟩:=hs.base.heap.loop l _ _ _ _ _ hl
  have hok:Eh P g s.length { rl with state:=if jump.isNone then .ready else .done,pending:=jump } e0 p0 a0 b0 p:=by
   refine ⟨q1,q2,q3,q4,q5, ?_⟩
   cases p with
   | ready=>simp only [] at hj;subst hj;exact ⟨rfl,rfl⟩
   | busy=>exact hj.elim
   | ret=>simp only [] at hj;subst hj;exact ⟨rfl,rfl⟩
   | exit id=>simp only [] at hj;subst hj;exact ⟨rfl,rfl⟩
  refine ⟨.bool jump.isNone,{ w with heap:=w.heap.setIfInBounds (g.L l) (.loop { rl with state:=if jump.isNone then .ready else .done,pending:=jump }) }, ?_,hs.base.setLoop hl hok, ?_,by rw [hq];exact .b _⟩
  ·simp [Instr.endRound,Instr.getLoop,Sem.run_bind,getObj,setObj,Sem.run,hrl]
  ·simp only [List.length_set];exact ⟨.refl _ _,by simp,fun b hb hbl=>dM (fun hbe=>hbl (by rw [hbe];exact .L hlt)),fun _ _ _=>rfl,fun _ _=>rfl,fun b hb=>.inl hb,rfl,rfl,fun _=>⟨rfl,Nat.le_refl _⟩⟩
 ·cases h
theorem VT (hcall:tH qt P glob call) (hext:jh call) (hdraw:Gi qt P glob call) (hM:P.follows .mixedOrders=true) {N l:Nat} {args:List AV} {r:AV} (hcx:gq cx s) (h:Aj glob call N l args s cx=.ret r s')
  (hb:Base P glob g s w) {f:Value} (hf:Rep g s.length f (.yl l)) {vs:Array Value} (hv:aW g s.length vs.toList args):
  ∃l' fid tmps asg body,(callOf f vs).run P w=.ok (.round l' fid tmps asg body) w∧∀m,RoundIn Fence.wide m P l' fid tmps asg body w (Ret qt P glob g s w r s'):=by
 unfold Aj at h
 split at h
 ·rename_i env ps asg body hl
  split at h
  ·rename_i hcond;have hlt:l<s.length:=(List.getElem?_eq_some_iff.1 hl).1;obtain ⟨rl,hrl,q1,q2,q3,q4,q5,q6⟩:=hb.heap.loop l _ _ _ _ _ hl
   cases hf with
   | yl _ _=>
    have hps:rl.params.size=vs.size:=by
     have h1:=hv.1;have h2:=congrArg List.length q1;simp at h1 h2;omega
    let tmps':Array Value:=(ps.zip vs.toList).foldl (fun t p=>t.setIfInBounds p.1 p.2) rl.tmps
    have htm:Array.foldl (fun (tmps:Array Value) (x:Nat×Value)=>tmps.setIfInBounds x.1 x.2) rl.tmps (rl.params.zip vs) 0 (rl.params.zip vs).size=tmps':=by
     rw [←Array.foldl_toList,Array.toList_zip,q1]
    refine ⟨g.L l,rl.fn,tmps',rl.assign,rl.body, ?_,fun m=>?_⟩
    ·simp [callOf,Deferred.ofValue,invoke,Instr.yield,Instr.getLoop,Sem.run_bind,getObj,Sem.run,hrl,hps];have hz:(rl.params.zip vs).size=vs.size:=by simp [hps]
     rw [hz] at htm;exact htm
    ·refine roundIn_of_wpIn trivial ?_;have hszt:tmps'.size=rl.tmps.size:=QT _ _
     let a0:Act:={ tmps:=tmps',defers:=[] }
     have hplain:iU g s.length w.heap.size w (fun k=>rl.tmps.getD k undef) env:=by
      have hown:∀k e,lk env k=some e→e.owns=false∧∀j,e.refers j=false:=by
       intro k e hk;obtain ⟨v,rfl,_⟩:=q4 k e hk;exact ⟨rfl,fun j=>rfl⟩
      refine ⟨fun k e hk=>?_,fun k k' e e' hk _ ho=>?_,fun k e hk ho=>?_,fun k e j hk hr=>?_⟩
      ·obtain ⟨v,rfl,hr⟩:=q4 k e hk;exact hr
      ·rw [(hown k e hk).1] at ho;cases ho
      ·rw [(hown k e hk).1] at ho;cases ho
      ·rw [(hown k e hk).2 j] at hr;cases hr
     have hfr:Fr P glob g s w.heap.size w a0 (Cj env ps args) (.std rl.tmps.size) cx.base []:=
      ⟨⟨hb,TJ ps args vs.toList hplain hv q5 hcond.1,Nat.le_refl _⟩,hszt,rfl,fun l hl=>by simp at hl,List.nodup_nil,fun l hl=>by simp at hl,fun p hp=>by simp at hp⟩
     split at h
     ·rename_i env1 s1 hr1;have hF:isF (Fence.wide.inRound (g.L l)):=.inr ⟨_,rfl⟩;refine wpIn_mono (eH (ro:=true) hcall hext hdraw hF (fun hh=>by cases hh) hM asg rl.assign q2 hcx (fun hh=>by cases hh) hfr hr1 rfl) (fun e a1 w1 hq=>?_);obtain ⟨rfl,g1,ls1,hst1,hf1⟩:=hq;have he1:Ext cx s s1:=dO hext asg hcx (env:=Cj env ps args) (by rw [hr1];rfl)
      split at h
      ·rename_i e1 p1 a1' b1 hl1;have hL1:g1.L l=g.L l:=hst1.le.L l hlt;have hlt1:l<s1.length:=(List.getElem?_eq_some_iff.1 hl1).1;obtain ⟨r1,hr1l,t1,t2,t3,t4,t5,t6⟩:=hf1.sim.base.heap.loop l _ _ _ _ _ hl1
       let w2:World:={ w1 with heap:=w1.heap.setIfInBounds (g.L l) (.loop { r1 with state:=.busy }) }
       have hb2:Base P glob g1 (s1.set l (.loop e1 p1 a1' b1 .busy)) w2:=by
        have:=hf1.sim.base.setLoop hl1 (r':={ r1 with state:=.busy }) (q':=.busy) ⟨t1,t2,t3,t4,t5,rfl⟩
        rwa [hL1] at this
       have hoff:∀k e,lk env1 k=some e→e.owns=true→∀b,dw (Act.tm a1 k)=some b→b≠g.L l:=fun k e hk ho b hbk hbe=>hf1.sim.env.off k e hk ho b hbk (by rw [hbe,←hL1];exact .L hlt1)
       have hsim2:Sim P glob g1 (s1.set l (.loop e1 p1 a1' b1 .busy)) w.heap.size w2 (Act.tm a1) env1:=by
        refine ⟨hb2, ?_,by simpa [w2] using hf1.sim.B⟩;simp only [List.length_set];exact hf1.sim.env.next (.refl _ _) (fun k e hk ho b hbk=>⟨dM (hoff k e hk ho b hbk),rfl,rfl,fun ht=>ht⟩)
       have he2:Ext cx s1 (s1.set l (.loop e1 p1 a1' b1 .busy)):=.loop hl1 hcond.2;have hcx2:=(hcx.ext he1).ext he2
       have hst2:Step qt g1 s1.length w.heap.size w1 g1 (s1.set l (.loop e1 p1 a1' b1 .busy)).length w2:=by
        simp only [List.length_set];exact ⟨.refl _ _,by simp [w2],fun b hb hbl=>dM (fun hbe=>hbl (by rw [hbe,←hL1];exact .L hlt1)),fun _ _ _=>rfl,fun _ _=>rfl,fun b hb=>.inl hb,rfl,rfl,fun _=>⟨rfl,Nat.le_refl _⟩⟩
       have hfr2:Fr P glob g1 (s1.set l (.loop e1 p1 a1' b1 .busy)) w.heap.size w2 a1 env1 (.std rl.tmps.size) cx.base ls1:=
        hf1.next hsim2 rfl rfl (by simp only [List.length_set];exact .refl _ _) he2.dfr (fun _ _=>rfl)
       refine ⟨w2, ?_, ?_⟩
       ·rw [hL1] at hr1l;simp [Instr.beginRound,Instr.getLoop,Sem.run_bind,getObj,setObj,Sem.run,hr1l,t6.1,w2]
       ·have fin:∀env3 s3 g3 ls3 w3 a3,Step qt g1 (s1.set l (.loop e1 p1 a1' b1 .busy)).length w.heap.size w2 g3 s3.length w3→Fr P glob g3 s3 w.heap.size w3 a3 env3 (.std rl.tmps.size) cx.base ls3→∀(p:Nc) (jump:Option Code) (q:Bool),
          (match p with | .ready=>jump=none | .ret=>jump=some .ret | .exit id=>jump=some (.exit id) | .busy=>False)→q=jump.isNone→rV s3 l p q=.ret r s'→
          ∃v w',(Instr.endRound (g.L l) jump).run P w3=.ok v w'∧Ret qt P glob g s w r s' (.returned v) w':=by
         intro env3 s3 g3 ls3 w3 a3 hst3 hf3 p jump q hj hq he;obtain ⟨v,w',u1,u2,u3,u4⟩:=aaQ hf3.sim hj hq he;have hL3:g3.L l=g.L l:=by rw [hst3.le.L l (by simpa using hlt1),hL1]
         rw [hL3] at u1;exact ⟨v,w',u1,v,g3,rfl,((hst1.trans hst2).trans hst3).trans u3,u2,u4⟩
        split at h
        ·rename_i env3 s3 hr3;refine wpIn_mono (eH (ro:=true) hcall hext hdraw hF (fun hh=>by cases hh) hM body rl.body q3 hcx2 (fun hh=>by cases hh) hfr2 hr3 rfl) (fun e a3 w3 hq=>?_);obtain ⟨rfl,g3,ls3,hst3,hf3⟩:=hq;exact fin env3 s3 g3 ls3 w3 a3 hst3 hf3 .ready none true rfl rfl h
        ·rename_i env3 s3 hr3;refine wpIn_mono (eH (ro:=true) hcall hext hdraw hF (fun hh=>by cases hh) hM body rl.body q3 hcx2 (fun hh=>by cases hh) hfr2 hr3 rfl) (fun e a3 w3 hq=>?_);obtain ⟨rfl,g3,ls3,hst3,hf3⟩:=hq;exact fin env3 s3 g3 ls3 w3 a3 hst3 hf3 .ret (some .ret) false rfl rfl h
        ·rename_i id env3 s3 hr3;refine wpIn_mono (eH (ro:=true) hcall hext hdraw hF (fun hh=>by cases hh) hM body rl.body q3 hcx2 (fun hh=>by cases hh) hfr2 hr3 rfl) (fun e a3 w3 hq=>?_);obtain ⟨rfl,g3,ls3,hst3,hf3⟩:=hq;exact fin env3 s3 g3 ls3 w3 a3 hst3 hf3 (.exit id) (some (.exit id)) false rfl rfl h
        ·cases h
      ·cases h
     ·cases h
  ·cases h
 ·cases h
def JA (qt:Prop) (P:Program) (glob:Nat→Option (List AV)) (f:FuncId) (h:List AV→St→Option AV):Prop:=
 (∃rf,P.funcs[f]?=some rf∧(rf.name == "runtime.NumGoroutine")=false∧rf.body.isNone=false)∧
 ∀args s r,h args s=some r→∀g w vs,Base P glob g s w→aW g s.length vs.toList args→∀m,CallsIn Fence.wide m P f vs w fun e w'=>∃v g',e=.returned v∧Grew qt w w'∧g.le s.length g' s.length∧g'.L=g.L∧g'.hist=g.hist∧
  (∀b,b<w.heap.size→g'.m b=g.m b∧g'.mm b=g.mm b)∧Imm g' w'∧Rep g' s.length v r
def Ei (qt:Prop) (P:Program) (glob:Nat→Option (List AV)) (f:FuncId) (h:List AV→Option AV):Prop:=
 (∃rf,P.funcs[f]?=some rf∧(rf.name == "runtime.NumGoroutine")=false∧rf.body.isNone=false)∧
 ∀args r,h args=some r→∀g n w vs,Imm g w→tZ glob g→aW g n vs.toList args→∀m,CallsIn Fence.wide m P f vs w fun e w'=>∃v g',e=.returned v∧Grew qt w w'∧g.le n g' n∧g'.L=g.L∧g'.hist=g.hist∧
  (∀b,b<w.heap.size→g'.m b=g.m b∧g'.mm b=g.mm b)∧Imm g' w'∧Rep g' n v r
theorem Ei.lift {P:Program} {glob:Nat→Option (List AV)} {f:FuncId} {h:List AV→Option AV} (hi:Ei qt P glob f h):JA qt P glob f (H6 h):=
 ⟨hi.1,fun args s r hr g w vs hb hv m=>hi.2 args r hr g s.length w vs hb.imm hb.glob hv m⟩
def ah5 (P:Program) (glob:Nat→Option (List AV)) (f:FuncId) (k:HiK):Prop:=
 (∃rf,P.funcs[f]?=some rf∧(rf.name == "runtime.NumGoroutine")=false∧rf.body.isNone=false)∧
 ∀(call qcall:AV→List AV→St→Ctx→CO),tH False P glob call→jh call→tH True P glob qcall→
   (∀g as cs args s cx r s',(call (.fn (.func g) as cs) args s cx=.ret r s'∨call (.fn (.func g) as cs) args s cx=.pan r s')→∃rf,P.funcs[g]?=some rf∧(rf.name == "runtime.NumGoroutine")=false∧rf.body.isNone=false)→
   (∀g as cs args s cx r s',(qcall (.fn (.func g) as cs) args s cx=.ret r s'∨qcall (.fn (.func g) as cs) args s cx=.pan r s')→∃rf,P.funcs[g]?=some rf∧(rf.name == "runtime.NumGoroutine")=false∧rf.body.isNone=false)→
   ∀args s cx r s',gq cx s→lT call qcall k args s cx=.ret r s'→∀g w vs,Base P glob g s w→aW g s.length vs.toList args→∀m,CallsIn Fence.wide m P f vs w (Ret False P glob g s w r s')
structure Gh (qt:Prop) (P:Program) (A:uJ):Prop where
 mixed:P.follows .mixedOrders=true
 fns:∀f fn,A.fns f=some fn→bf P f fn
 intr:∀f h,A.intr f=some h→JA qt P A.glob f h
 hi:∀f k,A.hi f=some k→qt=False∧ah5 P A.glob f k
 intrQ:∀f h,A.intrQ f=some h→JA True P A.glob f h
 dfr:∀f d,A.dfr f=some d→qt=False∧aat P f d
theorem Gh.quiet {qt:Prop} {P:Program} {A:uJ} (h:Gh qt P A):Gh True P A.quiet:=
 ⟨h.mixed,h.fns,h.intrQ,fun _ _ hk=>(by cases hk),h.intrQ,fun _ _ hk=>(by cases hk)⟩
theorem yt {f:FuncId} {rf:Func} (hf:P.funcs[f]?=some rf) (hname:(rf.name == "runtime.NumGoroutine")=false) (hbody:rf.body.isNone=false) (fs cs vs:Array Value):
  (callOf (.func (.func f) fs cs) vs).run P w=.ok (.enter f (fs++vs++cs)) w:=by
 simp [callOf,Deferred.ofValue,invoke,callFunc,program,Sem.run_bind,Sem.run,hf]
 rw [if_neg (by simpa using hname),if_neg (by cases hb:rf.body<;>simp_all)]
theorem UD {qt:Prop} {A:uJ} (hA:Gh qt P A) {n:Nat} {g:Nat} {as cs args:List AV} {s:St} {cx:Ctx} {r:AV} {s':St} (h:jv A n (.fn (.func g) as cs) args s cx=.ret r s'∨jv A n (.fn (.func g) as cs) args s cx=.pan r s'):
  ∃rf,P.funcs[g]?=some rf∧(rf.name == "runtime.NumGoroutine")=false∧rf.body.isNone=false:=by
 cases n with
 | zero=>rcases h with h|h<;>simp [jv] at h
 | succ n=>
  simp only [jv] at h
  split at h
  ·rename_i hh hin;exact (hA.intr g hh hin).1
  ·split at h
   ·rename_i k hk;exact (hA.hi g k hk).2.1
   ·split at h
    ·rename_i d hd;obtain ⟨_,_,rf,_,_,_,_,_,_,_,_,hfun,hname,hbody,_⟩:=hA.dfr g d hd;exact ⟨rf,hfun,hname,by rw [hbody];rfl⟩
    ·split at h
     ·rename_i fn hfn;obtain ⟨rf,c,hfun,hname,hbody,_⟩:=hA.fns g fn hfn;exact ⟨rf,hfun,hname,by rw [hbody];rfl⟩
     ·rcases h with h|h<;>cases h
theorem MX:∀(n:Nat) (qt:Prop) (A:uJ),Gh qt P A→tH qt P A.glob (jv A n)
 | 0,qt,A,hA=>⟨fun fv args s cx r s' _ _ h=>by simp [jv] at h,fun l args s cx r s' _ h=>by simp [jv] at h,fun fv args s cx r s' _ h=>by simp [jv] at h⟩
 | n+1,qt,A,hA=>by
  have ih:=MX n qt A hA;have hdraw:Gi qt P A.glob (jv A n):=@afU qt P A.glob (jv A n) hA.mixed ih (yN A n);refine ⟨fun fv args s cx r s' hcx hny h g w f vs hb hf hv=>?_,fun l args s cx r s' hcx h g w f vs hb hf hv=>?_,fun fv args s cx r s' hcx h g w f vs hb hf hv=>?_⟩
  ·cases fv with
   | fn ff as cs=>
    cases ff with
    | func fid=>
     cases hf with
     | fn _ us ws _ _ hl hl' hr1 hr2=>
      have hall:aW g s.length (us++vs++ws).toList (as++args++cs):=by
       simp only [Array.toList_append];refine (aW.append ⟨by simpa using hl,fun i hi hi'=>?_⟩ hv).append ⟨by simpa using hl',fun i hi hi'=>?_⟩
       ·rw [Array.getElem_toList];exact hr1 i (by simpa using hi) hi'
       ·rw [Array.getElem_toList];exact hr2 i (by simpa using hi) hi'
      simp only [jv] at h
      split at h
      ·rename_i hh hin
       split at h
       ·rename_i r' hres;cases h;obtain ⟨⟨rf,hfun,hname,hbody⟩,hi⟩:=hA.intr fid hh hin;refine ⟨fid,us++vs++ws,yt hfun hname hbody us ws vs,fun m=>(hi _ _ _ hres g w _ hb hall m).mono fun e w' he=>?_⟩;obtain ⟨v,g',rfl,q1,q2,q3,qh,q4,q5,q6⟩:=he;refine ⟨v,g',rfl,⟨q2,q1.size,fun b hb' _=>q1.old b hb',fun b hb' _=>(q4 b hb').1,fun b hb'=>(q4 b hb').2,fun b hb'=>.inl ?_,q1.io⟩,(hb.grew q1).fix q2 q5 qh (fun b hb'=>q4 b (hb.heap.taken_lt hb')),q6⟩
        simpa only [ai.taken,ai.bl,q3,qh] using hb'
       ·cases h
      ·split at h
       ·rename_i k hk;obtain ⟨rfl,⟨rf,hfun,hname,hbody⟩,hi⟩:=hA.hi fid k hk;exact ⟨fid,us++vs++ws,yt hfun hname hbody us ws vs,fun m=>hi _ _ ih (yN A n) (MX n True A.quiet hA.quiet) (fun _ _ _ _ _ _ _ _ hq=>UD hA hq) (fun _ _ _ _ _ _ _ _ hq=>UD hA.quiet hq) _ _ _ _ _ hcx h g w _ hb hall m⟩
       ·split at h
        ·rename_i d hd;obtain ⟨hqt,hdok⟩:=hA.dfr fid d hd;obtain ⟨_,rf,_,_,_,_,_,_,_,_,hfun,hname,hbody,_⟩:=id hdok;refine ⟨fid,us++vs++ws,yt hfun hname (by rw [hbody];rfl) us ws vs,fun m=>?_⟩;exact SQ hqt ih (yN A n) @hdraw hA.mixed hdok hcx h hb hall
        ·split at h
         ·rename_i fn hfn;obtain ⟨rf,c,hfun,hname,hbody,_⟩:=hA.fns fid fn hfn;refine ⟨fid,us++vs++ws,yt hfun hname (by rw [hbody];rfl) us ws vs,fun m=>?_⟩;exact VE ih (yN A n) @hdraw hA.mixed (hA.fns fid fn hfn) hcx h hb hall
         ·cases h
    | _=>simp [jv] at h
   | yl l=>exact absurd rfl (hny l)
   | _=>simp [jv] at h
  ·simp only [jv] at h;exact VT ih (yN A n) @hdraw hA.mixed hcx h hb hf hv
  ·cases fv with
   | fn ff as cs=>
    cases ff with
    | func fid=>
     cases hf with
     | fn _ us ws _ _ hl hl' hr1 hr2=>
      have hall:aW g s.length (us++vs++ws).toList (as++args++cs):=by
       simp only [Array.toList_append];refine (aW.append ⟨by simpa using hl,fun i hi hi'=>?_⟩ hv).append ⟨by simpa using hl',fun i hi hi'=>?_⟩
       ·rw [Array.getElem_toList];exact hr1 i (by simpa using hi) hi'
       ·rw [Array.getElem_toList];exact hr2 i (by simpa using hi) hi'
      simp only [jv] at h
      split at h
      ·split at h<;>cases h
      ·split at h
       ·exact (Rt h).elim
       ·split at h
        ·exact (SS h).elim
        ·split at h
         ·rename_i fn hfn;obtain ⟨rf,c,hfun,hname,hbody,_⟩:=hA.fns fid fn hfn;refine ⟨fid,us++vs++ws,yt hfun hname (by rw [hbody];rfl) us ws vs,fun m=>?_⟩;exact Zc ih (yN A n) @hdraw hA.mixed (hA.fns fid fn hfn) hcx h hb hall
         ·cases h
    | _=>simp [jv] at h
   | yl l=>simp only [jv] at h;exact (Pm h).elim
   | _=>simp [jv] at h
theorem aeN {qt:Prop} (A:uJ) (hA:Gh qt P A) (n:Nat):tH qt P A.glob (jv A n):=MX n qt A hA
end Go.Ai
namespace Go.Ai
noncomputable def OE {α:Type} (d:α) (h:Nat→α):α:=
 open Classical in if H:∃c,c≠d∧∃n,∀m,n≤m→h m=c then H.choose else d
theorem yR {α:Type} {d:α} {h:Nat→α} {c:α} {n:Nat} (hc:∀m,n≤m→h m=c):OE d h=c:=by
 unfold OE;split
 ·rename_i H;obtain ⟨_,n',hn'⟩:=H.choose_spec;rw [←hn' (max n n') (Nat.le_max_right _ _),hc _ (Nat.le_max_left _ _)]
 ·rename_i H;by_cases hd:c=d
  ·exact hd.symm
  ·exact absurd ⟨c,hd,n,hc⟩ H
theorem Gu {α:Type} {d:α} {h:Nat→α} {c:α} (hl:OE d h=c) (hd:c≠d):∃n,∀m,n≤m→h m=c:=by
 unfold OE at hl
 split at hl
 ·rename_i H;obtain ⟨_,n',hn'⟩:=H.choose_spec;exact ⟨n',fun m hm=>(hn' m hm).trans hl⟩
 ·exact absurd hl.symm hd
theorem QC {α:Type} {d:α} {h g:Nat→α} (hs:∀n,h (n+1)=g n):OE d h=OE d g:=by
 by_cases hg:OE d g=d
 ·rw [hg];by_cases hh:OE d h=d
  ·exact hh
  ·obtain ⟨n,hn⟩:=Gu rfl hh
   have:=yR (d:=d) (h:=g) (c:=OE d h) (n:=n) (fun m hm=>by rw [←hs];exact hn _ (by omega))
   rw [←this,hg]
 ·obtain ⟨n,hn⟩:=Gu rfl hg;exact yR (n:=n+1) (fun m hm=>by obtain ⟨k,rfl⟩:∃k,m=k+1:=⟨m - 1,by omega⟩;rw [hs];exact hn k (by omega))
def Out.thn (o:Out) (f:Env→St→Out):Out:=
 match o with
 | .norm env s=>f env s
 | o=>o
def Out.blk (id:Nat) (o:Out):Out:=
 match o with
 | .exit id' env s=>if id'=id then .norm env s else .exit id' env s
 | o=>o
def aem (x:Option AV) (a b:Unit→Out):Out:=
 match x with
 | some (.b x)=>if x=true then a () else b ()
 | _=>.fail
noncomputable def ig (body:Env→St→Out) (keep:List Nat) (env:Env) (s:St):Out:=OE .fail (fun N=>wU body keep N env s)
theorem Ko (body:Env→St→Out) (keep:List Nat) (env:Env) (s:St):ig body keep env s=(body (jd env keep) s).thn (ig body keep):=by
 unfold ig
 cases hb:body (jd env keep) s with
 | norm env' s'=>exact QC (fun n=>by simp [wU,hb])
 | _=>exact yR (n:=1) (fun m hm=>by obtain ⟨k,rfl⟩:∃k,m=k+1:=⟨m - 1,by omega⟩;simp [wU,hb,Out.thn])
noncomputable def LC (body:Env→St→Out) (l:Nat) (keep:List Nat) (env:Env) (s:St):Out:=OE .fail (fun N=>qg body l keep N env s)
def Out.jmp (l:Nat) (o:Out) (f:Env→St→Out):Out:=
 match o with
 | .goto l' env s=>if l'=l then f env s else .fail
 | o=>o
theorem aaM (body:Env→St→Out) (l:Nat) (keep:List Nat) (env:Env) (s:St):LC body l keep env s=(body (jd env keep) s).jmp l (LC body l keep):=by
 unfold LC
 cases hb:body (jd env keep) s with
 | goto l' env' s'=>
  by_cases hl:l'=l
  ·simp only [Out.jmp,hl,if_true];exact QC (fun n=>by simp [qg,hb,hl])
  ·exact yR (n:=1) (fun m hm=>by obtain ⟨k,rfl⟩:∃k,m=k+1:=⟨m - 1,by omega⟩;simp [qg,hb,Out.jmp,hl])
 | _=>exact yR (n:=1) (fun m hm=>by obtain ⟨k,rfl⟩:∃k,m=k+1:=⟨m - 1,by omega⟩;simp [qg,hb,Out.jmp])
section
variable (glob:Nat→Option (List AV))
def ES (x:Option AV) (call:AV→List AV→St→Ctx→CO) (cx:Ctx) (ps:List Nat) (asg body:bH) (env:Env) (s:St):Out:=
 match x with
 | some (.fn ff as cs)=>match call (.fn ff as cs) [.yl (s.length+1)] (s++[.dfr,.loop (rE env) ps asg body .ready]) cx with
  | .ret _ s'=>DL env s' (s.length+1)
  | _=>.fail
 | _=>.fail
noncomputable def aC (call:AV→List AV→St→Ctx→CO) (cx:Ctx) (ro:Bool):bH→Env→St→Out
 | .skip,env,s=>.norm env s
 | .ret,env,s=>.ret env s
 | .exit id,env,s=>.exit id env s
 | .region ops ord keep,env,s=>(rC glob call cx ops env s ord).thn fun env s=>.norm (jd env keep) s
 | .seq a b,env,s=>(aC call cx ro a env s).thn (aC call cx ro b)
 | .cond c a b,env,s=>aem (rd glob env c) (fun _=>aC call cx ro a env s) (fun _=>aC call cx ro b env s)
 | .block id b,env,s=>(aC call cx ro b env s).blk id
 | .loop keep b,env,s=>ig (aC call cx ro b) keep env s
 | .range f ps asg body,env,s=>if ro=true then .fail else ES (rd glob env f) call cx ps asg body env s
 | .label _,env,s=>.norm env s
 | .goto l,env,s=>.goto l env s
 | .scope l keep a b,env,s=>(aC call cx ro a env s).jmp l (LC (aC call cx ro b) l keep)
def endW (pure keep:Bool) (s:St) (res:List RV) (o:Out):CO:=
 match o with
 | .norm env s1 | .ret env s1=>match nX glob env s1 res with
  | some rs=>finish pure keep s s1 (sZ rs)
  | none=>.fail
 | .pan v s1=>(finish pure keep s s1 v).toPan
 | _=>.fail
noncomputable def af (call:AV→List AV→St→Ctx→CO) (fn:bU) (args:List AV) (s:St) (cx:Ctx):CO:=
 if args.length=fn.np then
  endW glob fn.pure fn.keep s fn.res (aC glob call ⟨if fn.pure=true then s.length else cx.lim,if fn.keep=true then cx.base else s.length⟩ fn.keep fn.code (xJ args 0) s)
 else .fail
noncomputable def WO (callW:AV→List AV→St→Ctx→CO) (cx:Ctx) (m:Option bH) (env:Env) (s:St):Out:=
 match m with
 | none=>.norm env s
 | some c=>aC glob callW cx true c env s
noncomputable def xM (callW:AV→List AV→St→Ctx→CO) (d:Gl) (args:List AV) (s:St) (cx:Ctx):CO:=
 if args.length=d.np then
  match mD glob callW ⟨cx.lim,s.length⟩ d.pre (xJ args 0) s with
  | .norm envm sm=>match WO glob callW ⟨cx.lim,s.length⟩ d.mid envm sm with
   | .ret env2 s2=>(match nX glob env2 s2 d.res with
    | some rs=>finish false false s s2 (sZ rs)
    | none=>.fail)
   | .norm xJ s0=>(match fK glob callW ⟨cx.lim,s.length⟩ d.mkc xJ s0 with
    | .norm env1 s1=>match lk env1 d.ct,d.pins.mapM (placeOf env1) with
     | some (.v (.fn (.func f) [] caps)),some ls=>
      if f=d.clo∧Ew caps ls=true then
       match aC glob callW ⟨cx.lim,s.length⟩ true d.code env1 s1 with
       | .norm env2 s2 | .ret env2 s2=>match nX glob env2 s2 d.res with
        | some rs=>finish false false s s2 (sZ rs)
        | none=>.fail
       | .pan v s2=>match d.hnd v with
        | some news=>if vG s.length s2 ls news=true then
          (match nX glob (zl d.pins ls) (mV s2 ls news) d.res with
          | some rs=>finish false false s (mV s2 ls news) (sZ rs)
          | none=>.fail) else .fail
        | none=>.fail
       | _=>.fail
      else .fail
     | _,_=>.fail
    | _=>.fail)
   | _=>.fail
  | _=>.fail
 else .fail
def Gx (l:Nat) (o:Out):CO:=
 match o with
 | .norm _ s2=>rV s2 l .ready true
 | .ret _ s2=>rV s2 l .ret false
 | .exit id _ s2=>rV s2 l (.exit id) false
 | _=>.fail
noncomputable def xO (call:AV→List AV→St→Ctx→CO) (cx:Ctx) (body:bH) (l:Nat) (o:Out):CO:=
 match o with
 | .norm env1 s1=>match s1[l]? with
  | some (.loop e1 p1 a1 b1 .ready)=>Gx l (aC glob call cx true body env1 (s1.set l (.loop e1 p1 a1 b1 .busy)))
  | _=>.fail
 | _=>.fail
noncomputable def Il (call:AV→List AV→St→Ctx→CO) (l:Nat) (args:List AV) (s:St) (cx:Ctx):CO:=
 match s[l]? with
 | some (.loop env ps asg body .ready)=>
  if ps.length=args.length∧cx.lim≤l then
   xO glob call cx body l (aC glob call cx true asg (Cj env ps args) s)
  else .fail
 | _=>.fail
end
section
variable {glob:Nat→Option (List AV)} {callW:AV→List AV→St→Ctx→CO} {call:Nat→AV→List AV→St→Ctx→CO} {cx:Ctx}
def Lim (callW:AV→List AV→St→Ctx→CO) (call:Nat→AV→List AV→St→Ctx→CO):Prop:=
 ∀fv args s cx c,callW fv args s cx=c→c≠.fail→∃n,∀m,n≤m→call m fv args s cx=c
theorem RP (hc:Lim callW call) {env:Env} {s:St} {op:AOp} {o:RO} (h:aop glob callW cx env s op=o) (ho:o≠.fail):
  ∃n,∀m,n≤m→aop glob (call m) cx env s op=o:=by
 by_cases hch:∃d f as k,op=.callh d f as k
 ·obtain ⟨d,f,as,k,rfl⟩:=hch;simp only [aop] at h ⊢
  split at h
  ·exact absurd h.symm ho
  ·split at h
   ·rename_i fv as' h1 h2
    cases hx:callW fv as' s cx with
    | fail=>rw [hx] at h;exact absurd h.symm ho
    | ret r s'=>
     obtain ⟨n,hn⟩:=hc _ _ _ _ _ hx (by simp);exact ⟨n,fun m hm=>by rw [hn m hm];rw [hx] at h;exact h⟩
    | pan r s'=>
     obtain ⟨n,hn⟩:=hc _ _ _ _ _ hx (by simp);exact ⟨n,fun m hm=>by rw [hn m hm];rw [hx] at h;exact h⟩
   ·exact absurd h.symm ho
 by_cases hcall:∃f as,op=.call f as∨op=.callp f as
 ·obtain ⟨f,as,hop⟩:=hcall
  have hcp:∀c:AV→List AV→St→Ctx→CO,aop glob c cx env s op=aop glob c cx env s (.call f as):=by rcases hop with rfl|rfl<;>exact fun _=>rfl
  simp only [hcp] at h ⊢;clear hop hcp;simp only [aop] at h ⊢
  split at h
  ·rename_i fv as' env' h1 h2
   cases hx:callW fv as' s cx with
   | fail=>rw [hx] at h;exact absurd h.symm ho
   | ret r s'=>
    obtain ⟨n,hn⟩:=hc _ _ _ _ _ hx (by simp);exact ⟨n,fun m hm=>by rw [hn m hm];rw [hx] at h;exact h⟩
   | pan r s'=>
    obtain ⟨n,hn⟩:=hc _ _ _ _ _ hx (by simp);exact ⟨n,fun m hm=>by rw [hn m hm];rw [hx] at h;exact h⟩
  ·exact absurd h.symm ho
 ·refine ⟨0,fun m _=>?_⟩;rw [←h]
  cases op with
  | call f as=>exact absurd ⟨_,_,.inl rfl⟩ hcall
  | callp f as=>exact absurd ⟨_,_,.inr rfl⟩ hcall
  | callh d f as k=>exact absurd ⟨_,_,_,_,rfl⟩ hch
  | len k x=>rcases k with _ | _ | _|k<;>rfl
  | _=>rfl
theorem yu (hc:Lim callW call) {env:Env} {s:St} {p:aI} {o:Out} (h:fK glob callW cx p env s=o) (ho:o≠.fail):
  ∃n,∀m,n≤m→fK glob (call m) cx p env s=o:=by
 unfold fK at h ⊢
 split at h
 ·exact absurd h.symm ho
 ·exact ⟨0,fun m _=>h⟩
 ·cases hx:aop glob callW cx env s p.op with
  | fail=>rw [hx] at h;exact absurd h.symm ho
  | ok e env' s'=>
   obtain ⟨n,hn⟩:=RP hc hx (by simp);exact ⟨n,fun m hm=>by rw [hn m hm];rw [hx] at h;exact h⟩
  | pan v s'=>
   obtain ⟨n,hn⟩:=RP hc hx (by simp);exact ⟨n,fun m hm=>by rw [hn m hm];rw [hx] at h;exact h⟩
theorem Bf (hc:Lim callW call):∀(ops:List aI) {env:Env} {s:St} {o:Out},mD glob callW cx ops env s=o→o≠.fail→
  ∃n,∀m,n≤m→mD glob (call m) cx ops env s=o
 | [],env,s,o,h,ho=>⟨0,fun m _=>h⟩
 | p::r,env,s,o,h,ho=>by
  simp only [mD] at h ⊢
  cases hx:fK glob callW cx p env s with
  | fail=>rw [hx] at h;exact absurd h.symm ho
  | norm env' s'=>
   rw [hx] at h;obtain ⟨n,hn⟩:=yu hc hx (by simp);obtain ⟨n',hn'⟩:=Bf hc r h ho;exact ⟨max n n',fun m hm=>by rw [hn m (by omega)];exact hn' m (by omega)⟩
  | _=>
   obtain ⟨n,hn⟩:=yu hc hx (by simp);exact ⟨n,fun m hm=>by rw [hn m hm];rw [hx] at h;exact h⟩
theorem aaS (hc:Lim callW call) {env:Env} {s:St} {p:aI} {e:EV} (h:xk glob callW p env s=some e):
  ∃n,∀m,n≤m→xk glob (call m) p env s=some e:=by
 unfold xk at h ⊢
 split at h
 ·cases h
 ·exact ⟨0,fun m _=>h⟩
 ·split at h
  ·rename_i hq;simp only [hq,if_true]
   cases hx:aop glob callW ⟨s.length,s.length⟩ env s p.op with
   | fail=>rw [hx] at h;cases h
   | ok e env' s'=>
    obtain ⟨n,hn⟩:=RP hc hx (by simp);exact ⟨n,fun m hm=>by rw [hn m hm];rw [hx] at h;exact h⟩
   | pan v s'=>rw [hx] at h;cases h
  ·cases h
theorem TL (hc:Lim callW call) {env:Env} {s:St} {p:aI} {o:Out} (h:gZ glob callW cx p env s=o) (ho:o≠.fail):
  ∃n,∀m,n≤m→gZ glob (call m) cx p env s=o:=by
 unfold gZ at h ⊢
 split at h
 ·rename_i hq;simp only [hq,if_true];unfold AZ at h ⊢
  cases hx:xk glob callW p env s with
  | none=>rw [hx] at h;exact absurd h.symm ho
  | some e=>
   obtain ⟨n,hn⟩:=aaS hc hx;exact ⟨n,fun m hm=>by rw [hn m hm];rw [hx] at h;exact h⟩
 ·rename_i hq;simp only [hq];exact yu hc h ho
theorem zK (hc:Lim callW call) (aops:List aI):∀(l:List Nat) {env:Env} {s:St} {o:Out},jw glob callW cx aops l env s=o→o≠.fail→
  ∃n,∀m,n≤m→jw glob (call m) cx aops l env s=o
 | [],env,s,o,h,ho=>⟨0,fun m _=>h⟩
 | i::r,env,s,o,h,ho=>by
  simp only [jw] at h ⊢
  split at h
  ·exact absurd h.symm ho
  ·rename_i p hp
   cases hx:gZ glob callW cx p env s with
   | fail=>rw [hx] at h;exact absurd h.symm ho
   | norm env' s'=>
    rw [hx] at h;obtain ⟨n,hn⟩:=TL hc hx (by simp);obtain ⟨n',hn'⟩:=zK hc aops r h ho;exact ⟨max n n',fun m hm=>by rw [hn m (by omega)];exact hn' m (by omega)⟩
   | _=>
    obtain ⟨n,hn⟩:=TL hc hx (by simp);exact ⟨n,fun m hm=>by rw [hn m hm];rw [hx] at h;exact h⟩
theorem WB (hc:Lim callW call) {ops:List aI} {π:List Nat} {env:Env} {s:St} {o:Out} (h:yx glob callW cx ops π env s=o) (ho:o≠.fail):
  ∃n,∀m,n≤m→yx glob (call m) cx ops π env s=o:=by
 unfold yx at h ⊢
 split at h
 ·exact absurd h.symm ho
 ·rename_i c oc hpc
  split at h
  ·rename_i hall
   cases hx:jw glob callW cx ops (EX ops c oc false π) env s with
   | norm env1 s1=>
    rw [hx] at h;simp only [] at h
    cases hy:fK glob callW cx oc env1 s1 with
    | pan v s2=>
     rw [hy] at h;obtain ⟨n,hn⟩:=zK hc ops _ hx (by simp);obtain ⟨n',hn'⟩:=yu hc hy (by simp);refine ⟨max n n',fun m hm=>?_⟩;rw [hn m (by omega)];simp only [];rw [if_pos hall,hn' m (by omega)];exact h
    | _=>rw [hy] at h;exact absurd h.symm ho
   | _=>rw [hx] at h;exact absurd h.symm ho
  ·exact absurd h.symm ho
theorem Ns (hc:Lim callW call) {ops:List aI} {ord:Option (List Nat×List Nat)} {env:Env} {s:St} {o:Out} (h:rC glob callW cx ops env s ord=o) (ho:o≠.fail):
  ∃n,∀m,n≤m→rC glob (call m) cx ops env s ord=o:=by
 cases ord with
 | none=>exact Bf hc ops h ho
 | some p=>
  simp only [rC] at h ⊢
  cases hx:jw glob callW cx ops p.1 (Ce env p.2) s with
  | fail=>rw [hx] at h;exact absurd h.symm ho
  | pan v s1=>
   rw [hx] at h;obtain ⟨n,hn⟩:=zK hc ops p.1 hx (by simp);obtain ⟨n',hn'⟩:=WB hc (h:yx glob callW cx ops p.1 (Ce env p.2) s=o) ho;exact ⟨max n n',fun m hm=>by rw [hn m (by omega)];exact hn' m (by omega)⟩
  | _=>
   obtain ⟨n,hn⟩:=zK hc ops p.1 hx (by simp);exact ⟨n,fun m hm=>by rw [hn m hm];rw [hx] at h;exact h⟩
theorem Ub {xO:Env→St→Out} {body:Nat→Env→St→Out} {keep:List Nat} (hb:∀env s o,xO env s=o→o≠.fail→∃n,∀m,n≤m→body m env s=o):
  ∀(N0:Nat) {env:Env} {s:St} {o:Out},wU xO keep N0 env s=o→o≠.fail→∃n,∀m,n≤m→∀N,N0≤N→wU (body m) keep N env s=o
 | 0,env,s,o,h,ho=>absurd h.symm ho
 | N0+1,env,s,o,h,ho=>by
  simp only [wU] at h
  cases hx:xO (jd env keep) s with
  | fail=>rw [hx] at h;exact absurd h.symm ho
  | norm env' s'=>
   rw [hx] at h;obtain ⟨n,hn⟩:=hb _ _ _ hx (by simp);obtain ⟨n',hn'⟩:=Ub hb N0 h ho;refine ⟨max n n',fun m hm N hN=>?_⟩;obtain ⟨k,rfl⟩:∃k,N=k+1:=⟨N - 1,by omega⟩;simp only [wU];rw [hn m (by omega)];exact hn' m (by omega) k (by omega)
  | _=>
   obtain ⟨n,hn⟩:=hb _ _ _ hx (by simp);refine ⟨n,fun m hm N hN=>?_⟩;obtain ⟨k,rfl⟩:∃k,N=k+1:=⟨N - 1,by omega⟩;simp only [wU];rw [hn m hm];rw [hx] at h;exact h
theorem PO {xO:Env→St→Out} {body:Nat→Env→St→Out} {l:Nat} {keep:List Nat} (hb:∀env s o,xO env s=o→o≠.fail→∃n,∀m,n≤m→body m env s=o):
  ∀(N0:Nat) {env:Env} {s:St} {o:Out},qg xO l keep N0 env s=o→o≠.fail→∃n,∀m,n≤m→∀N,N0≤N→qg (body m) l keep N env s=o
 | 0,env,s,o,h,ho=>absurd h.symm ho
 | N0+1,env,s,o,h,ho=>by
  simp only [qg] at h
  cases hx:xO (jd env keep) s with
  | fail=>rw [hx] at h;exact absurd h.symm ho
  | goto l' env' s'=>
   rw [hx] at h;simp only [] at h
   split at h
   ·rename_i hl;obtain ⟨n,hn⟩:=hb _ _ _ hx (by simp);obtain ⟨n',hn'⟩:=PO hb N0 h ho;refine ⟨max n n',fun m hm N hN=>?_⟩;obtain ⟨k,rfl⟩:∃k,N=k+1:=⟨N - 1,by omega⟩;simp only [qg];rw [hn m (by omega)];simp only [hl,if_true];exact hn' m (by omega) k (by omega)
   ·exact absurd h.symm ho
  | _=>
   obtain ⟨n,hn⟩:=hb _ _ _ hx (by simp);refine ⟨n,fun m hm N hN=>?_⟩;obtain ⟨k,rfl⟩:∃k,N=k+1:=⟨N - 1,by omega⟩;simp only [qg];rw [hn m hm];rw [hx] at h;exact h
theorem kE (hc:Lim callW call) (ro:Bool):∀(c:bH) (env:Env) (s:St) (o:Out),aC glob callW cx ro c env s=o→o≠.fail→
  ∃n,∀m,n≤m→bF glob (call m) cx ro m c env s=o
 | .skip,env,s,o,h,ho=>⟨0,fun m _=>by simpa [bF,aC] using h⟩
 | .ret,env,s,o,h,ho=>⟨0,fun m _=>by simpa [bF,aC] using h⟩
 | .exit id,env,s,o,h,ho=>⟨0,fun m _=>by simpa [bF,aC] using h⟩
 | .region ops ord keep,env,s,o,h,ho=>by
  simp only [bF,aC] at h ⊢
  cases hx:rC glob callW cx ops env s ord with
  | fail=>rw [hx] at h;exact absurd h.symm ho
  | _=>
   obtain ⟨n,hn⟩:=Ns hc hx (by simp);exact ⟨n,fun m hm=>by rw [hn m hm];rw [hx] at h;exact h⟩
 | .seq a b,env,s,o,h,ho=>by
  simp only [bF,aC] at h ⊢
  cases hx:aC glob callW cx ro a env s with
  | fail=>rw [hx] at h;exact absurd h.symm ho
  | norm env' s'=>
   rw [hx] at h;obtain ⟨n,hn⟩:=kE hc ro a _ _ _ hx (by simp);obtain ⟨n',hn'⟩:=kE hc ro b _ _ _ h ho;exact ⟨max n n',fun m hm=>by rw [hn m (by omega)];exact hn' m (by omega)⟩
  | _=>
   obtain ⟨n,hn⟩:=kE hc ro a _ _ _ hx (by simp);exact ⟨n,fun m hm=>by rw [hn m hm];rw [hx] at h;exact h⟩
 | .cond c a b,env,s,o,h,ho=>by
  simp only [bF,aC] at h ⊢;unfold aem at h
  split at h
  ·rename_i x hx;rw [hx]
   cases x with
   | true=>exact kE hc ro a _ _ _ (by simpa using h) ho
   | false=>exact kE hc ro b _ _ _ (by simpa using h) ho
  ·exact absurd h.symm ho
 | .block id b,env,s,o,h,ho=>by
  simp only [bF,aC] at h ⊢
  cases hx:aC glob callW cx ro b env s with
  | fail=>rw [hx] at h;exact absurd h.symm ho
  | _=>
   obtain ⟨n,hn⟩:=kE hc ro b _ _ _ hx (by simp);exact ⟨n,fun m hm=>by rw [hn m hm];rw [hx] at h;exact h⟩
 | .loop keep b,env,s,o,h,ho=>by
  simp only [bF,aC] at h ⊢;obtain ⟨N0,hN⟩:=Gu h ho;obtain ⟨n,hn⟩:=Ub (body:=fun m=>bF glob (call m) cx ro m b) (kE hc ro b) N0 (hN N0 (Nat.le_refl _)) ho;exact ⟨max n N0,fun m hm=>hn m (by omega) m (by omega)⟩
 | .range f ps asg body,env,s,o,h,ho=>by
  simp only [bF,aC] at h ⊢
  split at h
  ·exact absurd h.symm ho
  ·rename_i hro;simp only [hro];unfold ES at h
   split at h
   ·rename_i ff as cs hx;rw [hx];simp only []
    cases hy:callW (.fn ff as cs) [.yl (s.length+1)] (s++[.dfr,.loop (rE env) ps asg body .ready]) cx with
    | fail=>rw [hy] at h;exact absurd h.symm ho
    | _=>
     obtain ⟨n,hn⟩:=hc _ _ _ _ _ hy (by simp);exact ⟨n,fun m hm=>by rw [hn m hm];rw [hy] at h;exact h⟩
   ·exact absurd h.symm ho
 | .label l,env,s,o,h,ho=>⟨0,fun m _=>by simpa [bF,aC] using h⟩
 | .goto l,env,s,o,h,ho=>⟨0,fun m _=>by simpa [bF,aC] using h⟩
 | .scope l keep a b,env,s,o,h,ho=>by
  simp only [bF,aC] at h ⊢
  cases hx:aC glob callW cx ro a env s with
  | fail=>rw [hx] at h;exact absurd h.symm ho
  | goto l' env' s'=>
   rw [hx] at h;simp only [Out.jmp] at h
   split at h
   ·rename_i hl;obtain ⟨n,hn⟩:=kE hc ro a _ _ _ hx (by simp);obtain ⟨N0,hN⟩:=Gu h ho;obtain ⟨n',hn'⟩:=PO (body:=fun m=>bF glob (call m) cx ro m b) (kE hc ro b) N0 (hN N0 (Nat.le_refl _)) ho;exact ⟨max n (max n' N0),fun m hm=>by rw [hn m (by omega)];simp only [hl,if_true];exact hn' m (by omega) m (by omega)⟩
   ·exact absurd h.symm ho
  | _=>
   obtain ⟨n,hn⟩:=kE hc ro a _ _ _ hx (by simp);exact ⟨n,fun m hm=>by rw [hn m hm];rw [hx] at h;exact h⟩
theorem XR (hc:Lim callW call) {fn:bU} {args:List AV} {s:St} {o:CO} (h:af glob callW fn args s cx=o) (ho:o≠.fail):
  ∃n,∀m,n≤m→wO glob (call m) m fn args s cx=o:=by
 unfold af at h;unfold wO
 split at h
 ·rename_i hnp;simp only [hnp,if_true]
  cases hx:aC glob callW ⟨if fn.pure=true then s.length else cx.lim,if fn.keep=true then cx.base else s.length⟩ fn.keep fn.code (xJ args 0) s with
  | fail=>rw [hx] at h;exact absurd h.symm ho
  | _=>
   obtain ⟨n,hn⟩:=kE hc _ _ _ _ _ hx (by simp);exact ⟨n,fun m hm=>by rw [hn m hm];rw [hx] at h;exact h⟩
 ·exact absurd h.symm ho
theorem WN (hc:Lim callW call) {m:Option bH} {env:Env} {s:St} {o:Out} (h:WO glob callW cx m env s=o) (ho:o≠.fail):
  ∃n,∀k,n≤k→BR glob (call k) cx k m env s=o:=by
 cases m with
 | none=>exact ⟨0,fun _ _=>h⟩
 | some c=>exact kE hc _ _ _ _ _ h ho
theorem VF (hc:Lim callW call) {d:Gl} {args:List AV} {s:St} {o:CO} (h:xM glob callW d args s cx=o) (ho:o≠.fail):
  ∃n,∀m,n≤m→tY glob (call m) m d args s cx=o:=by
 unfold xM at h;unfold tY
 split at h
 ·rename_i hnp;simp only [hnp,if_true]
  cases hxm:mD glob callW ⟨cx.lim,s.length⟩ d.pre (xJ args 0) s with
  | norm em sm=>
   obtain ⟨nm,hnm⟩:=Bf hc _ hxm (by simp);rw [hxm] at h;simp only [] at h
   cases hx:WO glob callW ⟨cx.lim,s.length⟩ d.mid em sm with
   | ret e2 s2=>
    obtain ⟨n0,hn0⟩:=WN hc hx (by simp);rw [hx] at h;refine ⟨max nm n0,fun m hm=>?_⟩;rw [hnm m (by omega)];simp only [];rw [hn0 m (by omega)];exact h
   | norm e0 s0=>
    obtain ⟨n0,hn0⟩:=WN hc hx (by simp);rw [hx] at h;simp only [] at h
    cases hy:fK glob callW ⟨cx.lim,s.length⟩ d.mkc e0 s0 with
    | norm e1 s1=>
     obtain ⟨n1,hn1⟩:=yu hc hy (by simp);rw [hy] at h;simp only [] at h
     split at h
     ·rename_i f caps ls hl hp
      split at h
      ·rename_i hcond
       cases hz:aC glob callW ⟨cx.lim,s.length⟩ true d.code e1 s1 with
       | fail=>rw [hz] at h;exact absurd h.symm ho
       | _=>
        obtain ⟨n,hn⟩:=kE hc _ _ _ _ _ hz (by simp);refine ⟨max nm (max n (max n0 n1)),fun m hm=>?_⟩;rw [hnm m (by omega)];simp only [];rw [hn0 m (by omega)];simp only [];rw [hn1 m (by omega)];simp only [hl,hp];rw [if_pos hcond,hn m (by omega)];rw [hz] at h;exact h
      ·exact absurd h.symm ho
     ·exact absurd h.symm ho
    | _=>rw [hy] at h;exact absurd h.symm ho
   | _=>rw [hx] at h;exact absurd h.symm ho
  | _=>rw [hxm] at h;exact absurd h.symm ho
 ·exact absurd h.symm ho
theorem Ye (hc:Lim callW call) {l:Nat} {args:List AV} {s:St} {o:CO} (h:Il glob callW l args s cx=o) (ho:o≠.fail):
  ∃n,∀m,n≤m→Aj glob (call m) m l args s cx=o:=by
 unfold Il at h;unfold Aj
 split at h
 ·rename_i env ps asg body hl;rw [hl];simp only []
  split at h
  ·rename_i hcond;simp only [hcond,and_self,if_true]
   cases hx:aC glob callW cx true asg (Cj env ps args) s with
   | norm env1 s1=>
    obtain ⟨n,hn⟩:=kE hc true _ _ _ _ hx (by simp);rw [hx] at h;unfold xO at h;simp only [] at h
    split at h
    ·rename_i e1 p1 a1 b1 hl1
     cases hy:aC glob callW cx true body env1 (s1.set l (.loop e1 p1 a1 b1 .busy)) with
     | fail=>rw [hy] at h;exact absurd h.symm ho
     | _=>
      obtain ⟨n',hn'⟩:=kE hc true _ _ _ _ hy (by simp);exact ⟨max n n',fun m hm=>by rw [hn m (by omega)];simp only [hl1];rw [hn' m (by omega)];rw [hy] at h;exact h⟩
    ·exact absurd h.symm ho
   | _=>rw [hx] at h;exact absurd h.symm ho
  ·exact absurd h.symm ho
 ·exact absurd h.symm ho
end
theorem Qy {α β:Type} {f:α→Option β} {g:Nat→α→Option β}:∀(l:List α) {r:List β},(∀x∈l,∀y,f x=some y→∃n,∀m,n≤m→g m x=some y)→l.mapM f=some r→∃n,∀m,n≤m→l.mapM (g m)=some r
 | [],r,_,h=>⟨0,fun m _=>by simpa using h⟩
 | x::l,r,hf,h=>by
  simp only [List.mapM_cons,Option.bind_eq_bind,Option.pure_def] at h ⊢
  cases hx:f x with
  | none=>simp [hx] at h
  | some y=>
   cases hl:l.mapM f with
   | none=>simp [hx,hl] at h
   | some ys=>
    simp [hx,hl] at h;subst h;obtain ⟨n,hn⟩:=hf x (by simp) y hx;obtain ⟨n',hn'⟩:=Qy l (fun z hz=>hf z (by simp [hz])) hl;exact ⟨max n n',fun m hm=>by rw [hn m (by omega),hn' m (by omega)];rfl⟩
theorem abU {callW:AV→List AV→St→Ctx→CO} {call:Nat→AV→List AV→St→Ctx→CO} (hc:Lim callW call) {g:Nat} {x y:AV} {r:Int} (h:abV callW g x y=some r):
  ∃n,∀m,n≤m→abV (call m) g x y=some r:=by
 unfold abV at h ⊢
 cases hx:callW (.fn (.func g) [] []) [x,y] [] ⟨0,0⟩ with
 | fail=>rw [hx] at h;cases h
 | pan v s=>rw [hx] at h;cases h
 | ret v s=>
  obtain ⟨n,hn⟩:=hc _ _ _ _ _ hx (by simp);exact ⟨n,fun m hm=>by rw [hn m hm];rw [hx] at h;exact h⟩
theorem XM {callW:AV→List AV→St→Ctx→CO} {call:Nat→AV→List AV→St→Ctx→CO} (hc:Lim callW call) {g:Nat} {es:List AV} {tab:List (List Int)} (h:VD callW g es=some tab):
  ∃n,∀m,n≤m→VD (call m) g es=some tab:=
 Qy (g:=fun m x=>es.mapM fun y=>abV (call m) g x y) es (fun _ _ _ hx=>Qy (g:=fun m y=>abV (call m) g _ y) es (fun _ _ _ hy=>abU hc hy) hx) h
theorem Ob {callW qcallW:AV→List AV→St→Ctx→CO} {call qcall:Nat→AV→List AV→St→Ctx→CO} {cx:Ctx} (hc:Lim callW call) (hq:Lim qcallW qcall) {k:HiK} {args:List AV} {s:St} {o:CO}
  (h:lT callW qcallW k args s cx=o) (ho:o≠.fail):∃n,∀m,n≤m→lT (call m) (qcall m) k args s cx=o:=by
 unfold lT at h
 split at h
 ·rename_i r f as cs
  cases hx:callW (.fn (.func f) as cs) [] s cx with
  | ret r1 s1=>
   obtain ⟨n,hn⟩:=hc _ _ _ _ _ hx (by simp);exact ⟨n,fun m hm=>by simp only [lT,hn m hm];rw [hx] at h;exact h⟩
  | pan r1 s1=>
   obtain ⟨n,hn⟩:=hc _ _ _ _ _ hx (by simp);exact ⟨n,fun m hm=>by simp only [lT,hn m hm];rw [hx] at h;exact h⟩
  | fail=>rw [hx] at h;exact absurd h.symm ho
 ·exact ⟨0,fun m _=>by simpa [lT] using h⟩
 ·exact ⟨0,fun m _=>by simpa [lT] using h⟩
 ·rename_i k0 l ver sz o m g
  split at h
  ·exact ⟨0,fun m _=>by simpa [lT] using h⟩
  ·rename_i n t sz' ver' cs hl
   split at h
   ·rename_i hcond
    cases hx:VD qcallW g (chunk sz (n+1) (cs.drop o)) with
    | none=>rw [hx] at h;exact absurd h.symm ho
    | some tab=>
     obtain ⟨n1,hn⟩:=XM hq hx;exact ⟨n1,fun m hm=>by simp only [lT,hl];rw [if_pos hcond,hn m hm];rw [hx] at h;exact h⟩
   ·exact absurd h.symm ho
  ·exact absurd h.symm ho
 ·exact ⟨0,fun m _=>by simpa [lT] using h⟩
 ·exact ⟨0,fun m _=>by simp only [lT];exact h⟩
 ·rename_i f t z e es
  cases hx:callW (.fn (.func f) [] []) [.pt s.length 0] (s++[.cells [.sl (e::es)]]) cx with
  | ret r1 s1=>
   obtain ⟨n,hn⟩:=hc _ _ _ _ _ hx (by simp);exact ⟨n,fun m hm=>by simp only [lT,hn m hm];rw [hx] at h;exact h⟩
  | pan r1 s1=>
   obtain ⟨n,hn⟩:=hc _ _ _ _ _ hx (by simp);exact ⟨n,fun m hm=>by simp only [lT,hn m hm];rw [hx] at h;exact h⟩
  | fail=>rw [hx] at h;exact absurd h.symm ho
 ·exact absurd h.symm ho
noncomputable def aj (A:uJ) (fv:AV) (args:List AV) (s:St) (cx:Ctx):CO:=OE .fail fun n=>jv A n fv args s cx
theorem AU (A:uJ):Lim (aj A) (jv A):=fun fv args s cx c h hc=>Gu h hc
theorem UE {A:uJ} {f:Nat} {fn:bU} (hi:A.intr f=none) (hh:A.hi f=none) (hd:A.dfr f=none) (hf:A.fns f=some fn) {as cs args:List AV} {s:St} {cx:Ctx} {o:CO} (ho:o≠.fail)
  (h:af A.glob (aj A) fn (as++args++cs) s cx=o):aj A (.fn (.func f) as cs) args s cx=o:=by
 obtain ⟨n,hn⟩:=XR (AU A) h ho;exact yR (n:=n+1) (fun m hm=>by obtain ⟨k,rfl⟩:∃k,m=k+1:=⟨m - 1,by omega⟩;simp only [jv,hi,hh,hd,hf];exact hn k (by omega))
theorem RS {A:uJ} {f:Nat} {d:Gl} (hi:A.intr f=none) (hh:A.hi f=none) (hf:A.dfr f=some d) {as cs args:List AV} {s:St} {cx:Ctx} {o:CO} (ho:o≠.fail)
  (h:xM A.glob (aj A) d (as++args++cs) s cx=o):aj A (.fn (.func f) as cs) args s cx=o:=by
 obtain ⟨n,hn⟩:=VF (AU A) h ho;exact yR (n:=n+1) (fun m hm=>by obtain ⟨k,rfl⟩:∃k,m=k+1:=⟨m - 1,by omega⟩;simp only [jv,hi,hh,hf];exact hn k (by omega))
theorem Nb {A:uJ} {f:Nat} {k:HiK} (hi:A.intr f=none) (hf:A.hi f=some k) {as cs args:List AV} {s:St} {cx:Ctx} {o:CO} (ho:o≠.fail)
  (h:lT (aj A) (aj A.quiet) k (as++args++cs) s cx=o):aj A (.fn (.func f) as cs) args s cx=o:=by
 obtain ⟨n,hn⟩:=Ob (AU A) (AU A.quiet) h ho;exact yR (n:=n+1) (fun m hm=>by obtain ⟨k,rfl⟩:∃k,m=k+1:=⟨m - 1,by omega⟩;simp only [jv,hi,hf];exact hn k (by omega))
theorem rY {A:uJ} {f:Nat} {h:List AV→St→Option AV} (hi:A.intr f=some h) {as cs args:List AV} {s:St} {cx:Ctx} {r:AV} (hr:h (as++args++cs) s=some r):
  aj A (.fn (.func f) as cs) args s cx=.ret r s:=
 yR (n:=1) (fun m hm=>by obtain ⟨k,rfl⟩:∃k,m=k+1:=⟨m - 1,by omega⟩;simp only [jv,hi,hr])
theorem Na {A:uJ} {l:Nat} {args:List AV} {s:St} {cx:Ctx} {o:CO} (ho:o≠.fail) (h:Il A.glob (aj A) l args s cx=o):aj A (.yl l) args s cx=o:=by
 obtain ⟨n,hn⟩:=Ye (AU A) h ho;exact yR (n:=n+1) (fun m hm=>by obtain ⟨k,rfl⟩:∃k,m=k+1:=⟨m - 1,by omega⟩;simp only [jv];exact hn k (by omega))
theorem Zo {A:uJ} {fv:AV} {args:List AV} {s s':St} {cx:Ctx} {r:AV} (h:aj A fv args s cx=.ret r s'):∃n,jv A n fv args s cx=.ret r s':=by
 obtain ⟨n,hn⟩:=Gu h (by simp);exact ⟨n,hn n (Nat.le_refl _)⟩
section
variable {glob:Nat→Option (List AV)} {call callW:AV→List AV→St→Ctx→CO} {cx:Ctx}
def BZ (call callW:AV→List AV→St→Ctx→CO):Prop:=∀fv args s cx c,call fv args s cx=c→c≠.fail→callW fv args s cx=c
theorem aaN (hc:BZ call callW) {ops:List aI} {ord:Option (List Nat×List Nat)} {env:Env} {s:St} {o:Out} (h:rC glob call cx ops env s ord=o) (ho:o≠.fail):
  rC glob callW cx ops env s ord=o:=by
 have:Lim call (fun _=>callW):=fun fv args s cx c h hne=>⟨0,fun _ _=>hc fv args s cx c h hne⟩
 obtain ⟨n,hn⟩:=Ns this h ho;exact hn n (Nat.le_refl _)
theorem ZV {body xO:Env→St→Out} {keep:List Nat} (hb:∀env s o,body env s=o→o≠.fail→xO env s=o):
  ∀(N:Nat) {env:Env} {s:St} {o:Out},wU body keep N env s=o→o≠.fail→ig xO keep env s=o
 | 0,env,s,o,h,ho=>absurd h.symm ho
 | N+1,env,s,o,h,ho=>by
  simp only [wU] at h;rw [Ko]
  cases hx:body (jd env keep) s with
  | fail=>rw [hx] at h;exact absurd h.symm ho
  | norm env' s'=>
   rw [hx] at h;rw [hb _ _ _ hx (by simp)];exact ZV hb N h ho
  | _=>rw [hb _ _ _ hx (by simp)];rw [hx] at h;exact h
theorem Wh {body xO:Env→St→Out} {l:Nat} {keep:List Nat} (hb:∀env s o,body env s=o→o≠.fail→xO env s=o):
  ∀(N:Nat) {env:Env} {s:St} {o:Out},qg body l keep N env s=o→o≠.fail→LC xO l keep env s=o
 | 0,env,s,o,h,ho=>absurd h.symm ho
 | N+1,env,s,o,h,ho=>by
  simp only [qg] at h;rw [aaM]
  cases hx:body (jd env keep) s with
  | fail=>rw [hx] at h;exact absurd h.symm ho
  | goto l' env' s'=>
   rw [hx] at h;rw [hb _ _ _ hx (by simp)];simp only [Out.jmp] at h ⊢
   split at h
   ·rename_i hl;simp only [hl,if_true];exact Wh hb N h ho
   ·exact absurd h.symm ho
  | _=>rw [hb _ _ _ hx (by simp)];rw [hx] at h;exact h
theorem oz (hc:BZ call callW) (ro:Bool) (N:Nat):∀(c:bH) (env:Env) (s:St) (o:Out),bF glob call cx ro N c env s=o→o≠.fail→aC glob callW cx ro c env s=o
 | .skip,env,s,o,h,ho=>by simpa [bF,aC] using h
 | .ret,env,s,o,h,ho=>by simpa [bF,aC] using h
 | .exit id,env,s,o,h,ho=>by simpa [bF,aC] using h
 | .region ops ord keep,env,s,o,h,ho=>by
  simp only [bF,aC] at h ⊢
  cases hx:rC glob call cx ops env s ord with
  | fail=>rw [hx] at h;exact absurd h.symm ho
  | _=>rw [aaN hc hx (by simp)];rw [hx] at h;exact h
 | .seq a b,env,s,o,h,ho=>by
  simp only [bF,aC] at h ⊢
  cases hx:bF glob call cx ro N a env s with
  | fail=>rw [hx] at h;exact absurd h.symm ho
  | norm env' s'=>
   rw [hx] at h;rw [oz hc ro N a _ _ _ hx (by simp)];exact oz hc ro N b _ _ _ h ho
  | _=>rw [oz hc ro N a _ _ _ hx (by simp)];rw [hx] at h;exact h
 | .cond c a b,env,s,o,h,ho=>by
  simp only [bF,aC] at h ⊢;unfold aem
  split at h
  ·rename_i hx;rw [hx];simpa using oz hc ro N a _ _ _ h ho
  ·rename_i hx;rw [hx];simpa using oz hc ro N b _ _ _ h ho
  ·exact absurd h.symm ho
 | .block id b,env,s,o,h,ho=>by
  simp only [bF,aC] at h ⊢
  cases hx:bF glob call cx ro N b env s with
  | fail=>rw [hx] at h;exact absurd h.symm ho
  | _=>rw [oz hc ro N b _ _ _ hx (by simp)];rw [hx] at h;exact h
 | .loop keep b,env,s,o,h,ho=>by
  simp only [bF,aC] at h ⊢;exact ZV (oz hc ro N b) N h ho
 | .range f ps asg body,env,s,o,h,ho=>by
  simp only [bF,aC] at h ⊢
  split at h
  ·exact absurd h.symm ho
  ·rename_i hro;simp only [hro];unfold ES
   split at h
   ·rename_i ff as cs hx;rw [hx]
    cases hy:call (.fn ff as cs) [.yl (s.length+1)] (s++[.dfr,.loop (rE env) ps asg body .ready]) cx with
    | fail=>rw [hy] at h;exact absurd h.symm ho
    | _=>
     have:=hc _ _ _ _ _ hy (by simp)
     rw [hy] at h
     simpa [this] using h
   ·exact absurd h.symm ho
 | .label l,env,s,o,h,ho=>by simpa [bF,aC] using h
 | .goto l,env,s,o,h,ho=>by simpa [bF,aC] using h
 | .scope l keep a b,env,s,o,h,ho=>by
  simp only [bF,aC] at h ⊢
  cases hx:bF glob call cx ro N a env s with
  | fail=>rw [hx] at h;exact absurd h.symm ho
  | goto l' env' s'=>
   rw [hx] at h;rw [oz hc ro N a _ _ _ hx (by simp)];simp only [Out.jmp] at h ⊢
   split at h
   ·rename_i hl;simp only [hl,if_true];exact Wh (oz hc ro N b) N h ho
   ·exact absurd h.symm ho
  | _=>rw [oz hc ro N a _ _ _ hx (by simp)];rw [hx] at h;exact h
theorem abZ (hc:BZ call callW) {N:Nat} {fn:bU} {args:List AV} {s:St} {o:CO} (h:wO glob call N fn args s cx=o) (ho:o≠.fail):af glob callW fn args s cx=o:=by
 unfold wO at h;unfold af
 split at h
 ·rename_i hnp;simp only [hnp,if_true]
  cases hx:bF glob call ⟨if fn.pure then s.length else cx.lim,if fn.keep then cx.base else s.length⟩ fn.keep N fn.code (xJ args 0) s with
  | fail=>rw [hx] at h;exact absurd h.symm ho
  | _=>rw [oz hc _ N _ _ _ _ hx (by simp)];rw [hx] at h;exact h
 ·exact absurd h.symm ho
theorem adg (hc:BZ call callW) {N:Nat} {m:Option bH} {env:Env} {s:St} {o:Out} (h:BR glob call cx N m env s=o) (ho:o≠.fail):WO glob callW cx m env s=o:=by
 cases m with
 | none=>exact h
 | some c=>exact oz hc _ N _ _ _ _ h ho
theorem Ze (hc:BZ call callW) {N:Nat} {d:Gl} {args:List AV} {s:St} {o:CO} (h:tY glob call N d args s cx=o) (ho:o≠.fail):xM glob callW d args s cx=o:=by
 have h1:Lim call (fun _=>callW):=fun fv args s cx c h hne=>⟨0,fun _ _=>hc fv args s cx c h hne⟩;unfold tY at h;unfold xM
 split at h
 ·rename_i hnp;simp only [hnp,if_true]
  cases hxm:mD glob call ⟨cx.lim,s.length⟩ d.pre (xJ args 0) s with
  | norm em sm=>
   obtain ⟨nm,hnm⟩:=Bf h1 _ hxm (by simp);rw [hxm] at h;rw [hnm nm (Nat.le_refl _)];simp only [] at h ⊢
   cases hx:BR glob call ⟨cx.lim,s.length⟩ N d.mid em sm with
   | ret e2 s2=>rw [adg hc hx (by simp)];rw [hx] at h;exact h
   | norm e0 s0=>
    rw [adg hc hx (by simp)];rw [hx] at h;simp only [] at h ⊢
    cases hy:fK glob call ⟨cx.lim,s.length⟩ d.mkc e0 s0 with
    | norm e1 s1=>
     obtain ⟨n1,hn1⟩:=yu h1 hy (by simp);rw [hy] at h;rw [hn1 n1 (Nat.le_refl _)];simp only [] at h ⊢
     split at h
     ·rename_i f caps ls hl hp;simp only [hl,hp]
      split at h
      ·rename_i hcond;rw [if_pos hcond]
       cases hz:bF glob call ⟨cx.lim,s.length⟩ true N d.code e1 s1 with
       | fail=>rw [hz] at h;exact absurd h.symm ho
       | _=>rw [oz hc _ N _ _ _ _ hz (by simp)];rw [hz] at h;exact h
      ·exact absurd h.symm ho
     ·exact absurd h.symm ho
    | _=>rw [hy] at h;exact absurd h.symm ho
   | _=>rw [hx] at h;exact absurd h.symm ho
  | _=>rw [hxm] at h;exact absurd h.symm ho
 ·exact absurd h.symm ho
theorem ace (hc:BZ call callW) {N l:Nat} {args:List AV} {s:St} {o:CO} (h:Aj glob call N l args s cx=o) (ho:o≠.fail):Il glob callW l args s cx=o:=by
 unfold Aj at h;unfold Il
 split at h
 ·rename_i env ps asg body hl;rw [hl];simp only []
  split at h
  ·rename_i hcond;simp only [hcond,and_self,if_true]
   cases hx:bF glob call cx true N asg (Cj env ps args) s with
   | norm env1 s1=>
    rw [oz hc true N _ _ _ _ hx (by simp)];rw [hx] at h;unfold xO;simp only [] at h ⊢
    split at h
    ·rename_i e1 p1 a1 b1 hl1;rw [hl1];simp only []
     cases hy:bF glob call cx true N body env1 (s1.set l (.loop e1 p1 a1 b1 .busy)) with
     | fail=>rw [hy] at h;exact absurd h.symm ho
     | _=>rw [oz hc true N _ _ _ _ hy (by simp)];rw [hy] at h;exact h
    ·exact absurd h.symm ho
   | _=>rw [hx] at h;exact absurd h.symm ho
  ·exact absurd h.symm ho
 ·exact absurd h.symm ho
end
theorem abY {call callW qcall qcallW:AV→List AV→St→Ctx→CO} {cx:Ctx} (hc:BZ call callW) (hq:BZ qcall qcallW) {k:HiK} {args:List AV} {s:St} {o:CO} (h:lT call qcall k args s cx=o) (ho:o≠.fail):
  lT callW qcallW k args s cx=o:=by
 have h1:Lim call (fun _=>callW):=fun fv args s cx c h hne=>⟨0,fun _ _=>hc fv args s cx c h hne⟩;have h2:Lim qcall (fun _=>qcallW):=fun fv args s cx c h hne=>⟨0,fun _ _=>hq fv args s cx c h hne⟩;obtain ⟨n,hn⟩:=Ob h1 h2 h ho;exact hn n (Nat.le_refl _)
theorem MZ:∀(n:Nat) (A:uJ),BZ (jv A n) (aj A)
 | 0,A=>fun fv args s cx c h hne=>by simp only [jv] at h;exact absurd h.symm hne
 | n+1,A=>fun fv args s cx c h hne=>by
  have ih:=MZ n A
  cases fv with
  | fn f as cs=>
   cases f with
   | func fid=>
    simp only [jv] at h
    split at h
    ·rename_i hh hin
     split at h
     ·rename_i r hr;rw [←h];exact rY hin hr
     ·exact absurd h.symm hne
    ·rename_i hin
     split at h
     ·rename_i k hk;exact Nb hin hk hne (abY ih (MZ n A.quiet) h hne)
     ·rename_i hk
      split at h
      ·rename_i d hd;exact RS hin hk hd hne (Ze ih h hne)
      ·rename_i hd
       split at h
       ·rename_i fn hfn;exact UE hin hk hd hfn hne (abZ ih h hne)
       ·exact absurd h.symm hne
   | _=>simp only [jv] at h;exact absurd h.symm hne
  | yl l=>simp only [jv] at h;exact Na hne (ace ih h hne)
  | _=>simp only [jv] at h;exact absurd h.symm hne
theorem aeO (A:uJ) (n:Nat):BZ (jv A n) (aj A):=MZ n A
@[simp] theorem aiV {env:Env} {s:St} {f:Env→St→Out}:(Out.norm env s).thn f=f env s:=rfl
@[simp] theorem akO {env:Env} {s:St} {f:Env→St→Out}:(Out.ret env s).thn f=.ret env s:=rfl
@[simp] theorem aiY {id:Nat} {env:Env} {s:St} {f:Env→St→Out}:(Out.exit id env s).thn f=.exit id env s:=rfl
@[simp] theorem aiX {f:Env→St→Out}:(Out.fail).thn f=.fail:=rfl
@[simp] theorem aho {env:Env} {s:St} {k:Out}:(Out.norm env s).orPan k=.norm env s:=rfl
@[simp] theorem ahp {k:Out}:(Out.fail).orPan k=.fail:=rfl
@[simp] theorem ait {v:AV} {s:St} {k:Out}:(Out.pan v s).orPan k=k:=rfl
@[simp] theorem ah8 {r:AV} {s:St}:(CO.ret r s).toPan=.pan r s:=rfl
@[simp] theorem agY:(CO.fail).toPan=.fail:=rfl
@[simp] theorem alu {id:Nat} {v:AV} {s:St}:(Out.pan v s).blk id=.pan v s:=rfl
@[simp] theorem ali {l:Nat} {v:AV} {s:St} {f:Env→St→Out}:(Out.pan v s).jmp l f=.pan v s:=rfl
@[simp] theorem akP {v:AV} {s:St} {f:Env→St→Out}:(Out.pan v s).thn f=.pan v s:=rfl
@[simp] theorem aiW {l:Nat} {env:Env} {s:St} {f:Env→St→Out}:(Out.goto l env s).thn f=.goto l env s:=rfl
@[simp] theorem akF {id l:Nat} {env:Env} {s:St}:(Out.goto l env s).blk id=.goto l env s:=rfl
@[simp] theorem aj1 {l:Nat} {env:Env} {s:St} {f:Env→St→Out}:(Out.norm env s).jmp l f=.norm env s:=rfl
@[simp] theorem alh {l:Nat} {env:Env} {s:St} {f:Env→St→Out}:(Out.ret env s).jmp l f=.ret env s:=rfl
@[simp] theorem aj6 {l id:Nat} {env:Env} {s:St} {f:Env→St→Out}:(Out.exit id env s).jmp l f=.exit id env s:=rfl
@[simp] theorem aj3 {l:Nat} {f:Env→St→Out}:(Out.fail).jmp l f=.fail:=rfl
@[simp] theorem aj2 {l l':Nat} {env:Env} {s:St} {f:Env→St→Out}:(Out.goto l' env s).jmp l f=if l'=l then f env s else .fail:=rfl
@[simp] theorem akE {id:Nat} {env:Env} {s:St}:(Out.norm env s).blk id=.norm env s:=rfl
@[simp] theorem als {id:Nat} {env:Env} {s:St}:(Out.ret env s).blk id=.ret env s:=rfl
@[simp] theorem akH {id id':Nat} {env:Env} {s:St}:(Out.exit id' env s).blk id=if id'=id then .norm env s else .exit id' env s:=rfl
@[simp] theorem akG {id:Nat}:(Out.fail).blk id=.fail:=rfl
def RO.fin (o:RO) (dst:Option Nat):Out:=
 match o with
 | .fail=>.fail
 | .pan v s=>.pan v s
 | .ok e env s=>match dst with
  | some d=>if e.refers d=true then .fail else .norm (put env d e) s
  | none=>.norm env s
@[simp] theorem alo {e:EV} {env:Env} {s:St} {d:Nat}:(RO.ok e env s).fin (some d)=if e.refers d=true then .fail else .norm (put env d e) s:=rfl
@[simp] theorem al9 {e:EV} {env:Env} {s:St}:(RO.ok e env s).fin none=.norm env s:=rfl
@[simp] theorem aln {v:AV} {s:St} {d:Option Nat}:(RO.pan v s).fin d=.pan v s:=rfl
@[simp] theorem ake {d:Option Nat}:(RO.fail).fin d=.fail:=rfl
def Nr (dst:Option Nat) (env:Env) (s:St):Out:=
 match dst with
 | some d=>.norm (put env d (.v (.tu []))) s
 | none=>.norm env s
@[simp] theorem ag9 {d:Nat} {env:Env} {s:St}:Nr (some d) env s=.norm (put env d (.v (.tu []))) s:=rfl
@[simp] theorem aha {env:Env} {s:St}:Nr none env s=.norm env s:=rfl
def agI (ks:List Nat) (env:Env) (s:St):Out:=.norm (jd env ks) s
@[simp] theorem aj0 {ks:List Nat} {env:Env} {s:St}:agI ks env s=.norm (jd env ks) s:=rfl
section
variable (glob:Nat→Option (List AV)) (call:AV→List AV→St→Ctx→CO) (cx:Ctx)
def opT (dst:Option Nat) (op:AOp) (env:Env) (s:St):Out:=(aop glob call cx env s op).fin dst
def opF (dst:Option Nat) (env:Env) (s:St):Out:=Nr dst env s
def gdD (x:Option EV) (w:Bool) (dst:Option Nat) (op:AOp) (env:Env) (s:St):Out:=
 match x with
 | some (.v (.b x))=>if x=true then (match w with|true=>opT glob call cx dst op env s|false=>opF dst env s) else (match w with|true=>opF dst env s|false=>opT glob call cx dst op env s)
 | some (.v (.tu []))=>Nr dst env s
 | _=>.fail
noncomputable def cdT (ro:Bool) (a:bH) (env:Env) (s:St):Out:=aC glob call cx ro a env s
noncomputable def XL (ro:Bool) (x:Option AV) (a b:bH) (env:Env) (s:St):Out:=
 match x with
 | some (.b x)=>if x=true then cdT glob call cx ro a env s else cdT glob call cx ro b env s
 | _=>.fail
end
section
variable {glob:Nat→Option (List AV)} {call:AV→List AV→St→Ctx→CO} {cx:Ctx} {ro:Bool}
theorem gy {dst:Option Nat} {op:AOp} {env:Env} {s:St}:opT glob call cx dst op env s=(aop glob call cx env s op).fin dst:=rfl
theorem gB {dst:Option Nat} {env:Env} {s:St}:opF dst env s=Nr dst env s:=rfl
theorem gJ {a:bH} {env:Env} {s:St}:cdT glob call cx ro a env s=aC glob call cx ro a env s:=rfl
@[simp] theorem al0 {x:Bool} {dst:Option Nat} {op:AOp} {env:Env} {s:St}:
  gdD glob call cx (some (.v (.b x))) true dst op env s=if x=true then opT glob call cx dst op env s else opF dst env s:=rfl
@[simp] theorem al1 {x:Bool} {dst:Option Nat} {op:AOp} {env:Env} {s:St}:
  gdD glob call cx (some (.v (.b x))) false dst op env s=if x=true then opF dst env s else opT glob call cx dst op env s:=rfl
@[simp high] theorem alY {dst:Option Nat} {op:AOp} {env:Env} {s:St}:gdD glob call cx (some (.v (.b true))) true dst op env s=(aop glob call cx env s op).fin dst:=rfl
@[simp high] theorem al5 {dst:Option Nat} {op:AOp} {env:Env} {s:St}:gdD glob call cx (some (.v (.b false))) false dst op env s=(aop glob call cx env s op).fin dst:=rfl
@[simp high] theorem alZ {dst:Option Nat} {op:AOp} {env:Env} {s:St}:gdD glob call cx (some (.v (.b true))) false dst op env s=Nr dst env s:=rfl
@[simp high] theorem al4 {dst:Option Nat} {op:AOp} {env:Env} {s:St}:gdD glob call cx (some (.v (.b false))) true dst op env s=Nr dst env s:=rfl
@[simp] theorem alX {w:Bool} {dst:Option Nat} {op:AOp} {env:Env} {s:St}:gdD glob call cx (some (.v (.tu []))) w dst op env s=Nr dst env s:=rfl
@[simp high] theorem al2 {x:Bool} {dst:Option Nat} {op:AOp} {env:Env} {s:St}:
  gdD glob call cx (some (.v (.b (!x)))) true dst op env s=gdD glob call cx (some (.v (.b x))) false dst op env s:=by cases x<;>rfl
@[simp high] theorem al3 {x:Bool} {dst:Option Nat} {op:AOp} {env:Env} {s:St}:
  gdD glob call cx (some (.v (.b (!x)))) false dst op env s=gdD glob call cx (some (.v (.b x))) true dst op env s:=by cases x<;>rfl
@[simp high] theorem akk {x:Bool} {a b:bH} {env:Env} {s:St}:
  XL glob call cx ro (some (.b (!x))) a b env s=XL glob call cx ro (some (.b x)) b a env s:=by cases x<;>rfl
@[simp] theorem aiE {x:Bool} {a b:bH} {env:Env} {s:St}:
  XL glob call cx ro (some (.b x)) a b env s=if x=true then cdT glob call cx ro a env s else cdT glob call cx ro b env s:=rfl
@[simp high] theorem aiD {a b:bH} {env:Env} {s:St}:XL glob call cx ro (some (.b true)) a b env s=aC glob call cx ro a env s:=rfl
@[simp high] theorem ahL {a b:bH} {env:Env} {s:St}:XL glob call cx ro (some (.b false)) a b env s=aC glob call cx ro b env s:=rfl
@[simp] theorem Yq {dst:Option Nat} {op:AOp} {env:Env} {s:St}:
  fK glob call cx ⟨dst,none,op⟩ env s=(aop glob call cx env s op).fin dst:=by
 simp only [fK,gU]
 cases aop glob call cx env s op<;>rfl
@[simp] theorem Yp {dst:Option Nat} {op:AOp} {k:Nat} {w:Bool} {env:Env} {s:St}:
  fK glob call cx ⟨dst,some (k,w),op⟩ env s=gdD glob call cx (lk env k) w dst op env s:=by
 simp only [fK,gU]
 cases h:lk env k with
 | none=>rfl
 | some e=>
  cases e with
  | v a=>
   cases a with
   | b x=>
    cases x<;>cases w<;>first|rfl | (simp only [gdD,opT];cases aop glob call cx env s op<;>rfl)
   | tu cs=>cases cs<;>rfl
   | _=>rfl
  | _=>rfl
@[simp] theorem ahd {env:Env} {s:St}:mD glob call cx [] env s=.norm env s:=rfl
@[simp] theorem agD {o:aI} {r:List aI} {env:Env} {s:St}:mD glob call cx (o::r) env s=(fK glob call cx o env s).thn (mD glob call cx r):=by
 simp only [mD];cases fK glob call cx o env s<;>rfl
@[simp] theorem agK {env:Env} {s:St}:aC glob call cx ro .skip env s=.norm env s:=by simp [aC]
@[simp] theorem ah3 {env:Env} {s:St}:aC glob call cx ro .ret env s=.ret env s:=by simp [aC]
@[simp] theorem agN {id:Nat} {env:Env} {s:St}:aC glob call cx ro (.exit id) env s=.exit id env s:=by simp [aC]
@[simp] theorem aeY {ops:List aI} {ord:Option (List Nat×List Nat)} {keep:List Nat} {env:Env} {s:St}:
  aC glob call cx ro (.region ops ord keep) env s=(rC glob call cx ops env s ord).thn (agI keep):=by simp only [aC]<;>rfl
@[simp] theorem ah2 {a b:bH} {env:Env} {s:St}:aC glob call cx ro (.seq a b) env s=(aC glob call cx ro a env s).thn (aC glob call cx ro b):=by simp only [aC]
@[simp] theorem agO {c:IX} {a b:bH} {env:Env} {s:St}:aC glob call cx ro (.cond c a b) env s=XL glob call cx ro (rd glob env c) a b env s:=by
 first | (simp only [aC,aem,XL,cdT];done) | (simp only [aC,aem,XL,cdT];rcases h:rd glob env c with _|a<;>first|rfl | (cases a<;>rfl))
@[simp] theorem agn {id:Nat} {b:bH} {env:Env} {s:St}:aC glob call cx ro (.block id b) env s=(aC glob call cx ro b env s).blk id:=by simp only [aC]
@[simp] theorem agL {keep:List Nat} {b:bH} {env:Env} {s:St}:aC glob call cx ro (.loop keep b) env s=ig (aC glob call cx ro b) keep env s:=by simp only [aC]
@[simp] theorem agl {f:IX} {ps:List Nat} {asg body:bH} {env:Env} {s:St}:aC glob call cx false (.range f ps asg body) env s=ES (rd glob env f) call cx ps asg body env s:=by simp [aC]
@[simp] theorem agm {l:Nat} {env:Env} {s:St}:aC glob call cx ro (.label l) env s=.norm env s:=by simp only [aC]
@[simp] theorem agM {l:Nat} {env:Env} {s:St}:aC glob call cx ro (.goto l) env s=.goto l env s:=by simp only [aC]
@[simp] theorem agk {l:Nat} {keep:List Nat} {a b:bH} {env:Env} {s:St}:aC glob call cx ro (.scope l keep a b) env s=(aC glob call cx ro a env s).jmp l (LC (aC glob call cx ro b) l keep):=by simp only [aC]
@[simp] theorem akS {x:IX} {env:Env} {s:St}:aop glob call cx env s (.mov x)=match ev glob env x,x with
  | some (.om es),.t k=>.ok (.v (.im es)) ((k,.v (.im es))::(k,.v .u)::sD env k) s
  | _,_=>match J8 glob env x with
   | some e=>.ok e env s
   | none=>.fail:=rfl
@[simp] theorem ak5 {x:IX} {env:Env} {s:St}:aop glob call cx env s (.asg x)=match ev glob env x,x with
  | some (.own tip t sz es),.t k=>.ok (.own tip t sz es) ((k,.v .u)::sD env k) s
  | _,_=>match KR glob env x with
   | some (a,env)=>.ok (.v a) env s
   | none=>match J8 glob env x with
    | some e=>.ok e env s
    | none=>.fail:=rfl
@[simp] theorem akZ {x:IX} {env:Env} {s:St}:aop glob call cx env s (.cpy x)=match esc glob env x with
  | some (a,env)=>.ok (.v a) env s
  | none=>.fail:=rfl
@[simp] theorem ai5 {t:Nat} {sz:Nat} {env:Env} {s:St}:aop glob call cx env s (.nbuf t sz)=if 0<sz then .ok (.own false t sz []) env s else .fail:=rfl
@[simp] theorem ai4 {c:IX} {a:IX} {b:IX} {env:Env} {s:St}:aop glob call cx env s (.pick c a b)=match rd glob env c with
  | some (.b x)=>okv env s (rd glob env (if x then a else b))
  | _=>.fail:=rfl
@[simp] theorem ajf {x:IX} {env:Env} {s:St}:aop glob call cx env s (.lbox x)=match esc glob env x with
  | some (a,env)=>if a.cells.all AV.one then .ok (.bx a.cells) env s else .fail
  | none=>.fail:=rfl
@[simp] theorem ag3 {zs:List AV} {env:Env} {s:St}:aop glob call cx env s (.lalloc zs)=.ok (.bx zs) env s:=rfl
@[simp] theorem ajm {x:IX} {env:Env} {s:St}:aop glob call cx env s (.hbox x)=match esc glob env x with
  | some (a,env)=>if a.cells.all AV.one then .ok (.v (.pt s.length 0)) env (s++[.cells a.cells]) else .fail
  | none=>.fail:=rfl
@[simp] theorem ag4 {zs:List AV} {env:Env} {s:St}:aop glob call cx env s (.halloc zs)=.ok (.v (.pt s.length 0)) env (s++[.cells zs]):=rfl
@[simp] theorem aja {n:Option Nat} {a:IX} {env:Env} {s:St}:aop glob call cx env s (.load n a)=okv env s (kT glob env s n a):=rfl
@[simp] theorem aij {d:Nat} {n:Option Nat} {a:IX} {env:Env} {s:St}:aop glob call cx env s (.loadp d n a)=match lk env d,ev glob env a with
  | none,some (.v _)=>okv env s (kT glob env s n a)
  | _,_=>.fail:=rfl
@[simp] theorem aia {n:Nat} {a:IX} {x:IX} {env:Env} {s:St}:aop glob call cx env s (.store n a x)=match KR glob env x with
  | some (v,env)=>match tq glob cx env s n a v with
   | some (env,s)=>.ok (.v (.tu [])) env s
   | none=>.fail
  | none=>.fail:=rfl
@[simp] theorem akX {off:Nat} {a:IX} {env:Env} {s:St}:aop glob call cx env s (.fld off a)=match addr glob env off a with
  | some e=>.ok e env s
  | none=>.fail:=rfl
@[simp] theorem aji {len:Nat} {sz:Nat} {x:IX} {i:IX} {env:Env} {s:St}:aop glob call cx env s (.idxa len sz x i)=match rd glob env i with
  | some (.i _ n)=>if 0≤n∧n.toNat<len then
    (match addr glob env (n.toNat * sz) x with
     | some e=>.ok e env s
     | none=>.fail) else .fail
  | _=>.fail:=rfl
@[simp] theorem ajn {off:Nat} {n:Option Nat} {x:IX} {env:Env} {s:St}:aop glob call cx env s (.getf off n x)=match rd glob env x with
  | some (.ag cs)=>okv env s (part cs off n)
  | _=>.fail:=rfl
@[simp] theorem ajg {len:Nat} {sz:Nat} {n:Option Nat} {x:IX} {i:IX} {env:Env} {s:St}:aop glob call cx env s (.idxv len sz n x i)=match rd glob env x,rd glob env i with
  | some (.ag cs),some (.i _ j)=>if 0≤j∧j.toNat<len then okv env s (part cs (j.toNat * sz) n) else .fail
  | _,_=>.fail:=rfl
@[simp] theorem ajh {x:IX} {i:IX} {env:Env} {s:St}:aop glob call cx env s (.idxs x i)=match rd glob env x,rd glob env i with
  | some (.s l),some (.i _ j)=>match l[j.toNat]? with
   | some c=>if 0≤j then .ok (.v (.i .u8 c.toNat)) env s else .fail
   | none=>.fail
  | _,_=>.fail:=rfl
@[simp] theorem ak2 {op:BinOp} {x:IX} {y:IX} {env:Env} {s:St}:aop glob call cx env s (.bin op x y)=match rd glob env x,rd glob env y with
  | some a,some b=>okv env s (aan op a b)
  | _,_=>.fail:=rfl
@[simp] theorem ak3 {neg:Bool} {x:IX} {y:IX} {env:Env} {s:St}:aop glob call cx env s (.beq neg x y)=match rd glob env x,rd glob env y with
  | some (.b a),some (.b b)=>.ok (.v (.b (if neg then !(a == b) else a == b))) env s
  | _,_=>.fail:=rfl
@[simp] theorem akV {neg:Bool} {ks:List Nat} {x:IX} {y:IX} {env:Env} {s:St}:aop glob call cx env s (.ieq neg ks x y)=match rd glob env x,rd glob env y with
  | some (.ag a),some (.ag b)=>match QE ks a b with
   | some r=>.ok (.v (.b (if neg then !r else r))) env s
   | none=>.fail
  | _,_=>.fail:=rfl
@[simp] theorem aic {neg:Bool} {k:Nat} {x:IX} {env:Env} {s:St}:aop glob call cx env s (.nileq neg k x)=match rd glob env x with
  | some a=>match Sz k a with
   | some n=>.ok (.v (.b (if neg then !n else n))) env s
   | none=>.fail
  | none=>.fail:=rfl
@[simp] theorem alv {op:UnOp} {x:IX} {env:Env} {s:St}:aop glob call cx env s (.un op x)=match rd glob env x with
  | some a=>okv env s (afa op a)
  | _=>.fail:=rfl
@[simp] theorem ah9 {k:IntKind} {x:IX} {env:Env} {s:St}:aop glob call cx env s (.toInt k x)=match rd glob env x with
  | some (.i _ n)=>.ok (.v (.i k (k.wrap n))) env s
  | _=>.fail:=rfl
@[simp] theorem akR {x:IX} {env:Env} {s:St}:aop glob call cx env s (.s2b x)=match rd glob env x with
  | some (.s l)=>.ok (.v (.sl (aF l))) env s
  | _=>.fail:=rfl
@[simp] theorem ak4 {x:IX} {env:Env} {s:St}:aop glob call cx env s (.b2s x)=match elems glob env x with
  | some es=>okv env s ((es.mapM byteOf).map .s)
  | none=>.fail:=rfl
@[simp] theorem ai3 {x:IX} {env:Env} {s:St}:aop glob call cx env s (.same x)=match rd glob env x with
  | some (.s l)=>.ok (.v (.s l)) env s
  | _=>.fail:=rfl
@[simp] theorem aie {x:IX} {env:Env} {s:St}:aop glob call cx env s (.markk x)=match x with
  | .t k=>match lk env k with
   | some (.own _ t sz es)=>if 0<es.length then .ok (.al k) ((k,.own true t sz es)::env) s else .fail
   | _=>.fail
  | _=>.fail:=rfl
@[simp] theorem ai8 {x:IX} {env:Env} {s:St}:aop glob call cx env s (.mark x)=match x with
  | .t k=>match lk env k with
   | some (.own _ _ _ es)=>if 0<es.length then .ok (.v (.sl es)) ((k,.v .u)::sD env k) s else .fail
   | _=>.fail
  | _=>.fail:=rfl
@[simp] theorem aim {zs:List AV} {ps:List (Nat×Nat×IX)} {env:Env} {s:St}:aop glob call cx env s (.build zs ps)=match zo glob env (ps.map (·.2.2)) with
  | some (vs,env)=>
   if (ps.zip vs).all (fun p=>p.2.cells.length == p.1.2.1 && p.2.cells.all AV.one) then
    okv env s ((dU zs ((ps.zip vs).map fun p=>(p.1.1,p.2.cells))).map .ag) else .fail
  | none=>.fail:=rfl
@[simp] theorem ak0 {own:Bool} {t:Nat} {sz:Nat} {len:Nat} {zs:List AV} {ps:List (Nat×IX)} {env:Env} {s:St}:aop glob call cx env s (.bsl own t sz len zs ps)=match zo glob env (ps.map (·.2)) with
  | some (vs,env)=>
   if len * sz≤16777216∧ps.map (·.1)=List.range len∧vs.all (fun v=>v.cells.length == sz && v.cells.all AV.one)∧zs.length=sz then
    (if own then (if 0<sz then .ok (.own false t sz vs) env s else .fail) else .ok (.v (.sl vs)) env s) else .fail
  | none=>.fail:=rfl
@[simp] theorem ak6 {t:Nat} {sz:Nat} {x:IX} {y:IX} {env:Env} {s:St}:aop glob call cx env s (.app t sz x y)=match elems glob env y,vC env x with
  | some ys,some k=>match lk env k with
   | some (.own tip t' sz' es)=>
    if t=t'∧sz=sz'∧(ys.all fun e=>e.cells.length == sz)∧es.length+ys.length≤aQ∧vC env y≠some k then
     .ok (.own tip t sz (es++ys)) ((k,.v .u)::sD env k) s else .fail
   | _=>.fail
  | some ys,none=>match rd glob env x with
   | some .ns=>if 0<sz∧(ys.all fun e=>e.cells.length == sz)∧ys.length≤aQ then .ok (.own false t sz ys) env s else .fail
   | _=>.fail
  | _,_=>.fail:=rfl
@[simp] theorem aju {t:Nat} {x:IX} {y:IX} {env:Env} {s:St}:aop glob call cx env s (.apps t x y)=match rd glob env y,vC env x with
  | some (.s l),some k=>match lk env k with
   | some (.own tip t' sz' es)=>if t=t'∧sz'=1∧es.length+l.length≤aQ then .ok (.own tip t 1 (es++aF l)) ((k,.v .u)::sD env k) s else .fail
   | _=>.fail
  | _,_=>.fail:=rfl
@[simp] theorem ajv {t:Nat} {sz:Nat} {x:IX} {y:IX} {env:Env} {s:St}:aop glob call cx env s (.appr t sz x y)=match elems glob env y,ev glob env x with
  | some ys,some (.v .ns)=>
   if 0<sz∧0<ys.length∧(ys.all fun e=>e.cells.length == sz)∧ys.length≤aQ then .ok (.v (.st s.length ys)) env (s++[.row t sz ys.length]) else .fail
  | some ys,some (.v .se)=>
   if 0<sz∧0<ys.length∧(ys.all fun e=>e.cells.length == sz)∧ys.length≤aQ then .ok (.v (.st s.length ys)) env (s++[.row t sz ys.length]) else .fail
  | some ys,some (.v (.st l es))=>match s[l]? with
   | some (.row t' sz' k)=>
    if t=t'∧sz=sz'∧k=es.length∧0<sz∧0<ys.length∧(ys.all fun e=>e.cells.length == sz)∧(es.all fun e=>e.cells.length == sz)∧es.length+ys.length≤aQ∧cx.lim≤l then
     .ok (.v (.st l (es++ys))) env (s.set l (.row t sz (es.length+ys.length))) else .fail
   | _=>.fail
  | _,_=>.fail:=rfl
@[simp] theorem ain {d:Nat} {t:Nat} {sz:Nat} {x:IX} {y:IX} {env:Env} {s:St}:aop glob call cx env s (.apprp d t sz x y)=match lk env d with
  | some _=>.fail
  | none=>match elems glob env y,ev glob env x with
   | some ys,some (.v .ns)=>
    if 0<sz∧0<ys.length∧(ys.all fun e=>e.cells.length == sz)∧ys.length≤aQ then .ok (.v (.st s.length ys)) env (s++[.row t sz ys.length]) else if ys.length=0 then .ok (.v .ns) env s else .fail
   | some ys,some (.v .se)=>
    if 0<sz∧0<ys.length∧(ys.all fun e=>e.cells.length == sz)∧ys.length≤aQ then .ok (.v (.st s.length ys)) env (s++[.row t sz ys.length]) else if ys.length=0 then .ok (.v .se) env s else .fail
   | some ys,some (.v (.st l es))=>match s[l]? with
    | some (.row t' sz' k)=>
     if t=t'∧sz=sz'∧k=es.length∧0<sz∧0<ys.length∧(ys.all fun e=>e.cells.length == sz)∧(es.all fun e=>e.cells.length == sz)∧es.length+ys.length≤aQ∧cx.lim≤l then
      .ok (.v (.st l (es++ys))) env (s.set l (.row t sz (es.length+ys.length))) else if ys.length=0 then .ok (.v (.st l es)) env s else .fail
    | _=>.fail
   | _,_=>.fail:=rfl
@[simp] theorem ajw {t:Nat} {sz:Nat} {x:IX} {y:IX} {env:Env} {s:St}:aop glob call cx env s (.appk t sz x y)=match elems glob env y,ev glob env x with
  | some ys,some (.v .ns)=>
   if 0<sz∧0<ys.length∧(ys.all fun e=>e.cells.length == sz)∧ys.length≤aQ then .ok (.v (.sk s.length 0 sz 0 ys.length)) env (s++[.buf t sz 0 (ys.flatMap AV.cells)]) else .fail
  | some ys,some (.v .se)=>
   if 0<sz∧0<ys.length∧(ys.all fun e=>e.cells.length == sz)∧ys.length≤aQ then .ok (.v (.sk s.length 0 sz 0 ys.length)) env (s++[.buf t sz 0 (ys.flatMap AV.cells)]) else .fail
  | some ys,some (.v (.sk l ver sz2 o m))=>match s[l]? with
   | some (.buf t' sz' ver' cs)=>
    if t=t'∧sz=sz'∧sz2=sz∧ver=ver'∧0<ys.length∧(ys.all fun e=>e.cells.length == sz)∧m+ys.length≤aQ∧o+m * sz≤cs.length∧cx.lim≤l∧(cx.base≤l∨(ys.flatMap AV.cells).all AV.flat=true) then
     .ok (.v (.sk l (ver+1) sz 0 (m+ys.length))) env (s.set l (.buf t sz (ver+1) ((cs.drop o).take (m * sz)++ys.flatMap AV.cells))) else .fail
   | _=>.fail
  | _,_=>.fail:=rfl
@[simp] theorem ajs {t:Nat} {sz:Nat} {zs:List AV} {x:IX} {y:IX} {env:Env} {s:St}:aop glob call cx env s (.appz t sz zs x y)=match ev glob env x,rd glob env y with
  | some (.v .ns),some (.i .i64 n)=>if 0<sz∧zs.length=sz∧0<n∧n.toNat≤16777216 then .ok (.v (.sk s.length 0 sz 0 n.toNat)) env (s++[.buf t sz 0 (List.replicate n.toNat zs).flatten]) else .fail
  | _,_=>.fail:=rfl
@[simp] theorem ajp {x:IX} {env:Env} {s:St}:aop glob call cx env s (.capn x)=match ev glob env x with
  | some (.v .ns)=>.ok (.v (.i .i64 0)) env s
  | _=>.fail:=rfl
@[simp] theorem ajx {t:Nat} {sz:Nat} {x:IX} {y:IX} {env:Env} {s:St}:aop glob call cx env s (.appe t sz x y)=match elems glob env y with
  | some []=>(match ev glob env x with
   | some (.v .ns)=>.ok (.v .ns) env s
   | some (.v (.sk l ver sz2 o m))=>.ok (.v (.sk l ver sz2 o m)) env s
   | _=>.fail)
  | _=>aop glob call cx env s (.appk t sz x y):=rfl
@[simp] theorem akT {t:Nat} {sz:Nat} {zs:List AV} {x:IX} {env:Env} {s:St}:aop glob call cx env s (.mks t sz zs x)=match rd glob env x with
  | some (.i _ n)=>if 0<sz∧zs.length=sz∧0≤n∧n.toNat≤16777216 then .ok (.v (.sk s.length 0 sz 0 n.toNat)) env (s++[.buf t sz 0 (List.replicate n.toNat zs).flatten]) else .fail
  | _=>.fail:=rfl
@[simp] theorem ajr {t:Nat} {sz:Nat} {x:IX} {env:Env} {s:St}:aop glob call cx env s (.asgk t sz x)=match ev glob env x,x with
  | some (.own false t' sz' es),.t k=>if t=t'∧sz=sz'∧0<es.length then .ok (.v (.sk s.length 0 sz 0 es.length)) ((k,.v .u)::sD env k) (s++[.buf t sz 0 (es.flatMap AV.cells)]) else .fail
  | _,_=>.fail:=rfl
@[simp] theorem ajo {zs:List AV} {x:IX} {env:Env} {s:St}:aop glob call cx env s (.clrk zs x)=match rd glob env x with
  | some (.sk l ver sz o m)=>(match m,s[l]? with
   | 0,_=>.ok (.v (.tu [])) env s
   | n+1,some (.buf t sz' ver' cs)=>if ver=ver'∧sz=sz'∧0<sz∧zs.length=sz∧o+(n+1) * sz≤cs.length∧cx.lim≤l∧cx.base≤l then
     .ok (.v (.tu [])) env (s.set l (.buf t sz ver (splice cs o (List.replicate (n+1) zs).flatten))) else .fail
   | _,_=>.fail)
  | _=>.fail:=rfl
@[simp] theorem aif {n:Option Nat} {a:IX} {bs:List Nat} {env:Env} {s:St}:aop glob call cx env s (.loadw n a bs)=match ev glob env a with
  | some (.v (.pt l _))=>if Ld env l bs=true then okv env s (kT glob env s n a) else .fail
  | _=>.fail:=rfl
@[simp] theorem aii {a:IX} {k off:Nat} {env:Env} {s:St}:aop glob call cx env s (.loadv a k off)=match ev glob env a,lk env k with
  | some (.v (.pt l o)),some (.v (.pt l' o'))=>if l=l'∧o=o'+off then (match LZ s l o with|some m=>.ok (.v (.mp m)) env s|none=>.fail) else .fail
  | _,_=>.fail:=rfl
@[simp] theorem ail {d:Nat} {f:IX} {args:List IX} {k:Option (Nat×Nat)} {env:Env} {s:St}:aop glob call cx env s (.callh d f args k)=match lk env d with
  | some _=>.fail
  | none=>match rd glob env f,rds glob env args with
   | some fv,some as=>match call fv as s cx with
    | .ret r s1=>if xB env s s1 k=true then .ok (.v r) env s1 else .fail
    | .pan v s=>.pan v s
    | .fail=>.fail
   | _,_=>.fail:=rfl
@[simp] theorem aio {t:Nat} {x:IX} {y:IX} {env:Env} {s:St}:aop glob call cx env s (.appks t x y)=match rd glob env y,ev glob env x with
  | some (.s b),some (.v .ns)=>if 0<b.length∧b.length≤aQ then .ok (.v (.sk s.length 0 1 0 b.length)) env (s++[.buf t 1 0 (aF b)]) else .fail
  | some (.s b),some (.v (.sk l ver sz2 o m))=>(match s[l]? with
   | some (.buf t' sz' ver' cs)=>if t=t'∧sz'=1∧sz2=1∧ver=ver'∧0<b.length∧m+b.length≤aQ∧o+m≤cs.length∧cx.lim≤l then
     .ok (.v (.sk l (ver+1) 1 0 (m+b.length))) env (s.set l (.buf t 1 (ver+1) ((cs.drop o).take m++aF b))) else .fail
   | _=>.fail)
  | _,_=>.fail:=rfl
@[simp] theorem ajt {t:Nat} {sz:Nat} {x:IX} {y:IX} {env:Env} {s:St}:aop glob call cx env s (.appv t sz x y)=match V7 glob env s sz y,ev glob env x with
  | some (0,_),some (.v .se)=>.ok (.v .se) env s
  | some (m+1,cs),some (.v .se)=>if 0<sz∧m+1≤aQ then .ok (.v (.sk s.length 0 sz 0 (m+1))) env (s++[.buf t sz 0 cs]) else .fail
  | _,_=>.fail:=rfl
@[simp] theorem agB {d:Nat} {zs:List AV} {env:Env} {s:St}:aop glob call cx env s (.lallocp d zs)=match lk env d with
  | some _=>.fail
  | none=>.ok (.bx zs) env s:=rfl
@[simp] theorem agZ {n:Nat} {a:IX} {x:IX} {env:Env} {s:St}:aop glob call cx env s (.storep n a x)=match ev glob env a,ev glob env x with
  | some (.v av),some (.v xv)=>match tq glob cx env s n a xv with
   | some (_,s)=>.ok (.v (.tu [])) env s
   | none=>.fail
  | _,_=>.fail:=rfl
@[simp] theorem aik {n:Option Nat} {a:IX} {env:Env} {s:St}:aop glob call cx env s (.loadl n a)=match ev glob env a with
  | some (.bx _)=>okv env s (kT glob env s n a)
  | some (.lp _ _)=>okv env s (kT glob env s n a)
  | some (.v (.ip _))=>okv env s (kT glob env s n a)
  | _=>.fail:=rfl
@[simp] theorem ag0 {n k:Nat} {x:IX} {env:Env} {s:St}:aop glob call cx env s (.storel n k x)=match lk env k,ev glob env x with
  | some (.bx cs),some (.v xv)=>if xv.cells.length=n∧n≠0∧xv.cells.all AV.one=true∧n≤cs.length then .ok (.v (.tu [])) ((k,.bx (splice cs 0 xv.cells))::env) s else .fail
  | _,_=>.fail:=rfl
@[simp] theorem aiZ {d:Nat} {env:Env} {s:St}:aop glob call cx env s (.umap d)=match lk env d with
  | some _=>.fail
  | none=>.ok (.v (.mp s.length)) env (s++[.umap []]):=rfl
@[simp] theorem ai0 {m:IX} {k:IX} {v:IX} {env:Env} {s:St}:aop glob call cx env s (.uins m k v)=match ev glob env m,ev glob env k,ev glob env v with
  | some (.v (.mp l)),some (.v (.s key)),some (.v val)=>match s[l]? with
   | some (.umap es)=>if val.one∧val.flat=true∧cx.lim≤l then .ok (.v (.tu [])) env (s.set l (.umap (agV key val es))) else .fail
   | _=>.fail
  | _,_,_=>.fail:=rfl
@[simp] theorem ak1  {env:Env} {s:St}:aop glob call cx env s (.bse )=.ok (.v .se) env s:=rfl
@[simp] theorem aje {x:IX} {env:Env} {s:St}:aop glob call cx env s (.len 0 x)=match elems glob env x with
  | some es=>.ok (.v (.i .i64 es.length)) env s
  | none=>match rd glob env x with
   | some (.sk _ _ _ _ m)=>.ok (.v (.i .i64 m)) env s
   | _=>.fail:=rfl
@[simp] theorem ajd {x:IX} {env:Env} {s:St}:aop glob call cx env s (.len 1 x)=match rd glob env x with
  | some (.s l)=>.ok (.v (.i .i64 l.length)) env s
  | _=>.fail:=rfl
@[simp] theorem ajc {x:IX} {env:Env} {s:St}:aop glob call cx env s (.len 2 x)=match rd glob env x with
  | some (.im es)=>.ok (.v (.i .i64 es.length)) env s
  | some (.mp l)=>match s[l]? with
   | some (.map es)=>.ok (.v (.i .i64 es.length)) env s
   | _=>.fail
  | some .nm=>.ok (.v (.i .i64 0)) env s
  | _=>.fail:=rfl
@[simp] theorem ajb {n:Nat} {env:Env} {s:St}:aop glob call cx env s (.lenA n)=.ok (.v (.i .i64 n)) env s:=rfl
@[simp] theorem ag2 {isMin:Bool} {x:IX} {y:IX} {env:Env} {s:St}:aop glob call cx env s (.minmax isMin x y)=match rd glob env x,rd glob env y with
  | some (.i k a),some (.i k' b)=>if k=k' then .ok (.v (.i k (if isMin then (if b<a then b else a) else (if b > a then b else a)))) env s else .fail
  | _,_=>.fail:=rfl
@[simp] theorem ai1 {x:IX} {lo:Option IX} {hi:Option IX} {env:Env} {s:St}:aop glob call cx env s (.slcs x lo hi)=match rd glob env x with
  | some (.s cs)=>match bound glob env 0 lo,bound glob env cs.length hi with
   | some l,some h=>if l≤h∧h≤cs.length then .ok (.v (.s ((cs.drop l).take (h - l)))) env s else .fail
   | _,_=>.fail
  | _=>.fail:=rfl
@[simp] theorem akY {x:IX} {i:Nat} {env:Env} {s:St}:aop glob call cx env s (.ext x i)=match rd glob env x with
  | some (.tu cs)=>okv env s (cs[i]?)
  | _=>.fail:=rfl
@[simp] theorem ai7 {f:Fn} {as:List IX} {cs:List IX} {env:Env} {s:St}:aop glob call cx env s (.mkfn f as cs)=match zo glob env as with
  | some (vs,env)=>match zo glob env cs with
   | some (ws,env)=>.ok (.v (.fn f vs ws)) env s
   | none=>.fail
  | none=>.fail:=rfl
@[simp] theorem ai6 {t:Nat} {x:IX} {env:Env} {s:St}:aop glob call cx env s (.mkif t x)=match esc glob env x with
  | some (a,env)=>.ok (.v (.ifc t a)) env s
  | none=>.fail:=rfl
@[simp] theorem ai9 {kk:Nat} {z:AV} {ok:Bool} {m:IX} {k:IX} {env:Env} {s:St}:aop glob call cx env s (.look kk z ok m k)=match rd glob env k with
  | some key=>if 3≤kk∧uf kk key=false then .fail else match (match rd glob env m with
    | some (.im es)=>find kk key es
    | some .nm=>if uf kk key then some none else none
    | some (.mp l)=>match s[l]? with
     | some (.map es)=>find kk key es
     | _=>none
    | _=>none) with
   | some r=>if ok then .ok (.v (.tu [r.getD z,.b r.isSome])) env s else .ok (.v (r.getD z)) env s
   | none=>.fail
  | none=>.fail:=rfl
@[simp] theorem aid  {env:Env} {s:St}:aop glob call cx env s (.mkmap )=.ok (.om []) env s:=rfl
@[simp] theorem akU {kk:Nat} {m:IX} {k:IX} {v:IX} {env:Env} {s:St}:aop glob call cx env s (.ins kk m k v)=match m,zo glob env [k,v] with
  | .t j,some ([key,val],env)=>match lk env j with
   | some (.om es)=>match find kk key es with
    | some none=>if val.one∧uf kk key then .ok (.v (.tu [])) ((j,.om (es++[(key,val)]))::env) s else .fail
    | _=>.fail
   | _=>.fail
  | _,_=>.fail:=rfl
@[simp] theorem ajj  {env:Env} {s:St}:aop glob call cx env s (.hmap )=.ok (.v (.mp s.length)) env (s++[.map []]):=rfl
@[simp] theorem ajk {kk:Nat} {m:IX} {k:IX} {v:IX} {env:Env} {s:St}:aop glob call cx env s (.hins kk m k v)=match rd glob env m,rd glob env k,KR glob env v with
  | some (.mp l),some key,some (val,env)=>match s[l]? with
   | some (.map es)=>match CV kk key val es with
    | some es'=>if val.one∧uf kk key∧cx.lim≤l∧(cx.base≤l∨val.flat=true) then .ok (.v (.tu [])) env (s.set l (.map es')) else .fail
    | none=>.fail
   | _=>.fail
  | _,_,_=>.fail:=rfl
@[simp] theorem ajl {kk:Nat} {m:IX} {k:IX} {env:Env} {s:St}:aop glob call cx env s (.hdel kk m k)=match rd glob env m,rd glob env k with
  | some (.mp l),some key=>match s[l]? with
   | some (.map es)=>match I5 kk key es with
    | some es'=>if uf kk key∧cx.lim≤l then .ok (.v (.tu [])) env (s.set l (.map es')) else .fail
    | none=>.fail
   | _=>.fail
  | _,_=>.fail:=rfl
@[simp] theorem ajq {f:IX} {args:List IX} {env:Env} {s:St}:aop glob call cx env s (.call f args)=match rd glob env f,zo glob env args with
  | some fv,some (as,env)=>match call fv as s cx with
   | .ret r s=>.ok (.v r) env s
   | .pan v s=>.pan v s
   | .fail=>.fail
  | _,_=>.fail:=rfl
@[simp] theorem ag1 {x:IX} {env:Env} {s:St}:aop glob call cx env s (.nilchk x)=match rd glob env x with
  | some (.ip cs)=>.ok (.v (.ip cs)) env s
  | some (.pt l o)=>.ok (.v (.pt l o)) env s
  | _=>.fail:=rfl
@[simp] theorem aib {x:IX} {env:Env} {s:St}:aop glob call cx env s (.panic x)=match esc glob env x with
  | some (.ifc t a,_)=>.pan (.ifc t a) s
  | _=>.fail:=rfl
attribute [simp] rC ev rd lk put jd esc KR zo rds J8 aan Vl UL afa EV.owns EV.refers EV.isRef nX sZ finish xJ kT part sD addr bound vC tq splice rE
@[simp] theorem ajU {env:Env} {s:St} {a:AV}:okv env s (some a)=.ok (.v a) env s:=rfl
@[simp] theorem ajV {env:Env} {s:St}:okv env s none=.fail:=rfl
@[simp] theorem alg {p:Prop} [Decidable p] {env:Env} {s:St} {a b:Option AV}:okv env s (if p then a else b)=if p then okv env s a else okv env s b:=by split<;>rfl
theorem ak {body:Env→St→Out} {keep:List Nat} {env:Env} {s:St} {o:Out} (h:∀K,K=ig body keep→(body (jd env keep) s).thn K=o):ig body keep env s=o:=by
 rw [Ko];exact h _ rfl
@[simp] theorem amv (a b:Int):(a == b)=decide (a=b):=by by_cases h:a=b<;>simp [h]
@[simp] theorem ams (a b:Int):(a != b)=!decide (a=b):=by by_cases h:a=b<;>simp [h]
@[simp] theorem amu (a b:Rl):(a == b)=decide (a=b):=by by_cases h:a=b<;>simp [h]
@[simp] theorem aml {k:IntKind} {n:Int}:(AV.i k n).one=true:=rfl
@[simp] theorem amm {x:Bool}:(AV.b x).one=true:=rfl
@[simp] theorem amk {l:Rl}:(AV.s l).one=true:=rfl
@[simp] theorem alC {l:List AV}:(AV.sl l).one=true:=rfl
@[simp] theorem alL {l:List AV}:(AV.ip l).one=true:=rfl
@[simp] theorem alM {l:List (AV×AV)}:(AV.im l).one=true:=rfl
@[simp] theorem alE {l o:Nat}:(AV.pt l o).one=true:=rfl
@[simp] theorem alK {l:Nat}:(AV.mp l).one=true:=rfl
@[simp] theorem alA {l:Nat}:(AV.yl l).one=true:=rfl
@[simp] theorem alN {f:Fn} {as cs:List AV}:(AV.fn f as cs).one=true:=rfl
@[simp] theorem alf {t:Nat} {v:AV}:(AV.ifc t v).one=true:=rfl
@[simp] theorem alD {l ver sz o n:Nat}:(AV.sk l ver sz o n).one=true:=rfl
@[simp] theorem ako {l ver sz o n:Nat}:(AV.sk l ver sz o n).cells=[.sk l ver sz o n]:=rfl
@[simp] theorem alB {l:Nat} {es:List AV}:(AV.st l es).one=true:=rfl
@[simp] theorem alG:AV.np.one=true:=rfl
@[simp] theorem alH:AV.nm.one=true:=rfl
@[simp] theorem alF:AV.ns.one=true:=rfl
@[simp] theorem alJ:AV.nf.one=true:=rfl
@[simp] theorem alI:AV.ni.one=true:=rfl
@[simp] theorem alq {k:IntKind} {n:Int}:(AV.i k n).cells=[.i k n]:=rfl
@[simp] theorem alr {x:Bool}:(AV.b x).cells=[.b x]:=rfl
@[simp] theorem alp {l:Rl}:(AV.s l).cells=[.s l]:=rfl
@[simp] theorem akn {l:List AV}:(AV.sl l).cells=[.sl l]:=rfl
@[simp] theorem akw {l:List AV}:(AV.ip l).cells=[.ip l]:=rfl
@[simp] theorem akx {l:List (AV×AV)}:(AV.im l).cells=[.im l]:=rfl
@[simp] theorem akp {l o:Nat}:(AV.pt l o).cells=[.pt l o]:=rfl
@[simp] theorem akv {l:Nat}:(AV.mp l).cells=[.mp l]:=rfl
@[simp] theorem akl {l:Nat}:(AV.yl l).cells=[.yl l]:=rfl
@[simp] theorem aky {f:Fn} {as cs:List AV}:(AV.fn f as cs).cells=[.fn f as cs]:=rfl
@[simp] theorem aiG {t:Nat} {v:AV}:(AV.ifc t v).cells=[.ifc t v]:=rfl
@[simp] theorem akz {l:List AV}:(AV.ag l).cells=l:=rfl
@[simp] theorem akm {l:Nat} {es:List AV}:(AV.st l es).cells=[.st l es]:=rfl
@[simp] theorem akr:AV.np.cells=[.np]:=rfl
@[simp] theorem aks:AV.nm.cells=[.nm]:=rfl
@[simp] theorem akq:AV.ns.cells=[.ns]:=rfl
@[simp] theorem aku:AV.nf.cells=[.nf]:=rfl
@[simp] theorem akt:AV.ni.cells=[.ni]:=rfl
@[simp] theorem al7 {k:IntKind} {n:Int}:(AV.i k n).flat=true:=rfl
@[simp] theorem al8 {x:Bool}:(AV.b x).flat=true:=rfl
@[simp] theorem al6 {l:Rl}:(AV.s l).flat=true:=rfl
@[simp] theorem ah0 {body:bH} {l:Nat} {env:Env} {s1:St}:xO glob call cx body l (.norm env s1)=match s1[l]? with
  | some (.loop e1 p1 a1 b1 .ready)=>Gx l (aC glob call cx true body env (s1.set l (.loop e1 p1 a1 b1 .busy)))
  | _=>.fail:=rfl
@[simp] theorem afS {l:Nat} {env:Env} {s2:St}:Gx l (.norm env s2)=rV s2 l .ready true:=rfl
@[simp] theorem agJ {l:Nat} {env:Env} {s2:St}:Gx l (.ret env s2)=rV s2 l .ret false:=rfl
@[simp] theorem afT {l id:Nat} {env:Env} {s2:St}:Gx l (.exit id env s2)=rV s2 l (.exit id) false:=rfl
@[simp] theorem aiv {pure keep:Bool} {s s1:St} {res:List RV} {env:Env}:endW glob pure keep s res (.norm env s1)=match nX glob env s1 res with
  | some rs=>finish pure keep s s1 (sZ rs)
  | none=>.fail:=rfl
@[simp] theorem akg {pure keep:Bool} {s s1:St} {res:List RV} {v:AV}:endW glob pure keep s res (.pan v s1)=(finish pure keep s s1 v).toPan:=rfl
@[simp] theorem akf {pure keep:Bool} {s s1:St} {res:List RV} {env:Env}:endW glob pure keep s res (.ret env s1)=match nX glob env s1 res with
  | some rs=>finish pure keep s s1 (sZ rs)
  | none=>.fail:=rfl
end
end Go.Ai
namespace Go.Ai
def slf (z:Bool) (es:List AV):AV:=
 match z,es with
 | true,[]=>.ns
 | _,es=>.sl es
@[simp] theorem aip (es:List AV):slf false es=.sl es:=by cases es<;>rfl
@[simp] theorem ak9:slf true []=.ns:=rfl
@[simp] theorem ajM (z:Bool) (e:AV) (es:List AV):slf z (e::es)=.sl (e::es):=by cases z<;>rfl
theorem yj (z:Bool) (es:List AV):slf z es=.sl es∨(slf z es=.ns∧es=[]):=by
 cases z<;>cases es<;>simp
@[simp] theorem aiF (z:Bool) (es:List AV):(slf z es).cells=[slf z es]:=by rcases yj z es with h|⟨h,_⟩<;>rw [h]<;>rfl
@[simp] theorem ale (z:Bool) (es:List AV):(slf z es).one=true:=by rcases yj z es with h|⟨h,_⟩<;>rw [h]<;>rfl
@[simp] theorem LJ (z:Bool) (es:List AV):(slf z es).plain=slf z es:=by rcases yj z es with h|⟨h,_⟩<;>rw [h]<;>rfl
@[simp] theorem ahm (z:Bool) (es:List AV):(slf z es).plain1=slf z es:=by rcases yj z es with h|⟨h,_⟩<;>rw [h]<;>rfl
section
variable {glob:Nat→Option (List AV)} {call:AV→List AV→St→Ctx→CO} {cx:Ctx}
def vH (env:Env):Option EV→Option (List AV)
 | some (.v (.sl es))=>some es
 | some (.v (.st _ es))=>some es
 | some (.v .ns)=>some []
 | some (.v .se)=>some []
 | some (.v .sz)=>some []
 | some (.own _ _ _ es)=>some es
 | some (.al j)=>match lk env j with
  | some (.own _ _ _ es)=>some es
  | _=>none
 | _=>none
@[simp] theorem akh {env:Env} {x:IX}:elems glob env x=vH env (ev glob env x):=by unfold elems vH;rfl
@[simp] theorem aiy {env:Env} {es:List AV}:vH env (some (.v (.sl es)))=some es:=rfl
@[simp] theorem aix {env:Env} {l:Nat} {es:List AV}:vH env (some (.v (.st l es)))=some es:=rfl
@[simp] theorem aiA {env:Env}:vH env (some (.v .se))=some []:=rfl
@[simp] theorem aiw {env:Env}:vH env (some (.v .sz))=some []:=rfl
@[simp] theorem aiB {env:Env}:vH env (some (.v .ns))=some []:=rfl
@[simp] theorem ahH {env:Env} {z:Bool} {es:List AV}:vH env (some (.v (slf z es)))=some es:=by
 rcases yj z es with h|⟨h,h'⟩
 ·rw [h];rfl
 ·rw [h,h'];rfl
@[simp] theorem ahJ {env:Env} {t sz:Nat} {tip:Bool} {es:List AV}:vH env (some (.own tip t sz es))=some es:=rfl
@[simp] theorem aiC {env:Env} {j:Nat}:vH env (some (.al j))=match lk env j with
  | some (.own _ _ _ es)=>some es
  | _=>none:=rfl
def adL (env:Env) (s:St) (sz:Nat) (v:Option AV) (n:Int):RO:=
 match v with
 | some (.sl es)=>match es[n.toNat]? with
  | some e=>if 0≤n∧e.cells.length=sz then .ok (.v (.ip e.cells)) env s else .fail
  | none=>.fail
 | some (.sk l ver sz' o m)=>if sz=sz'∧0≤n∧n.toNat<m then .ok (.v (.sp l ver (o+n.toNat * sz))) env s else .fail
 | _=>.fail
@[simp] theorem alk {env:Env} {s:St} {sz l ver sz' o m:Nat} {n:Int}:adL env s sz (some (.sk l ver sz' o m)) n=if sz=sz'∧0≤n∧n.toNat<m then .ok (.v (.sp l ver (o+n.toNat * sz))) env s else .fail:=rfl
def aj9 (env:Env) (s:St) (sz:Nat) (k:Nat) (e:Option EV) (n:Int):RO:=
 match e with
 | some (.own _ _ sz' es)=>if sz=sz'∧0≤n∧n.toNat<es.length then .ok (.ep k sz n.toNat 0) env s else .fail
 | _=>.fail
@[simp] theorem akW {sz:Nat} {x i:IX} {env:Env} {s:St}:aop glob call cx env s (.idx sz x i)=match rd glob env i with
  | some (.i _ n)=>match vC env x with
   | some k=>aj9 env s sz k (lk env k) n
   | none=>adL env s sz (rd glob env x) n
  | _=>.fail:=rfl
@[simp] theorem aj8 {env:Env} {s:St} {sz k t sz':Nat} {tip:Bool} {es:List AV} {n:Int}:
  aj9 env s sz k (some (.own tip t sz' es)) n=if sz=sz'∧0≤n∧n.toNat<es.length then .ok (.ep k sz n.toNat 0) env s else .fail:=rfl
@[simp] theorem alj {env:Env} {s:St} {sz:Nat} {es:List AV} {n:Int}:adL env s sz (some (.sl es)) n=match es[n.toNat]? with
  | some e=>if 0≤n∧e.cells.length=sz then .ok (.v (.ip e.cells)) env s else .fail
  | none=>.fail:=rfl
@[simp] theorem aj7 {env:Env} {s:St} {sz:Nat} {z:Bool} {es:List AV} {n:Int}:adL env s sz (some (slf z es)) n=adL env s sz (some (.sl es)) n:=by
 rcases yj z es with h|⟨h,h'⟩<;>rw [h]
 subst h';rfl
def acB (glob:Nat→Option (List AV)) (sz:Nat) (lo hi:Option IX) (s:St):Option (AV×Env)→RO
 | some (.sl es,env)=>match bound glob env 0 lo,bound glob env es.length hi with
   | some l,some h=>if l≤h∧h≤es.length∧(es.all fun e=>e.cells.length == sz) then .ok (.v (.sl ((es.drop l).take (h - l)))) env s else .fail
   | _,_=>.fail
 | some (.ns,env)=>match bound glob env 0 lo,bound glob env 0 hi with
   | some 0,some 0=>.ok (.v .ns) env s
   | _,_=>.fail
 | some (.sk k ver sz' o m,env)=>match bound glob env 0 lo,bound glob env m hi with
   | some l,some h=>if sz=sz'∧l≤h∧h≤m then .ok (.v (.sk k ver sz (o+l * sz) (h - l))) env s else .fail
   | _,_=>.fail
 | _=>.fail
@[simp] theorem alb {sz:Nat} {lo hi:Option IX} {s:St} {k ver sz' o m:Nat} {env:Env}:acB glob sz lo hi s (some (.sk k ver sz' o m,env))=match bound glob env 0 lo,bound glob env m hi with
   | some l,some h=>if sz=sz'∧l≤h∧h≤m then .ok (.v (.sk k ver sz (o+l * sz) (h - l))) env s else .fail
   | _,_=>.fail:=rfl
def acC (glob:Nat→Option (List AV)) (sz:Nat) (hi mx:IX) (s:St):Option (AV×Env)→RO
 | some (.sl es,env)=>match bound glob env 0 (some hi),bound glob env 0 (some mx) with
   | some h,some m=>if h≤m∧m≤es.length∧(es.all fun e=>e.cells.length == sz) then .ok (.v (.sl (es.take h))) env s else .fail
   | _,_=>.fail
 | _=>.fail
@[simp] theorem ajN {sz:Nat} {hi mx:IX} {s:St} {es:List AV} {env:Env}:acC glob sz hi mx s (some (.sl es,env))=match bound glob env 0 (some hi),bound glob env 0 (some mx) with
   | some h,some m=>if h≤m∧m≤es.length∧(es.all fun e=>e.cells.length == sz) then .ok (.v (.sl (es.take h))) env s else .fail
   | _,_=>.fail:=rfl
@[simp] theorem ai2 {sz:Nat} {x hi mx:IX} {env:Env} {s:St}:aop glob call cx env s (.slc3 sz x hi mx)=acC glob sz hi mx s (esc glob env x):=by
 simp only [aop,acC]
 cases esc glob env x with
 | none=>rfl
 | some p=>
  obtain ⟨a,env'⟩:=p
  cases a<;>rfl
@[simp] theorem akQ {sz:Nat} {x:IX} {lo hi:Option IX} {env:Env} {s:St}:aop glob call cx env s (.slc sz x lo hi)=acB glob sz lo hi s (esc glob env x):=by
 simp only [aop,acB]
 cases esc glob env x with
 | none=>rfl
 | some p=>obtain ⟨a,e⟩:=p;cases a<;>rfl
@[simp] theorem ala {sz:Nat} {lo hi:Option IX} {s:St} {es:List AV} {env:Env}:acB glob sz lo hi s (some (.sl es,env))=match bound glob env 0 lo,bound glob env es.length hi with
   | some l,some h=>if l≤h∧h≤es.length∧(es.all fun e=>e.cells.length == sz) then .ok (.v (.sl ((es.drop l).take (h - l)))) env s else .fail
   | _,_=>.fail:=rfl
@[simp] theorem alc {sz:Nat} {lo hi:Option IX} {s:St} {env:Env}:acB glob sz lo hi s (some (.ns,env))=match bound glob env 0 lo,bound glob env 0 hi with
   | some 0,some 0=>.ok (.v .ns) env s
   | _,_=>.fail:=rfl
end
theorem w64 {n:Int} (h:-9223372036854775808≤n) (h':n≤9223372036854775807):IntKind.i64.wrap n=n:=IntWalk.i64_in n ⟨h,h'⟩
theorem w8 {n:Int} (h:0≤n) (h':n≤255):IntKind.u8.wrap n=n:=by rw [IntKind.wrap_u8];omega
theorem wI {i:Nat} (h:i≤1152921504606846976):IntKind.i64.wrap ((i:Int)+1)=(i:Int)+1:=by rw [w64]<;>omega
theorem drop_cons {α:Type} {l r:List α} {i:Nat} {a:α} (h:l.drop i=a::r):l[i]?=some a∧l.drop (i+1)=r∧i<l.length∧∀h:i<l.length,l[i]=a:=by
 have hi:i<l.length:=by
  rcases Nat.lt_or_ge i l.length with h1|h1
  ·exact h1
  ·rw [List.drop_eq_nil_of_le h1] at h;cases h
 rw [List.drop_eq_getElem_cons hi] at h;injection h with h1 h2;exact ⟨by rw [List.getElem?_eq_getElem hi,h1],h2,hi,fun _=>h1⟩
theorem drop_nil {α:Type} {l:List α} {i:Nat} (h:l.drop i=[]):l.length≤i:=by simpa using h
inductive C where
 | mk (kind:Int) (name:Rl) (lo hi:Int) (z:Bool) (parts:List C)
namespace C
def kind:C→Int | .mk k _ _ _ _ _=>k
def name:C→Rl | .mk _ n _ _ _ _=>n
def lo:C→Int | .mk _ _ l _ _ _=>l
def hi:C→Int | .mk _ _ _ h _ _=>h
def z:C→Bool | .mk _ _ _ _ z _=>z
def parts:C→List C | .mk _ _ _ _ _ ps=>ps
@[simp] theorem Kv (k:Int) (n:Rl) (l h:Int) (z:Bool) (ps:List C):(C.mk k n l h z ps).kind=k:=rfl
@[simp] theorem O4 (k:Int) (n:Rl) (l h:Int) (z:Bool) (ps:List C):(C.mk k n l h z ps).name=n:=rfl
@[simp] theorem adn (k:Int) (n:Rl) (l h:Int) (z:Bool) (ps:List C):(C.mk k n l h z ps).lo=l:=rfl
@[simp] theorem adM (k:Int) (n:Rl) (l h:Int) (z:Bool) (ps:List C):(C.mk k n l h z ps).hi=h:=rfl
@[simp] theorem amr (k:Int) (n:Rl) (l h:Int) (z:Bool) (ps:List C):(C.mk k n l h z ps).z=z:=rfl
@[simp] theorem EU (k:Int) (n:Rl) (l h:Int) (z:Bool) (ps:List C):(C.mk k n l h z ps).parts=ps:=rfl
end C
mutual
theorem C.ind {P:C→Prop} (h:∀k n l hi z ps,(∀p∈ps,P p)→P (.mk k n l hi z ps)):∀c,P c
 | .mk k n l hi z ps=>h k n l hi z ps (C.indL h ps)
theorem C.indL {P:C→Prop} (h:∀k n l hi z ps,(∀p∈ps,P p)→P (.mk k n l hi z ps)):∀(ps:List C),∀p∈ps,P p
 | []=>fun p hp=>by cases hp
 | a::r=>fun p hp=>(List.mem_cons.1 hp).elim (fun e=>e ▸ C.ind h a) (fun hp=>C.indL h r p hp)
end
mutual
def aK:C→AV
 | .mk k n l h z ps=>.ag [.i .i64 k,.s n,.i .i64 l,.i .i64 h,slf z (N7 ps)]
def N7:List C→List AV
 | []=>[]
 | a::r=>aK a::N7 r
end
theorem QX:∀ps:List C,N7 ps=ps.map aK
 | []=>by simp [N7]
 | a::r=>by simp [N7,QX r]
theorem xK (c:C):aK c=.ag [.i .i64 c.kind,.s c.name,.i .i64 c.lo,.i .i64 c.hi,slf c.z (c.parts.map aK)]:=by
 cases c;simp [aK,QX]
@[simp] theorem ahk (c:C):(aK c).plain=aK c:=by rw [xK];simp
@[simp] theorem ahN (c:C):(aK c).cells=[.i .i64 c.kind,.s c.name,.i .i64 c.lo,.i .i64 c.hi,slf c.z (c.parts.map aK)]:=by rw [xK];rfl
@[simp] theorem Uj (c:C):AV.ag [.i .i64 c.kind,.s c.name,.i .i64 c.lo,.i .i64 c.hi,slf c.z (c.parts.map aK)]=aK c:=(xK c).symm
theorem C.ind' {P:C→Prop} (h:∀c:C,(∀p∈c.parts,P p)→P c):∀c,P c:=C.ind fun k n l hi z ps ih=>h _ ih
@[simp] theorem agX (n:Nat):bW n []=true:=by simp [bW]
@[simp] theorem agz (n:Nat) (a:AV) (r:List AV):bW n (a::r)=(a.under n && bW n r):=by simp [bW]
@[simp] theorem akM (n:Nat) (k:IntKind) (x:Int):(AV.i k x).under n=true:=by simp [AV.under]
@[simp] theorem akN (n:Nat) (x:Bool):(AV.b x).under n=true:=by simp [AV.under]
@[simp] theorem akL (n:Nat) (x:Rl):(AV.s x).under n=true:=by simp [AV.under]
@[simp] theorem aiO (n:Nat) (x:List AV):(AV.sl x).under n=bW n x:=by simp [AV.under]
@[simp] theorem aiU (n:Nat) (x:List AV):(AV.ag x).under n=bW n x:=by simp [AV.under]
@[simp] theorem aiM (n:Nat) (x:List AV):(AV.tu x).under n=bW n x:=by simp [AV.under]
@[simp] theorem aiS (n:Nat) (x:List AV):(AV.ip x).under n=bW n x:=by simp [AV.under]
@[simp] theorem aiN (n l:Nat) (x:List AV):(AV.st l x).under n=(decide (l<n) && bW n x):=by simp [AV.under]
@[simp] theorem aiQ (n:Nat):AV.ns.under n=true:=by simp [AV.under]
@[simp] theorem aiR (n:Nat):AV.nm.under n=true:=by simp [AV.under]
@[simp] theorem aiP (n l o:Nat):(AV.pt l o).under n=decide (l<n):=by simp [AV.under]
@[simp] theorem aiT (n:Nat) (f:Fn) (as cs:List AV):(AV.fn f as cs).under n=(bW n as && bW n cs):=by simp [AV.under]
@[simp] theorem ah7 (n:Nat) (z:Bool) (es:List AV):(slf z es).under n=bW n es:=by
 rcases yj z es with h|⟨h,h'⟩
 ·rw [h];simp
 ·rw [h,h'];simp
@[simp] theorem amo (s:St) (n:Nat) (k:IntKind) (x:Int):frz s n (.i k x)=some (.i k x):=by simp [frz]
@[simp] theorem amq (s:St) (n:Nat) (x:Bool):frz s n (.b x)=some (.b x):=by simp [frz]
@[simp] theorem amn (s:St) (n:Nat) (x:Rl):frz s n (.s x)=some (.s x):=by simp [frz]
mutual
theorem Nl (n:Nat):∀c:C,(aK c).under n=true
 | .mk k nm l h z ps=>by simp [aK,Dy n ps]
theorem Dy (n:Nat):∀ps:List C,bW n (N7 ps)=true
 | []=>by simp [N7]
 | a::r=>by simp [N7,Nl n a,Dy n r]
end
@[simp] theorem agW (n:Nat) (c:C):(aK c).under n=true:=Nl n c
@[simp] theorem agy (n:Nat) (ps:List C):bW n (ps.map aK)=true:=by rw [←QX];exact Dy n ps
inductive C.Ok:C→Prop where
 | mk (c:C) (hn:c.name.length≤1152921504606846976) (hps:c.parts.length≤1152921504606846976)
  (hk:-9223372036854775808≤c.kind∧c.kind≤9223372036854775807) (hl:-9223372036854775808≤c.lo∧c.lo≤9223372036854775807) (hh:-9223372036854775808≤c.hi∧c.hi≤9223372036854775807)
  (hp:∀p∈c.parts,C.Ok p):C.Ok c
mutual
def nN:C→Nat
 | .mk _ _ _ _ _ ps=>1+zy ps
def zy:List C→Nat
 | []=>0
 | p::r=>nN p+zy r
end
mutual
def yJ:C→Nat
 | .mk _ _ _ _ _ ps=>D9 ps
def D9:List C→Nat
 | []=>0
 | p::r=>max (1+yJ p) (D9 r)
end
mutual
def wC:C→Nat
 | .mk _ n _ _ _ ps=>1+n.length / 40+wL ps
def wL:List C→Nat
 | []=>0
 | p::r=>wC p+wL r
end
theorem Ci (c:C):nN c=1+zy c.parts:=by cases c;simp [nN]
theorem MO (c:C):yJ c=D9 c.parts:=by cases c;simp [yJ]
theorem Eo (c:C):wC c=1+c.name.length / 40+wL c.parts:=by cases c;simp [wC]
theorem Lp {p:C}:∀{l:List C},p∈l→wC p≤wL l
 | [],h=>by cases h
 | q::r,h=>by
  simp only [wL];rcases List.mem_cons.1 h with rfl|h
  ·omega
  ·have:=Lp h;omega
theorem agS (c:C):1≤wC c:=by rw [Eo];omega
theorem Pv:∀l:List C,l.length≤wL l
 | []=>by simp
 | p::r=>by have:=Pv r;have:=agS p;simp only [wL,List.length_cons];omega
end Go.Ai
namespace Go.Ai
section
variable (glob:Nat→Option (List AV)) (call:AV→List AV→St→Ctx→CO) (cx:Ctx)
def U3 (e:EV) (dst:Option Nat) (env:Env) (s:St):Out:=
 match dst with
 | none=>.norm env s
 | some d=>if e.refers d=false∧rF env d=false then .norm ((d,e)::env) s else .fail
def P9 (ok:Bool) (o:RO) (dst:Option Nat) (env:Env) (s:St):Out:=
 match ok,o with
 | true,.ok e _ s1=>if s1.length=s.length∧e.owns=false then U3 e dst env s else .fail
 | _,_=>.fail
def qT (dst:Option Nat) (op:AOp) (env:Env) (s:St):Out:=P9 (okQ glob env op) (aop glob call ⟨s.length,s.length⟩ env s op) dst env s
def qN (dst:Option Nat) (env:Env) (s:St):Out:=U3 (.v (.tu [])) dst env s
def gdQ (x:Option EV) (w:Bool) (dst:Option Nat) (op:AOp) (env:Env) (s:St):Out:=
 match x with
 | some (.v (.b x))=>if x=true then (match w with|true=>qT glob call dst op env s|false=>qN dst env s) else (match w with|true=>qN dst env s|false=>qT glob call dst op env s)
 | some (.v (.tu []))=>qN dst env s
 | _=>.fail
end
section
variable {glob:Nat→Option (List AV)} {call:AV→List AV→St→Ctx→CO} {cx:Ctx}
@[simp] theorem ais {e:EV} {env:Env} {s:St}:U3 e none env s=.norm env s:=rfl
@[simp] theorem air {e:EV} {d:Nat} {env:Env} {s:St}:U3 e (some d) env s=if e.refers d=false∧rF env d=false then .norm ((d,e)::env) s else .fail:=rfl
@[simp] theorem ald {e:EV} {env' env:Env} {s1 s:St} {dst:Option Nat}:P9 true (.ok e env' s1) dst env s=if s1.length=s.length∧e.owns=false then U3 e dst env s else .fail:=rfl
@[simp] theorem aiq {ok:Bool} {env:Env} {s:St} {dst:Option Nat}:P9 ok .fail dst env s=.fail:=by cases ok<;>rfl
theorem kz {dst:Option Nat} {op:AOp} {env:Env} {s:St}:qT glob call dst op env s=P9 (okQ glob env op) (aop glob call ⟨s.length,s.length⟩ env s op) dst env s:=rfl
theorem kC {dst:Option Nat} {env:Env} {s:St}:qN dst env s=U3 (.v (.tu [])) dst env s:=rfl
@[simp] theorem alR {x:Bool} {dst:Option Nat} {op:AOp} {env:Env} {s:St}:
  gdQ glob call (some (.v (.b x))) true dst op env s=if x=true then qT glob call dst op env s else qN dst env s:=rfl
@[simp] theorem alS {x:Bool} {dst:Option Nat} {op:AOp} {env:Env} {s:St}:
  gdQ glob call (some (.v (.b x))) false dst op env s=if x=true then qN dst env s else qT glob call dst op env s:=rfl
@[simp high] theorem alP {dst:Option Nat} {op:AOp} {env:Env} {s:St}:gdQ glob call (some (.v (.b true))) true dst op env s=P9 (okQ glob env op) (aop glob call ⟨s.length,s.length⟩ env s op) dst env s:=rfl
@[simp high] theorem alW {dst:Option Nat} {op:AOp} {env:Env} {s:St}:gdQ glob call (some (.v (.b false))) false dst op env s=P9 (okQ glob env op) (aop glob call ⟨s.length,s.length⟩ env s op) dst env s:=rfl
@[simp high] theorem alQ {dst:Option Nat} {op:AOp} {env:Env} {s:St}:gdQ glob call (some (.v (.b true))) false dst op env s=U3 (.v (.tu [])) dst env s:=rfl
@[simp high] theorem alV {dst:Option Nat} {op:AOp} {env:Env} {s:St}:gdQ glob call (some (.v (.b false))) true dst op env s=U3 (.v (.tu [])) dst env s:=rfl
@[simp] theorem alO {w:Bool} {dst:Option Nat} {op:AOp} {env:Env} {s:St}:gdQ glob call (some (.v (.tu []))) w dst op env s=U3 (.v (.tu [])) dst env s:=rfl
@[simp high] theorem alT {x:Bool} {dst:Option Nat} {op:AOp} {env:Env} {s:St}:
  gdQ glob call (some (.v (.b (!x)))) true dst op env s=gdQ glob call (some (.v (.b x))) false dst op env s:=by cases x<;>rfl
@[simp high] theorem alU {x:Bool} {dst:Option Nat} {op:AOp} {env:Env} {s:St}:
  gdQ glob call (some (.v (.b (!x)))) false dst op env s=gdQ glob call (some (.v (.b x))) true dst op env s:=by cases x<;>rfl
@[simp] theorem aeX {dst:Option Nat} {op:AOp} {env:Env} {s:St}:
  gZ glob call cx ⟨dst,none,op⟩ env s=if op.quiet.isSome=true then P9 (okQ glob env op) (aop glob call ⟨s.length,s.length⟩ env s op) dst env s else (aop glob call cx env s op).fin dst:=by
 simp only [gZ];split
 ·unfold AZ xk;simp only [gU];cases hq:okQ glob env op
  ·simp [P9]
  ·simp only [if_true]
   cases ha:aop glob call ⟨s.length,s.length⟩ env s op with
   | ok e env' s1=>
    simp only [P9];by_cases hc:s1.length=s.length∧e.owns=false
    ·rw [if_pos hc,if_pos hc];cases dst<;>rfl
    ·rw [if_neg hc,if_neg hc]
   | _=>rfl
 ·exact Yq
@[simp] theorem aeW {dst:Option Nat} {op:AOp} {k:Nat} {w:Bool} {env:Env} {s:St}:
  gZ glob call cx ⟨dst,some (k,w),op⟩ env s=if op.quiet.isSome=true then gdQ glob call (lk env k) w dst op env s else gdD glob call cx (lk env k) w dst op env s:=by
 simp only [gZ];split
 ·have hT:∀(h:gU env (some (k,w))=some true),AZ glob call ⟨dst,some (k,w),op⟩ env s=qT glob call dst op env s:=by
   intro h;unfold AZ xk;simp only [h];unfold qT;cases hq:okQ glob env op
   ·simp [P9]
   ·simp only [if_true]
    cases ha:aop glob call ⟨s.length,s.length⟩ env s op with
    | ok e env' s1=>
     simp only [P9];by_cases hc:s1.length=s.length∧e.owns=false
     ·rw [if_pos hc,if_pos hc];cases dst<;>rfl
     ·rw [if_neg hc,if_neg hc]
    | _=>rfl
  have hF:∀(h:gU env (some (k,w))=some false),AZ glob call ⟨dst,some (k,w),op⟩ env s=qN dst env s:=by
   intro h;unfold AZ xk;simp only [h];unfold qN
   cases dst<;>rfl
  have hN:∀(h:gU env (some (k,w))=none),AZ glob call ⟨dst,some (k,w),op⟩ env s=.fail:=by
   intro h;unfold AZ xk;simp only [h]
  cases h:lk env k with
  | none=>exact hN (by simp [gU,h])
  | some e=>
   cases e with
   | v a=>
    cases a with
    | b x=>
     cases x<;>cases w<;>first|exact hT (by simp [gU,h])|exact hF (by simp [gU,h])
    | tu cs=>
     cases cs with
     | nil=>exact hF (by simp [gU,h])
     | cons a r=>exact hN (by simp [gU,h])
    | _=>exact hN (by simp [gU,h])
   | _=>exact hN (by simp [gU,h])
 ·exact Yp
@[simp] theorem ak7 {aops:List aI} {env:Env} {s:St}:jw glob call cx aops [] env s=.norm env s:=rfl
@[simp] theorem ajy {aops:List aI} {i:Nat} {r:List Nat} {env:Env} {s:St}:jw glob call cx aops (i::r) env s=match aops[i]? with
  | none=>.fail
  | some o=>(gZ glob call cx o env s).thn (jw glob call cx aops r):=by
 simp only [jw]
 cases aops[i]? with
 | none=>rfl
 | some o=>simp only [];cases gZ glob call cx o env s<;>rfl
attribute [simp] okQ Sv Ig AOp.quiet rF Ce oxs
end
end Go.Ai
namespace Go.Ai
open Classical in
noncomputable def g0 (W:World):ai where
 m b o:=W.cell? ⟨b,o,none⟩
 mm b:=match W.heap[b]? with
  | some (.map ents clock)=>if Born ents clock then some (.inl (ents.toList.map fun e=>(e.key,e.val))) else none
  | some (.cells arr _ _)=>some (.inr arr)
  | _=>none
 L _:=0
 hist _ _:=none
theorem base0 {P:Program} {glob:Nat→Option (List AV)} {W:World} (hg:tZ glob (g0 W)):Base P glob (g0 W) [] W where
 imm:=⟨fun b o v h=>h,fun b es h=>by
  simp only [g0] at h
  split at h
  ·rename_i ents clock he
   split at h
   ·rename_i hbn;cases h;exact ⟨ents,clock,he,rfl,hbn⟩
   ·cases h
  ·rename_i arr t f he;cases h;exact ⟨t,f,he⟩
  ·cases h⟩
 heap:={ inj:=fun l l' b h=>by simp at h,lt:=fun l b h=>by simp at h,obj:=fun l o h=>by simp at h }
 glob:=hg
theorem kept {W W':World} (hio:W'.os=W.os∧W'.output=W.output) (h:∀b,b<W.heap.size→W'.heap[b]?=W.heap[b]?) (may:MemPlace→Prop):W.keptBut W' may:=by
 refine ⟨hio.1,hio.2,fun i hi=>?_⟩;rw [h i hi];split
 ·rename_i c t fr c' t' fr' h1 h2;rw [h1] at h2;cases h2;exact ⟨rfl,rfl,rfl,fun _ _=>rfl⟩
 ·rename_i h1 h2;rw [h1] at h2;cases h2;exact .inr ⟨rfl,rfl⟩
 ·rfl
theorem top {P:Program} {A:uJ} (hA:Gh False P A) {f:FuncId} {fn:bU} (hi:A.intr f=none) (hfn:A.fns f=some fn) {args:List AV} {vs:Array Value} {W:World}
  (h:aj A (.fn (.func f) [] []) args [] ⟨0,0⟩=.ret (.b true) []) (hv:aW (g0 W) 0 vs.toList args) (hg:tZ A.glob (g0 W)):
  Calls P f vs W fun e W'=>e=.returned (.bool true)∧(∀may,W.keptBut W' may)∧∀b,b<W.heap.size→W'.heap[b]?=W.heap[b]?:=by
 obtain ⟨n,hn⟩:=Zo h;obtain ⟨rf,c,hfun,hname,hbody,_⟩:=hA.fns f fn hfn;have hok:=aeN A hA n
 obtain ⟨fid,args',hrun,hc⟩:=hok.fn (.fn (.func f) [] []) args [] ⟨0,0⟩ (.b true) [] ⟨Nat.le_refl _,Nat.le_refl _⟩ (fun l=>by simp) hn (g0 W) W (.func (.func f) #[] #[]) vs (base0 hg)
  (.fn _ _ _ _ _ rfl rfl (fun i h=>by simp at h) (fun i h=>by simp at h)) hv
 rw [yt hfun hname (by rw [hbody];rfl)] at hrun;simp only [Array.empty_append,Array.append_empty] at hrun;cases hrun;refine (callsIn_wide.1 (hc 0)).mono fun e W' he=>?_;obtain ⟨v,g',rfl,hst,hb,hr⟩:=he
 cases hr with
 | b _=>exact ⟨rfl,kept ⟨hst.io.1,hst.io.2.1⟩ fun b hb'=>hst.keep b hb' (fun ⟨l,hl,_⟩=>by simp at hl),fun b hb'=>hst.keep b hb' (fun ⟨l,hl,_⟩=>by simp at hl)⟩
section
variable {H:Type} {enc:TypeId×Value→H} {P:Program} {W:World}
def Light (P:Program) (t:TypeId) (d:DataW H):Prop:=∀x∈d.weights P t,x≤reachBytes
def Gj (W:World) (cs:List Value) (as:List AV):Prop:=aW (g0 W) 0 cs as∧fD cs
theorem ahK {t:TypeId} {k:IntKind} (ht:P.underlying t=some (.int k)) {fuel:Nat} {cs:List Value} {x:DataW H×List MemPlace} (h:DataW.trod enc P W 0 (fun _=>true) true fuel t cs=some x):
  ∃n,k.min≤n∧n≤k.max∧Gj W cs [.i k n]:=by
 obtain ⟨n,rfl,_,hw⟩:=DataW.trod_int ht h;simp [Lit.wf] at hw;exact ⟨n,hw.1,hw.2,.cons (.i k n) (.nil _ _),fun v hv=>by simp at hv;subst hv;rfl⟩
theorem weightsAll_mem {e:TypeId} {d:DataW H}:∀{l:List (DataW H)},d∈l→∀x∈d.weights P e,x∈DataW.weightsAll P e l
 | [],h=>by cases h
 | a::r,h=>by
  intro x hx;simp only [DataW.weightsAll,List.mem_append];rcases List.mem_cons.1 h with rfl|h
  ·exact .inl hx
  ·exact .inr (weightsAll_mem h x hx)
theorem ael {t e:TypeId} (ht:P.underlying t=some (.slice e)) {sz:Nat} (hsz:P.cellsOf e=sz) (hpos:0<sz) (hby:0<P.bytesOf e) (Q:AV→Prop)
  {fuel:Nat} {cs:List Value} {x:DataW H×List MemPlace} (h:DataW.trod enc P W 0 (fun _=>true) true fuel t cs=some x) (hl:Light P t x.1)
  (hel:∀n,fuel=n+1→∀cs y,DataW.trod enc P W 0 (fun _=>true) true n e cs=some y→Light P e y.1→∃a:AV,Q a∧a.cells.length=sz∧Gj W cs a.cells):
  ∃es:List AV,(∀a∈es,Q a)∧es.length≤reachBytes∧Gj W cs [.sl es]:=by
 rcases DataW.trod_slice ht h with ⟨rfl,_⟩|⟨a,len,cap,elems,rest,n,hf,rfl,rfl,_,hle,_,hlen,hE,hS,_⟩
 ·exact ⟨[],(fun a ha=>by cases ha),by simp,aW.cons .slNil (.nil _ _),fun v hv=>by simp at hv;subst hv;rfl⟩
 ·have hlight:∀y∈elems,Light P e y.1:=by
   intro y hy x hx;apply hl x;simp only [DataW.weights,ht,List.mem_cons,List.mem_append];exact .inr (.inl (weightsAll_mem (List.mem_map_of_mem hy) x hx))
  have hbytes:len≤reachBytes:=by
   have:=hl ((elems.length+rest.length) * P.bytesOf e) (by simp [DataW.weights,ht])
   have h2:elems.length+rest.length≤(elems.length+rest.length) * P.bytesOf e:=Nat.le_mul_of_pos_right _ hby;omega
  by_cases hc:cap=0
  ·have:len=0:=by omega
   subst hc this;exact ⟨[],(fun a ha=>by cases ha),by simp,aW.cons (.slE a) (.nil _ _),fun v hv=>by simp at hv;subst hv;rfl⟩
  ·-- an element or a spare place is read: the address has no spot
   have hspot:a.spot=none:=by
    by_cases h0:0<len
    ·have:=hE 0 h0
     rw [List.getElem?_eq_getElem (by omega)] at this
     cases hcs:W.cells? 0 (a.add (0 * P.cellsOf e)) (P.cellsOf e) with
     | none=>rw [hcs] at this;simp at this
     | some cc=>
      obtain ⟨_,hl',hcell⟩:=World.cells?_some hcs;have h1:=hcell 0 (by omega);rw [List.getElem?_eq_getElem (by omega)] at h1
      simpa [Addr.add] using World.cell?_spot h1
    ·obtain ⟨hrl,hR⟩:=hS rfl;obtain rfl:len=0:=by omega
     have:=hR 0 (by omega)
     rw [List.getElem?_eq_getElem (by omega)] at this
     cases hcs:W.cells? 0 (a.add ((0+0) * P.cellsOf e)) (P.cellsOf e) with
     | none=>rw [hcs] at this;simp at this
     | some cc=>
      obtain ⟨_,hl',hcell⟩:=World.cells?_some hcs;have h1:=hcell 0 (by omega);rw [List.getElem?_eq_getElem (by omega)] at h1
      simpa [Addr.add] using World.cell?_spot h1
   obtain ⟨bk,off,sp⟩:=a;simp only at hspot;subst hspot
   -- each element
   have hex:∀i,i<len→∃(cc:List Value) (v:AV),W.cells? 0 ⟨bk,off+i * sz,none⟩ sz=some cc∧Q v∧v.cells.length=sz∧Gj W cc v.cells:=by
    intro i hi
    have:=hE i hi
    rw [List.getElem?_eq_getElem (by omega)] at this
    cases hcs:W.cells? 0 (Addr.add ⟨bk,off,none⟩ (i * P.cellsOf e)) (P.cellsOf e) with
    | none=>rw [hcs] at this;simp at this
    | some cc=>
     rw [hcs] at this;simp only [Option.bind_some] at this;obtain ⟨v,q1,q2,q3⟩:=hel n hf cc _ this (hlight _ (List.getElem_mem _));refine ⟨cc,v, ?_,q1,q2,q3⟩;rw [hsz,Addr.add_lit] at hcs;exact hcs
   have hfam:=Go.Deep.choose_lt (n:=len) (p:=fun i (cv:List Value×AV)=>W.cells? 0 ⟨bk,off+i * sz,none⟩ sz=some cv.1∧Q cv.2∧cv.2.cells.length=sz∧Gj W cv.1 cv.2.cells)
    (fun i hi=>by obtain ⟨cc,v,h⟩:=hex i hi;exact ⟨(cc,v),h⟩)
   obtain ⟨F,hF⟩:=hfam;refine ⟨(List.range len).map fun i=>(F i).2,fun v hv=>?_,by simpa using hbytes, ?_,fun v hv=>by simp at hv;subst hv;rfl⟩
   ·simp at hv;obtain ⟨i,hi,rfl⟩:=hv;exact (hF i hi).2.1
   ·refine .cons ?_ (.nil _ _)
    have:=Rep.sl (g:=g0 W) (n:=0) bk off cap sz ((List.range len).map fun i=>(F i).2) (fun i j=>((F i).1)[j]?.getD undef) (by simpa using hle)
     (fun i hi=>by simp at hi ⊢;exact (hF i hi).2.2.1)
     (fun i j hi hj=>by
      simp at hi;obtain ⟨q1,q2,q3,q4,q5⟩:=hF i hi;obtain ⟨_,hl',hcell⟩:=World.cells?_some q1;have h1:=hcell j hj;rw [Addr.add_lit] at h1;have hj':j<(F i).1.length:=by omega
      simp only [List.getElem?_eq_getElem hj',Option.getD_some] at h1 ⊢
      exact ⟨h1,q5 _ (List.getElem_mem hj')⟩)
     (fun i hi j hj=>by
      simp at hi;obtain ⟨q1,q2,q3,q4,q5⟩:=hF i hi;obtain ⟨_,hl',hcell⟩:=World.cells?_some q1;simp at hj;have hj':j<(F i).1.length:=by omega
      have h2:=q4.2 j hj' (by omega)
      simpa [List.getElem?_eq_getElem hj'] using h2)
    simpa using this
theorem WW {α:Type} {f:α→AV} {R:α→Prop}:∀{es:List AV},(∀a∈es,∃c,a=f c∧R c)→∃l:List α,es=l.map f∧∀c∈l,R c
 | [],_=>⟨[],rfl,fun c hc=>by cases hc⟩
 | a::r,h=>by
  obtain ⟨c,rfl,hc⟩:=h a (by simp);obtain ⟨l,rfl,hl⟩:=WW (es:=r) (fun x hx=>h x (by simp [hx]));exact ⟨c::l,rfl,fun x hx=>(List.mem_cons.1 hx).elim (fun e=>e ▸ hc) (hl x)⟩
structure CTy (P:Program) (T S I Z:TypeId):Prop where
 uT:∃f0 f1 f2 f3 f4:Field,P.underlying T=some (.struct #[f0,f1,f2,f3,f4])∧(f0.type=I∧f0.offset=0)∧(f1.type=Z∧f1.offset=1)∧(f2.type=I∧f2.offset=2)∧(f3.type=I∧f3.offset=3)∧(f4.type=S∧f4.offset=4)
 uS:P.underlying S=some (.slice T)
 uI:P.underlying I=some (.int .i64)
 uZ:P.underlying Z=some .string
 cT:P.cellsOf T=5
 cS:P.cellsOf S=1
 cI:P.cellsOf I=1
 cZ:P.cellsOf Z=1
 bT:0<P.bytesOf T
end
end Go.Ai
namespace Go.Ai
mutual
def KJ (P:Program):Nat→TypeId→DataW Unit→Option (List Value)
 | 0,_,_=>none
 | n+1,t,d=>match P.underlying t,d with
  | some (.int k),.lit (.int k' m)=>if k=k' then some [.int k m] else none
  | some .bool,.lit (.bool b)=>some [.bool b]
  | some .string,.lit (.string bs)=>some [.string ⟨bs.toArray⟩]
  | some (.struct fs),.agg ds=>match KL P n fs.toList ds 0 with
   | some vs=>if vs.length=P.cellsOf t then some vs else none
   | none=>none
  | some (.array len e),.agg ds=>match Ul P n e ds with
   | some vs=>if vs.length=P.cellsOf t∧ds.length=len then some vs else none
   | none=>none
  | _,_=>none
def KL (P:Program):Nat→List Field→List (DataW Unit)→Nat→Option (List Value)
 | _,[],[],_=>some []
 | 0,_,_,_=>none
 | n+1,f::fs,d::ds,off=>match KJ P n f.type d,KL P n fs ds (off+P.cellsOf f.type) with
  | some vs,some r=>if f.offset=off∧vs.length=P.cellsOf f.type then some (vs++r) else none
  | _,_=>none
 | _,_,_,_=>none
def Ul (P:Program):Nat→TypeId→List (DataW Unit)→Option (List Value)
 | _,_,[]=>some []
 | 0,_,_=>none
 | n+1,e,d::ds=>match KJ P n e d,Ul P n e ds with
  | some vs,some r=>if vs.length=P.cellsOf e then some (vs++r) else none
  | _,_=>none
end
section
variable {P:Program} {W:World} {enc:TypeId×Value→Unit} {hd:Bool}
theorem TA {cs vs r:List Value} {off:Nat} (h1:(cs.drop off).take vs.length=vs) (h2:(cs.drop (off+vs.length)).take r.length=r):(cs.drop off).take (vs++r).length=vs++r:=by
 rw [List.length_append,List.take_add,h1,List.drop_drop,h2]
mutual
theorem Jp:∀(n:Nat) (t:TypeId) (d:DataW Unit) (vs:List Value),KJ P n t d=some vs→∀fuel cs p,DataW.trod enc P W 0 (fun _=>true) hd fuel t cs=some (d,p)→cs=vs
 | 0,_,_,_,h=>by simp [KJ] at h
 | n+1,t,d,vs,h=>by
  intro fuel cs p ht;simp only [KJ] at h
  split at h
  ·rename_i k k' m hu
   split at h
   ·rename_i hk;subst hk;cases h;obtain ⟨m',rfl,hx,_⟩:=DataW.trod_int hu ht;simp at hx;simp [hx.1]
   ·cases h
  ·rename_i b hu;cases h;obtain ⟨b',rfl,hx⟩:=DataW.trod_bool hu ht;simp at hx;simp [hx.1]
  ·rename_i bs hu;cases h;obtain ⟨b',rfl,hx,_⟩:=DataW.trod_string hu ht;simp at hx;simp [hx.1]
  ·rename_i fs ds hu
   split at h
   ·rename_i vs' hf
    split at h
    ·rename_i hl;cases h;obtain ⟨xs,m,rfl,hx,hlen,hxl,hfs⟩:=DataW.trod_struct hu ht;simp at hx
     have:=NV n fs.toList ds 0 vs hf cs m xs hx.1 (fun i f hi=>hfs i f (by simpa using hi))
     simp at this;rw [hl,←hlen,List.take_length] at this;exact this
    ·cases h
   ·cases h
  ·rename_i len e ds hu
   split at h
   ·rename_i vs' hf
    split at h
    ·rename_i hl;cases h;obtain ⟨xs,m,rfl,hx,hlen,hxl,hes⟩:=DataW.trod_array hu ht;simp at hx
     have:=NY n e ds vs hf cs m xs 0 hx.1 (fun i hi=>by
      have:=hes i (by rw [←hl.2,hx.1];simpa using hi)
      simpa using this)
     simp at this;rw [hl.1,←hlen,List.take_length] at this;exact this
    ·cases h
   ·cases h
  ·cases h
theorem NV:∀(n:Nat) (fs:List Field) (ds:List (DataW Unit)) (off:Nat) (vs:List Value),KL P n fs ds off=some vs→∀(cs:List Value) (m:Nat) (xs:List (DataW Unit×List MemPlace)),ds=xs.map (·.1)→
  (∀(i:Nat) (f:Field),fs[i]?=some f→DataW.trod enc P W 0 (fun _=>true) hd m f.type ((cs.drop f.offset).take (P.cellsOf f.type))=xs[i]?)→(cs.drop off).take vs.length=vs
 | n,[],[],off,vs,h=>by
  intro cs m xs _ _;simp [KL] at h;subst h;simp
 | 0,_::_,_,_,_,h=>by simp [KL] at h
 | 0,[],_::_,_,_,h=>by simp [KL] at h
 | n+1,f::fs,d::ds,off,vs,h=>by
  intro cs m xs hd' hx;simp only [KL] at h
  split at h
  ·rename_i v1 r h1 h2
   split at h
   ·rename_i hc;cases h
    cases xs with
    | nil=>simp at hd'
    | cons x xs=>
     simp only [List.map_cons,List.cons.injEq] at hd';have q1:=hx 0 f rfl;simp only [List.getElem?_cons_zero] at q1;have e1:=Jp n f.type d v1 h1 m _ x.2 (by rw [q1,hd'.1]);have e2:=NV n fs ds (off+P.cellsOf f.type) r h2 cs m xs hd'.2 (fun i g hi=>by simpa using hx (i+1) g (by simpa using hi));rw [hc.1,←hc.2] at e1;rw [←hc.2] at e2;exact TA e1 e2
   ·cases h
  ·cases h
 | n+1,[],_::_,_,_,h=>by simp [KL] at h
 | n+1,_::_,[],_,_,h=>by simp [KL] at h
theorem NY:∀(n:Nat) (e:TypeId) (ds:List (DataW Unit)) (vs:List Value),Ul P n e ds=some vs→∀(cs:List Value) (m:Nat) (xs:List (DataW Unit×List MemPlace)) (k:Nat),ds=xs.map (·.1)→
  (∀i,i<xs.length→DataW.trod enc P W 0 (fun _=>true) hd m e ((cs.drop ((k+i) * P.cellsOf e)).take (P.cellsOf e))=xs[i]?)→(cs.drop (k * P.cellsOf e)).take vs.length=vs
 | n,e,[],vs,h=>by
  intro cs m xs k _ _;simp [Ul] at h;subst h;simp
 | 0,_,_::_,_,h=>by simp [Ul] at h
 | n+1,e,d::ds,vs,h=>by
  intro cs m xs k hd' hx;simp only [Ul] at h
  split at h
  ·rename_i v1 r h1 h2
   split at h
   ·rename_i hc;cases h
    cases xs with
    | nil=>simp at hd'
    | cons x xs=>
     simp only [List.map_cons,List.cons.injEq] at hd';have q1:=hx 0 (by simp);simp only [List.getElem?_cons_zero,Nat.add_zero] at q1;have e1:=Jp n e d v1 h1 m _ x.2 (by rw [q1,hd'.1])
     have e2:=NY n e ds r h2 cs m xs (k+1) hd'.2 (fun i hi=>by
      have:=hx (i+1) (by simpa using hi)
      rw [show k+(i+1)=k+1+i by omega] at this
      simpa using this)
     have e1':(cs.drop (k * P.cellsOf e)).take v1.length=v1:=by rw [hc];exact e1
     refine TA e1' ?_;rw [Nat.succ_mul] at e2;rw [hc];exact e2
   ·cases h
  ·cases h
end
theorem I8 {laid:List (String×DataW Unit)} {ps:List MemPlace} (h:DataW.LaidVars P W laid ps) {nm:String} {d:DataW Unit} (hm:(nm,d)∈laid) {k:Nat} (hk:P.globalNamed nm=some k) {t:TypeId} (ht:(P.globals[k]?).map (·.type)=some t)
  {n:Nat} {vs:List Value} (hf:KJ P n t d=some vs):∃ty fr,W.heap[k]?=some (.cells vs.toArray ty fr):=by
 induction laid generalizing ps with
 | nil=>cases hm
 | cons x r ih=>
  obtain ⟨nm',d'⟩:=x;obtain ⟨g,t',cs,fuel,p,q,h1,h2,h3,h4,h5,h6⟩:=h;rcases List.mem_cons.1 hm with e|hm
  ·cases e;obtain rfl:=Option.some.inj (hk.symm.trans h1);obtain rfl:=Option.some.inj (ht.symm.trans h2)
   have:=Jp n t d vs hf fuel _ p h4
   simp only [World.var?,hk,Option.bind_some] at h3
   split at h3
   ·rename_i c ty fr hc;cases h3;refine ⟨ty,fr, ?_⟩;rw [hc,←this]
   ·cases h3
  ·exact ih h5 hm
theorem P5 {k:Nat} {vs:List Value} {ty:TypeId} {fr:Nat×Nat} (h:W.heap[k]?=some (.cells vs.toArray ty fr)) {as:List AV} (hr:uD vs as=true) (h1:vs.all Value.oneCell'=true):
  Rep (g0 W) 0 (.pointer (some ⟨k,0,none⟩)) (.ip as)∧∃arr,(g0 W).mm k=some (.inr arr)∧arr.size=as.length:=by
 have hl:vs.length=as.length:=by
  clear h h1
  induction vs generalizing as with
  | nil=>cases as<;>simp [uD] at hr ⊢
  | cons v vs ih=>cases as with
   | nil=>simp [uD] at hr
   | cons a as=>simp [uD] at hr;simp [ih hr.2]
 have hrep:aW (g0 W) 0 vs as:=zX _ _ _ _ hr;refine ⟨.ip k 0 as (fun j=>vs[j]?.getD undef) (fun j hj=>?_) (fun j hj=>?_),vs.toArray,by simp [g0,h],by simpa using hl⟩
 ·have hj':j<vs.length:=by omega
  simp only [List.getElem?_eq_getElem hj',Option.getD_some];refine ⟨by simp [g0,World.cell?,h,List.getElem?_eq_getElem hj'], ?_⟩;exact List.all_eq_true.1 h1 _ (List.getElem_mem hj')
 ·have hj':j<vs.length:=by omega
  simp only [List.getElem?_eq_getElem hj',Option.getD_some];exact hrep.2 j hj' hj
end
end Go.Ai
namespace Go.Ai
open Go.ChangeShapes Go.WideShapes Go.WideElems
section
variable {H:Type} {enc:TypeId×Value→H} {P:Program} {W W':World}
theorem acF (h:∀b,b<W.heap.size→W'.heap[b]?=W.heap[b]?) {p:MemPlace} (hp:p.block<W.heap.size):W.sameAt W' p:=by
 cases p with
 | cell b off=>exact World.cell?_of_block (h b hp)
 | map b=>exact h b hp
theorem X9 (hl:laidOutB P=true) (hold:∀b,b<W.heap.size→W'.heap[b]?=W.heap[b]?) {sp:Nat→Bool}:∀{ts:List TypeId} {vs:List Value} {ds:List (DataW H)} {ps:List MemPlace},(∀t∈ts,P.readableRec t=true∧t<P.types.size)→
  DataW.TrodAll enc P W 0 (fun _=>true) true ts vs ds ps→(∀p∈ps,p.block<W.heap.size)→(∀p∈ps,sp p.block=true)→DataW.TrodAll enc P W' 0 sp true ts vs ds ps
 | [],[],[],_,_,h,_,_=>h
 | _::_,_::_,_::_,_,hT,⟨p,q,h1,h2,e⟩,hlt,hs=>by
  subst e
  exact ⟨p,q,Trod_stays hl (hT _ (by simp)).1 (hT _ (by simp)).2 h1 (fun x hx=>acF hold (hlt x (by simp [hx]))) (fun x hx=>hs x (by simp [hx])),
   X9 hl hold (fun t ht=>hT t (by simp [ht])) h2 (fun x hx=>hlt x (by simp [hx])) (fun x hx=>hs x (by simp [hx])),rfl⟩
theorem aaV {f:Func} {s:ChangeSpec} {args:Array Value} {ds gs:List (DataW H)} {before:List MemPlace} (hl:laidOutB P=true) (hT:∀t∈f.params.toList,P.readableRec t=true∧t<P.types.size)
  (hW:DataW.Whole enc P f.params.toList s.vars false W args.toList ds gs before) (hvars:s.vars=[]) (hspec:s.fn H (ds++gs)={ results:=[.lit (.bool true)],args:=ds })
  {B:TypeId} (hres:f.resultTypes=#[B]) (hB:P.underlying B=some .bool) (hk:∀may,W.keptBut W' may) (hold:∀b,b<W.heap.size→W'.heap[b]?=W.heap[b]?):
  s.post enc P f false true false false W args (.bool true) W':=by
 have hlt:=hW.lt;have hW':=hW;obtain ⟨p,q,hA,hV,rfl,hz,hn⟩:=hW';rw [hvars] at hV
 cases gs with
 | cons=>exact absurd hV (by simp [DataW.TrodVars])
 | nil=>
  have hq:q=[]:=hV;subst hq;refine ⟨ds,[],p++[],[],p,[],hW, ?_, ?_, ?_,hk _,fun h=>by cases h⟩
  ·rw [hspec,hres];exact ⟨[],[],⟨1,by simp [DataW.trod,hB,Value.cells,Value.resultList]⟩,rfl,rfl⟩
  ·rw [hspec];refine X9 hl hold hT hA (fun x hx=>hlt x (by simp [hx])) (fun x hx=>by simpa using hlt x (by simp [hx]))
  ·rw [hspec,hvars];rfl
theorem YM {t:TypeId} {ts:List TypeId} {d:DataW H} {ds:List (DataW H)} (h:(DataW.weightsEach P (t::ts) (d::ds)).all (·≤reachBytes)=true):Light P t d∧(DataW.weightsEach P ts ds).all (·≤reachBytes)=true:=by
 simp only [DataW.weightsEach,List.all_append,Bool.and_eq_true] at h;exact ⟨fun x hx=>by have:=List.all_eq_true.1 h.1 x hx;simpa using this,h.2⟩
end
end Go.Ai
