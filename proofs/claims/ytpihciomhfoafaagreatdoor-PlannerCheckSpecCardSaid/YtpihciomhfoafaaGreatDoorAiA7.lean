/-
 Structs and slices written out; maps written out; strings to bytes.
-/
import Derived.Test.YtpihciomhfoafaaGreatDoorAiA5
set_option maxRecDepth 100000
set_option linter.unusedSimpArgs false
set_option linter.unusedVariables false
set_option linter.unusedSectionVars false
namespace Go.Ai
variable {P:Program} {glob:Nat→Option (List AV)} {g:af} {s:St} {B:Nat} {w:World} {env:Env} {a:Act} {o:Oper} {call:AV→List AV→St→Ctx→CO} {cx:Ctx} {e:EV} {env':Env} {s':St}
theorem foldl_set:∀(vs:List Value) (k off:Nat) (cells:Array Value),off+k+vs.length≤cells.size→
  ((vs.zipIdx k).foldl (fun cs p=>cs.setIfInBounds (off+p.2) p.1) cells).toList=cells.toList.take (off+k)++vs++cells.toList.drop (off+k+vs.length)
 | [],k,off,cells,_=>by simp
 | v::vs,k,off,cells,h=>by
  simp only [List.length_cons] at h
  simp only [List.zipIdx_cons,List.foldl_cons]
  rw [foldl_set vs (k+1) off _ (by simp;omega)]
  simp only [Array.toList_setIfInBounds,List.length_cons]
  apply List.ext_getElem?
  intro j
  simp only [List.getElem?_append,List.getElem?_take,List.getElem?_drop,List.getElem?_set,List.length_append,List.length_take,List.length_set,Array.length_toList,List.length_cons]
  by_cases h1:j<off+k
  ·simp only [show j<min (off+(k+1)) cells.size by omega,show j<min (off+k) cells.size by omega,show j<min (off+(k+1)) cells.size+vs.length by omega,show j<min (off+k) cells.size+(vs.length+1) by omega,show j<off+(k+1) by omega,h1,if_true,show ¬off+k=j by omega,if_false]
  ·by_cases h2:j=off+k
   ·subst h2
    simp only [show off+k<min (off+(k+1)) cells.size by omega,show ¬off+k<min (off+k) cells.size by omega,show off+k<min (off+(k+1)) cells.size+vs.length by omega,show off+k<min (off+k) cells.size+(vs.length+1) by omega,show off+k<off+(k+1) by omega,if_true,if_false,show off+k<cells.size by omega,show off+k - min (off+k) cells.size=0 by omega,List.getElem?_cons_zero]
   ·by_cases h3:j<off+k+1+vs.length
    ·simp only [show ¬j<min (off+(k+1)) cells.size by omega,show ¬j<min (off+k) cells.size by omega,show j<min (off+(k+1)) cells.size+vs.length by omega,show j<min (off+k) cells.size+(vs.length+1) by omega,if_true,if_false]
     rw [show j - min (off+k) cells.size=(j - min (off+(k+1)) cells.size)+1 by omega,List.getElem?_cons_succ]
    ·simp only [show ¬j<min (off+(k+1)) cells.size+vs.length by omega,show ¬j<min (off+k) cells.size+(vs.length+1) by omega,if_false]
     rw [if_neg (by omega)]
     congr 1;omega
theorem VZ {place:Nat→Option (Nat×Nat)} {cells:Array Value} {i off size:Nat} {v:Value} {r:List (Nat×Value)} (hp:place i=some (off,size)) (hs:v.cells.size=size) (hle:off+size≤cells.size):
  Instr.fill place cells ((i,v)::r)=Instr.fill place (cells.toList.take off++v.cells.toList++cells.toList.drop (off+v.cells.toList.length)).toArray r:=by
 have h1:¬(v.cells.size≠size || off+v.cells.size > cells.size)=true:=by simp;omega
 simp only [Instr.fill,hp]
 rw [if_neg h1]
 congr 1
 apply Array.ext'
 have:=foldl_set v.cells.toList 0 off cells (by simp;omega)
 simp only [Nat.add_zero] at this
 rw [←this]
 rw [←Array.foldl_toList,Array.toList_zipIdx]
theorem DF {place:Nat→Option (Nat×Nat)}:∀(qs:List (Nat×Value)) (vs:List AV) (ps:List (Nat×Nat)) (cells:Array Value) (cs:List AV) {n:Nat} {cs':List AV},qs.length=ps.length→vs.length=ps.length→
  (∀i (h:i<qs.length) (h':i<ps.length),place qs[i].1=some ps[i])→
  aB g n (qs.map (·.2)) vs→(∀i (h:i<vs.length) (h':i<ps.length),vs[i].cells.length=ps[i].2∧vs[i].cells.all AV.one=true)→aB g n cells.toList cs→bH cells.toList→
  xB cs ((ps.zip vs).map fun p=>(p.1.1,p.2.cells))=some cs'→∃cells',Instr.fill place cells qs=some cells'∧aB g n cells'.toList cs'∧bH cells'.toList
 | [],vs,ps,cells,cs,n,cs',hl,hl',_,_,_,hc,h1,hf=>by
  have:ps=[]:=List.eq_nil_of_length_eq_zero (by simpa using hl.symm)
  subst this
  simp [xB] at hf
  subst hf
  exact ⟨cells,rfl,hc,h1⟩
 | (i,v)::qs,vs,ps,cells,cs,n,cs',hl,hl',hp,hr,hv,hc,h1,hf=>by
  match ps,vs with
  | [],_=>simp at hl
  | _::_,[]=>simp at hl'
  | (off,sz)::ps,av::vs=>
   have hp0:place i=some (off,sz):=by have:=hp 0 (by simp) (by simp);simpa using this
   have hv0:=hv 0 (by simp) (by simp)
   simp only [List.getElem_cons_zero] at hv0
   have hr0:Rep g n v av:=hr.head
   obtain ⟨q1,q2⟩:=uH hr0 hv0.2
   simp only [List.zip_cons_cons,List.map_cons,xB] at hf
   split at hf
   ·rename_i hle
    have hcl:cells.size=cs.length:=by have:=hc.1;simpa using this
    have hvs:v.cells.size=sz:=by have:=q1.1;simp at this;omega
    have hstep:=VZ (r:=qs) hp0 hvs (by omega:off+sz≤cells.size)
    rw [hstep]
    refine DF qs vs ps _ (splice cs off av.cells) (by simpa using hl) (by simpa using hl') (fun j hj hj'=>?_) hr.tail (fun j hj hj'=>?_) ?_ ?_ hf
    ·have:=hp (j+1) (by simpa using hj) (by simpa using hj');simpa using this
    ·have:=hv (j+1) (by simpa using hj) (by simpa using hj');simpa using this
    ·simpa using qO hc q1 off
    ·simpa using lM h1 q2 off _
   ·cases hf
theorem Hf {fs:Array Field}:∀(qs:List (Nat×Operand)) (ps:List (Nat×Nat×IX)),BV P fs qs ps=true→
  qs.length=ps.length∧xC (qs.map (·.2)) (ps.map (·.2.2))=true∧∀i (h:i<qs.length) (h':i<ps.length),∃f,fs[qs[i].1]?=some f∧f.offset=ps[i].1∧iL P f.type ps[i].2.1=true
 | [],[],_=>⟨rfl,rfl,fun i h=>by simp at h⟩
 | [],_::_,h=>by simp [BV] at h
 | _::_,[],h=>by simp [BV] at h
 | (i,x)::qs,(off,n,y)::ps,h=>by
  simp only [BV,Bool.and_eq_true] at h
  obtain ⟨⟨h1,h2⟩,h3⟩:=h
  obtain ⟨q1,q2,q3⟩:=Hf qs ps h3
  refine ⟨by simp [q1],by simp [xC,h2,q2],fun j hj hj'=>?_⟩
  cases j with
  | zero=>
   split at h1
   ·rename_i f hf
    simp only [Bool.and_eq_true,beq_iff_eq] at h1
    exact ⟨f,by simpa using hf,h1.1,h1.2⟩
   ·cases h1
  | succ j=>simpa using q3 j (by simpa using hj) (by simpa using hj')
theorem FI {n:Nat}:∀(qs:List (Nat×Operand)) (ps:List (Nat×Nat×IX)),yg n qs ps=true→
  qs.length=ps.length∧xC (qs.map (·.2)) (ps.map (·.2.2))=true∧∀i (h:i<qs.length) (h':i<ps.length),qs[i].1 * n=ps[i].1∧ps[i].2.1=n
 | [],[],_=>⟨rfl,rfl,fun i h=>by simp at h⟩
 | [],_::_,h=>by simp [yg] at h
 | _::_,[],h=>by simp [yg] at h
 | (i,x)::qs,(off,m,y)::ps,h=>by
  simp only [yg,Bool.and_eq_true,beq_iff_eq] at h
  obtain ⟨⟨⟨h0,h1⟩,h2⟩,h3⟩:=h
  obtain ⟨q1,q2,q3⟩:=FI qs ps h3
  refine ⟨by simp [q1],by simp [xC,h2,q2],fun j hj hj'=>?_⟩
  cases j with
  | zero=>exact ⟨h0,h1⟩
  | succ j=>simpa using q3 j (by simpa using hj) (by simpa using hj')
theorem SN {fs:List Field} (h:∀f∈fs,∃i,P.info? f.type=some i):∃places,fs.mapM (fun f=>(P.info? f.type).map fun i=>(f.offset,i.size))=some places∧∀(j:Nat) f i,fs[j]?=some f→P.info? f.type=some i→places[j]?=some (f.offset,i.size):=by
 induction fs with
 | nil=>exact ⟨[],rfl,fun j f i hf=>by simp at hf⟩
 | cons f fs ih=>
  obtain ⟨i,hi⟩:=h f (by simp)
  obtain ⟨places,h1,h2⟩:=ih (fun f hf=>h f (by simp [hf]))
  refine ⟨(f.offset,i.size)::places,by simp [List.mapM_cons,hi,h1],fun j f' i' hf hi'=>?_⟩
  cases j with
  | zero=>simp at hf;subst hf;rw [hi] at hi';cases hi';rfl
  | succ j=>simpa using h2 j f' i' (by simpa using hf) hi'
theorem Ux {zs:List AV} {ps:List (Nat×Nat×IX)} (h:Sim P glob g s B w (Act.tm a) env) (hc:au P o.op (.build zs ps)=true) (hr:aop glob call cx env s (.build zs ps)=.ok e env' s'):Good P glob g s B w a (execOp a.eval o) e env' s':=by
 simp only [au] at hc
 split at hc
 ·rename_i t qs hop
  split at hc
  ·rename_i fs hu
   simp only [Bool.and_eq_true] at hc
   obtain ⟨⟨hz,hinfo⟩,hparts⟩:=hc
   obtain ⟨p1,p2,p3⟩:=Hf _ _ hparts
   obtain ⟨it,z,hit,hzz,hok⟩:=kM hz
   simp only [aop] at hr
   split at hr
   ·rename_i vs env1 he
    split at hr
    ·rename_i hall
     obtain ⟨r,h1,rfl,rfl,rfl⟩:=uJ hr
     obtain ⟨g1,s1,m1,r1⟩:=qB p2 h he
     have hvl:vs.length=ps.length:=by have:=r1.1;simp only [List.length_map] at this;omega
     cases hf:xB zs ((ps.zip vs).map fun p=>(p.1.1,p.2.cells)) with
     | none=>simp [hf] at h1
     | some cs'=>
      simp [hf] at h1
      subst h1
      obtain ⟨z1,z2⟩:=jy hok g1 s'.length
      obtain ⟨places,hpl,hpl2⟩:=SN (P:=P) (fs:=fs.toList) (fun f hf=>by
       have:=List.all_eq_true.1 hinfo f hf
       cases hq:P.info? f.type with
       | none=>simp [hq] at this
       | some i=>exact ⟨i,rfl⟩)
      have hzip:(((ps.map fun p=>(p.1,p.2.1)).zip vs).map fun p=>(p.1.1,p.2.cells))=(ps.zip vs).map fun p=>(p.1.1,p.2.cells):=by
       rw [List.zip_map_left,List.map_map];rfl
      obtain ⟨cells',f1,f2,f3⟩:=DF (g:=g1) (place:=fun i=>places.toArray[i]?) ((qs.map fun p=>(p.1,a.eval p.2)).toList) vs (ps.map fun p=>(p.1,p.2.1)) z.cells zs (n:=s'.length) (cs':=cs') (by simp [←p1]) (by simpa using hvl)
       (fun i hi hi'=>by
        simp at hi hi'
        obtain ⟨f,e1,e2,e3⟩:=p3 i (by simpa using hi) hi'
        obtain ⟨inf,e4,e5⟩:=gm e3
        have:=hpl2 (qs.toList[i]'(by simpa using hi)).1 f inf (by simpa using e1) e4
        simp at this ⊢
        rw [this,e2,e5])
       (by simpa [Function.comp_def] using r1)
       (fun i hi hi'=>by
        have hm:((ps[i]'(by simpa using hi')),vs[i])∈ps.zip vs:=by
         have:(ps.zip vs)[i]'(by simp;omega)=(ps[i]'(by simpa using hi'),vs[i]):=by simp
         rw [←this];exact List.getElem_mem _
        have:=List.all_eq_true.1 hall _ hm
        simp only [Bool.and_eq_true,beq_iff_eq] at this
        simpa using this)
       z1 z2 (by rw [hzip];exact hf)
      refine ⟨.agg cells',w,g1,.inl ?_,s1,m1,.v (I4 f2 f3)⟩
      simp only [execOp,hop]
      refine ay (run_build w t _ cells' ?_)
      simp only [Program.built,hit,hu,hzz,hpl]
      exact f1
    ·cases hr
   ·cases hr
  ·rename_i len el hu
   simp only [Bool.and_eq_true] at hc
   obtain ⟨hz,hparts⟩:=hc
   split at hparts
   case h_2=>cases hparts
   rename_i ie hie
   obtain ⟨p1,p2,p3⟩:=FI _ _ hparts
   obtain ⟨it,z,hit,hzz,hok⟩:=kM hz
   simp only [aop] at hr
   split at hr
   ·rename_i vs env1 he
    split at hr
    ·rename_i hall
     obtain ⟨r,h1,rfl,rfl,rfl⟩:=uJ hr
     obtain ⟨g1,s1,m1,r1⟩:=qB p2 h he
     have hvl:vs.length=ps.length:=by have:=r1.1;simp only [List.length_map] at this;omega
     cases hf:xB zs ((ps.zip vs).map fun p=>(p.1.1,p.2.cells)) with
     | none=>simp [hf] at h1
     | some cs'=>
      simp [hf] at h1
      subst h1
      obtain ⟨z1,z2⟩:=jy hok g1 s'.length
      have hzip:(((ps.map fun p=>(p.1,p.2.1)).zip vs).map fun p=>(p.1.1,p.2.cells))=(ps.zip vs).map fun p=>(p.1.1,p.2.cells):=by
       rw [List.zip_map_left,List.map_map];rfl
      obtain ⟨cells',f1,f2,f3⟩:=DF (g:=g1) (place:=fun i=>some (i * ie.size,ie.size)) ((qs.map fun p=>(p.1,a.eval p.2)).toList) vs (ps.map fun p=>(p.1,p.2.1)) z.cells zs (n:=s'.length) (cs':=cs') (by simp [←p1]) (by simpa using hvl)
       (fun i hi hi'=>by
        simp at hi hi'
        obtain ⟨e1,e2⟩:=p3 i (by simpa using hi) hi'
        simp at e1 e2 ⊢
        exact ⟨e1,e2.symm⟩)
       (by simpa [Function.comp_def] using r1)
       (fun i hi hi'=>by
        have hm:((ps[i]'(by simpa using hi')),vs[i])∈ps.zip vs:=by
         have:(ps.zip vs)[i]'(by simp;omega)=(ps[i]'(by simpa using hi'),vs[i]):=by simp
         rw [←this];exact List.getElem_mem _
        have:=List.all_eq_true.1 hall _ hm
        simp only [Bool.and_eq_true,beq_iff_eq] at this
        simpa using this)
       z1 z2 (by rw [hzip];exact hf)
      refine ⟨.agg cells',w,g1,.inl ?_,s1,m1,.v (I4 f2 f3)⟩
      simp only [execOp,hop]
      refine ay (run_build w t _ cells' ?_)
      simp only [Program.built,hit,hu,hzz,hie]
      exact f1
    ·cases hr
   ·cases hr
  ·cases hc
 ·cases hc
end Go.Ai
namespace Go.Ai
variable {P:Program} {glob:Nat→Option (List AV)} {g:af} {s:St} {B:Nat} {w:World} {env:Env} {a:Act} {o:Oper} {call:AV→List AV→St→Ctx→CO} {cx:Ctx} {e:EV} {env':Env} {s':St}
theorem QL {sz:Nat}:∀(vs:List AV) (k:Nat) (pre:List AV),pre.length=k * sz→(∀v∈vs,v.cells.length=sz)→
  xB (pre++List.replicate (vs.length * sz) .u) (((List.range' k vs.length).zip vs).map fun p=>(p.1 * sz,p.2.cells))=some (pre++vs.flatMap AV.cells)
 | [],k,pre,_,_=>by simp [xB]
 | v::vs,k,pre,hp,hv=>by
  have hv0:v.cells.length=sz:=hv v (by simp)
  simp only [List.length_cons,List.range'_succ,List.zip_cons_cons,List.map_cons,xB,List.flatMap_cons]
  rw [if_pos (by simp only [hv0,hp,Nat.succ_mul,List.length_append,List.length_replicate];omega)]
  have e1:splice (pre++List.replicate ((vs.length+1) * sz) .u) (k * sz) v.cells=(pre++v.cells)++List.replicate (vs.length * sz) .u:=by
   unfold splice
   rw [←hp,List.take_left,hv0,List.drop_length_add_append]
   rw [show (vs.length+1) * sz=sz+vs.length * sz by rw [Nat.succ_mul];omega,List.drop_replicate]
   congr 2;omega
  rw [e1,QL vs (k+1) (pre++v.cells) (by simp [hp,hv0,Nat.succ_mul]) (fun x hx=>hv x (by simp [hx]))]
  simp [List.append_assoc]
theorem He:∀(qs:List (Nat×Operand)) (ps:List (Nat×IX)),BU qs ps=true→qs.length=ps.length∧xC (qs.map (·.2)) (ps.map (·.2))=true∧qs.map (·.1)=ps.map (·.1)
 | [],[],_=>⟨rfl,rfl,rfl⟩
 | [],_::_,h=>by simp [BU] at h
 | _::_,[],h=>by simp [BU] at h
 | (i,x)::qs,(j,y)::ps,h=>by
  simp only [BU,Bool.and_eq_true,beq_iff_eq] at h
  obtain ⟨⟨h1,h2⟩,h3⟩:=h
  obtain ⟨q1,q2,q3⟩:=He qs ps h3
  exact ⟨by simp [q1],by simp [xC,h2,q2],by simp [h1,q3]⟩
theorem QM (h:Sim P glob g s B w (Act.tm a) env) {w':World} (hg:Grew True w w') {b:Nat} (hb:w.heap.size≤b) {arr:Array Value} {ty:TypeId} {fr:Nat×Nat} (hrow:w'.heap[b]?=some (.cells arr ty fr)) (xs:List Value)
  (hx:∀j (hj:j<xs.length),arr[j]?=some xs[j]):
  ∃g',Step True g s.length B w g' s.length w'∧Sim P glob g' s B w' (Act.tm a) env∧(∀j (hj:j<xs.length),g'.m b j=some xs[j]):=by
 obtain ⟨h2,s2⟩:=h.grew hg
 have hfr:=h.base.imm.fresh hb
 have hfo:=x9 h hb
 have hother:∀b',b'≠b→(g.claim b xs).m b'=g.m b':=by intro b' hb';funext j;simp [af.claim,hb']
 have hle:g.le s.length (g.claim b xs) s.length:=by
  refine ⟨fun b' o v hm=>?_,fun _ _ h=>h,fun _ _=>rfl,fun _ _ _ _ h=>h,Nat.le_refl _⟩
  by_cases hbb:b'=b
  ·subst hbb;rw [hfr.m o] at hm;cases hm
  ·rw [hother b' hbb];exact hm
 have him:Imm (g.claim b xs) w':=by
  refine ⟨fun b' o v hm=>?_,h2.base.imm.mm⟩
  by_cases hbb:b'=b
  ·subst hbb
   simp only [af.claim,true_and] at hm
   split at hm
   ·rename_i ho
    rw [cell_of_row _ b' o arr ty fr hrow,hx o ho]
    rw [List.getElem?_eq_getElem ho] at hm;exact hm
   ·rw [hfr.m o] at hm;cases hm
  ·rw [hother b' hbb] at hm;exact h2.base.imm.m b' o v hm
 refine ⟨g.claim b xs,s2.trans ⟨hle,Nat.le_refl _,fun _ _ _=>rfl,fun b' hb' _=>hother b' (by have:=h.B;omega),fun _ _=>rfl,fun b hb=>.inl hb,rfl,rfl,fun _=>⟨rfl,Nat.le_refl _⟩⟩,
  ⟨h2.base.fix hle him rfl (fun b' hb'=>⟨hother b' (fun hbb=>hfo.2 (by subst hbb;exact hb')),rfl⟩),h2.env.next hle (fun k e hk ho b' hb'=>⟨rfl,hother b' (fun hbb=>?_),rfl,fun ht=>ht⟩),h2.B⟩,fun j hj=>by simp [af.claim,hj]⟩
 ·subst hbb;exact hfo.1 k e hk ho hb'
theorem Xu {own:Bool} {el sz len:Nat} {zs:List AV} {ps:List (Nat×IX)} (h:Sim P glob g s B w (Act.tm a) env) (hc:au P o.op (.bsl own el sz len zs ps)=true) (hr:aop glob call cx env s (.bsl own el sz len zs ps)=.ok e env' s'):Good P glob g s B w a (execOp a.eval o) e env' s':=by
 simp only [au] at hc
 split at hc
 ·rename_i t n qs hop
  simp only [Bool.and_eq_true,beq_iff_eq] at hc
  obtain ⟨⟨⟨rfl,hsl⟩,hz⟩,hslots⟩:=hc
  obtain ⟨hu,hsz⟩:=fV hsl
  obtain ⟨p1,p2,p3⟩:=He _ _ hslots
  obtain ⟨it,z,hit,hzz,hok⟩:=kM hz
  simp only [aop] at hr
  split at hr
  ·rename_i vs env1 he
   split at hr
   ·rename_i hcond
    obtain ⟨hmax,hrange,hall,hzl⟩:=hcond
    obtain ⟨g1,s1,m1,r1⟩:=qB p2 h he
    have hvl:vs.length=ps.length:=by have:=r1.1;simp only [List.length_map] at this;omega
    have hpl:ps.length=n:=by have:=congrArg List.length hrange;simpa using this
    have hqs:qs.size=n:=by have:=p1;simp at this;omega
    have hall':∀v∈vs,v.cells.length=sz∧v.cells.all AV.one=true:=fun v hv=>by
     have:=List.all_eq_true.1 hall v hv
     simpa only [Bool.and_eq_true,beq_iff_eq] using this
    obtain ⟨z1,z2⟩:=jy hok g1 s.length
    have hzs:z.cells.size=sz:=by have:=z1.1;simp at this;omega
    -- the cells before they are filled
    let zero:Array Value:=if n * sz=0 then #[] else z.cells
    let FM:Array Value:=(Array.range (n * sz)).map (zero[· % zero.size]!)
    have hone0:bH FM.toList:=by
     intro v hv
     simp [FM] at hv
     obtain ⟨j,hj,rfl⟩:=hv
     have hne:¬n * sz=0:=by omega
     have hpos:0<sz:=Nat.pos_of_ne_zero (fun h0=>by rw [h0] at hj;simp at hj)
     simp only [zero,hne,if_false]
     have hlt:j % z.cells.size<z.cells.size:=Nat.mod_lt _ (by omega)
     rw [getElem!_pos z.cells _ hlt]
     exact z2 _ (by simp)
    obtain ⟨cells',f1,f2,f3⟩:=DF (g:=g1) (place:=fun i=>some (i * sz,sz)) ((qs.map fun p=>(p.1,a.eval p.2)).toList) vs ((List.range n).map fun i=>(i * sz,sz)) FM (List.replicate (n * sz) .u) (n:=s.length) (cs':=vs.flatMap AV.cells) (by simp;omega) (by simp;omega)
     (fun i hi hi'=>by
      simp at hi hi'
      have:qs.toList[i].1=i:=by
       have e1:(qs.toList.map (·.1))[i]'(by simpa using hi)=(List.range n)[i]'(by simpa using hi'):=by
        simp only [p3,hrange]
       simpa using e1
      simp at this ⊢
      rw [this])
     (by simpa [Function.comp_def] using r1)
     (fun i hi hi'=>by
      have:=hall' vs[i] (List.getElem_mem hi)
      simpa using this)
     ⟨by simp [FM],fun i hi hi'=>by simp only [List.getElem_replicate];exact .u _⟩ hone0
     (by
      have:=QL (sz:=sz) vs 0 [] (by simp) (fun v hv=>(hall' v hv).1)
      simp only [List.nil_append] at this
      rw [hvl,hpl] at this
      have e2:(((List.range n).map fun i=>(i * sz,sz)).zip vs).map (fun p=>(p.1.1,p.2.cells))=((List.range' 0 n).zip vs).map fun p=>(p.1 * sz,p.2.cells):=by
       rw [List.zip_map_left,List.map_map,List.range_eq_range'];rfl
      rw [e2];exact this)
    have hrun:(Instr.buildSlice t n (qs.map fun (i,x)=>(i,a.eval x))).run P w=.ok (.slice (some ⟨w.heap.size,0,none⟩) n n) (w.alloc (.cells cells' el)):=by
     have hbig:¬n * sz > 2 ^ 24:=by omega
     by_cases h0:n * sz=0
     ·have f1':=f1
      simp only [FM,zero,h0,if_true] at f1'
      simp [Instr.buildSlice,Sem.run_bind,run_underlying hu,run_sizeOf hsz,h0]
      simp [h0] at f1'
      rw [f1']
      simp [newRow,Sem.run_bind]
     ·have f1':=f1
      simp only [FM,zero,h0,if_false] at f1'
      simp [Instr.buildSlice,Sem.run_bind,run_underlying hu,run_sizeOf hsz,h0,hbig,zeroValue,typeInfo,hit,hzz]
      simp at f1'
      rw [f1']
      simp [newRow,Sem.run_bind]
    have hex:(execOp a.eval o).run P w=.ok (.value (.slice (some ⟨w.heap.size,0,none⟩) n n)) (w.alloc (.cells cells' el)):=by
     simp only [execOp,hop];exact ay hrun
    have hvn:vs.length=n:=by omega
    have hcl:cells'.size=n * sz:=by have:=f2.1;rw [pO (fun v hv=>(hall' v hv).1),hvn] at this;simpa using this
    cases own with
    | false=>
     simp only [Bool.false_eq_true,if_false] at hr
     cases hr
     obtain ⟨g2,s2,m2,c2⟩:=QM m1 (Grew.alloc (qt:=True) w (.cells cells' el)) (Nat.le_refl _) (heap_alloc_new w _) cells'.toList (fun j hj=>by simp at hj;simp [hj])
     refine ⟨_,_,g2,.inl hex,s1.trans s2,m2,.v ?_⟩
     have:=EM (g:=g2) (n:=s.length) (b:=w.heap.size) (off:=0) (cap:=n) (sz:=sz) (es:=vs) (xs:=cells'.toList) (by omega) (fun v hv=>(hall' v hv).1) (f2.mono s2.le) f3 (fun j hj=>by rw [Nat.zero_add];exact c2 j hj)
     rw [hvn] at this
     exact this
    | true=>
     simp only [if_true] at hr
     split at hr
     ·rename_i hpos
      cases hr
      obtain ⟨h2,s2⟩:=m1.grew (Grew.alloc (qt:=True) w (.cells cells' el))
      have hfr:=m1.base.imm.fresh (Nat.le_refl w.heap.size)
      refine ⟨_,_,g1,.inl hex,s1.trans s2,h2,⟨fun d _=>⟨cells'.toList, ?_,f2,f3,fun v hv=>(hall' v hv).1,hpos,fun b hb=>?_⟩,fun j hj=>by simp [EV.refers] at hj,fun _ b hb=>?_⟩⟩
      ·rw [upd_same]
       refine ⟨by simp [hcl,hvn],.inr ⟨w.heap.size,n,cells',by rw [hvn],m1.B,.of (heap_alloc_new w _),by omega, ?_,hcl, ?_⟩⟩
       ·have:n≤n * sz:=Nat.le_mul_of_pos_right n hpos
        simp only [maxLen];omega
       ·rw [List.take_of_length_le (by simp [hcl,hvn])]
      ·rw [upd_same] at hb;simp [aQ] at hb;subst hb
       exact ⟨hfr.mm,fun j _=>hfr.m j,fun j _=>by simpa using hfr.m j⟩
      ·simp [aQ] at hb;subst hb
       exact x9 m1 (Nat.le_refl _)
     ·cases hr
   ·cases hr
  ·cases hr
 ·cases hc
theorem ou {w:World} {b:Nat} {o:Obj} (h:b<w.heap.size):({ w with heap:=w.heap.setIfInBounds b o }:World).heap[b]?=some o:=by simp [h]
theorem aT {w:World} {b c:Nat} {o:Obj} (h:c≠b):({ w with heap:=w.heap.setIfInBounds b o }:World).heap[c]?=w.heap[c]?:=by
 simp [Array.getElem?_setIfInBounds,Ne.symm h]
theorem Xj {x:IX} (h:Sim P glob g s B w (Act.tm a) env) (hc:au P o.op (.s2b x)=true) (hr:aop glob call cx env s (.s2b x)=.ok e env' s'):Good P glob g s B w a (execOp a.eval o) e env' s':=by
 simp only [au] at hc
 split at hc
 ·rename_i src dst x' hop
  simp only [Bool.and_eq_true] at hc
  obtain ⟨⟨hx,hst⟩,hb⟩:=hc
  unfold QT at hb
  split at hb
  ·rename_i el hu
   split at hb
   ·rename_i hu8
    simp only [aop] at hr
    split at hr
    ·rename_i l hl
     cases hr
     have hxv:=iV (ai (a:=a) hx h.env h.base.glob hl)
     let cap:=(Question.appendCap l.length 0 el).cut (w.tape w.drawn (.appendCap l.length 0 el))
     let cells:Array Value:=(l.toArray.map fun b=>Value.int .u8 b.toNat)++Array.replicate (cap - l.length) (.int .u8 0)
     let w1:World:=w.drew.alloc (.cells cells el)
     let w':World:=w1.freeze ⟨w.heap.size,cells.size,none⟩ 1
     have hge:l.length≤cap:=by simp only [cap,Question.cut];omega
     have hw':w'.heap=w1.heap.modify w.heap.size fun
       | .cells c elem (lo,hi)=>.cells c elem (if lo == hi then (cells.size,cells.size+1) else (min lo cells.size,max hi (cells.size+1)))
       | o=>o:=rfl
     have hgrew:Grew True w w':=by
      refine ⟨?_,fun b hb=>?_,rfl,rfl,fun _=>⟨rfl,Nat.le_succ w.drawn⟩⟩
      ·rw [hw',Array.size_modify]
       exact Nat.le_of_lt (show w.heap.size<(w.heap.push (.cells cells el)).size by simp)
      ·rw [hw',Array.getElem?_modify,if_neg (by omega)]
       exact heap_alloc_old w.drew _ b hb
     have hrow:w'.heap[w.heap.size]?=some (.cells cells el (cells.size,cells.size+1)):=by
      rw [hw',Array.getElem?_modify,if_pos rfl]
      have:w1.heap[w.heap.size]?=some (.cells cells el (0,0)):=heap_alloc_new w.drew _
      rw [this];simp
     have hrun:(convert src dst (a.eval x')).run P w=.ok (.slice (some ⟨w.heap.size,0,none⟩) l.length cap) w':=by
      rw [hxv]
      have hshape:w1.shape? w.heap.size=some (el,cells.size):=by
       have:w1.heap[w.heap.size]?=some (.cells cells el (0,0)):=heap_alloc_new w.drew _
       simp [World.shape?,this]
      have e1:(Conv.stringToBytes el ⟨l.toArray⟩).run P w=.ok (.slice (some ⟨w.heap.size,0,none⟩) l.length cap) w':=by
       unfold Conv.stringToBytes
       simp only [Sem.run_bind,run_choose,Question.forced,ByteArray.size_mk']
       simp only [Bool.false_eq_true,if_false,Result.andThen,List.size_toArray]
       simp only [newRow,Sem.run_bind,newObj,Sem.run,Result.andThen,Sem.run_pure]
       show Result.andThen ((markStringish ⟨w.heap.size,0,none⟩).run P w1) _=_
       simp only [markStringish,Sem.run_bind,shape,Sem.run,hshape,Result.andThen,Sem.run_pure]
       simp only [freeze,Sem.run,Sem.run_pure,Result.andThen]
       rfl
      simp [convert,Sem.run_bind,run_underlying (uN hst),run_underlying hu,run_underlying hu8,e1]
     obtain ⟨g2,s2,m2,c2⟩:=QM h hgrew (Nat.le_refl _) hrow (l.map fun b=>Value.int .u8 b.toNat) (fun j hj=>by
      simp at hj
      simp only [cells]
      rw [Array.getElem?_append_left (by simpa using hj)]
      simp [hj])
     refine ⟨.slice (some ⟨w.heap.size,0,none⟩) l.length cap,w',g2,.inl ?_,s2,m2,.v ?_⟩
     ·simp only [execOp,hop];exact ay hrun
     ·have hlen:(iD l).length=l.length:=by simp [iD]
      have:=EM (g:=g2) (n:=s.length) (b:=w.heap.size) (off:=0) (cap:=cap) (sz:=1) (es:=iD l) (xs:=l.map fun b=>Value.int .u8 b.toNat) (by omega)
       (fun y hy=>by simp [iD] at hy;obtain ⟨b,_,rfl⟩:=hy;rfl)
       (by rw [Po l];exact ⟨by simp [iD],fun i hi hi'=>by simp [iD];exact .i _ _⟩) (fun v hv=>by simp at hv;obtain ⟨b,_,rfl⟩:=hv;rfl) (fun j hj=>by rw [Nat.zero_add];exact c2 j hj)
      rw [hlen] at this
      exact this
    ·cases hr
   ·cases hb
  ·cases hb
 ·cases hc
end Go.Ai
namespace Go.Ai
variable {P:Program} {glob:Nat→Option (List AV)} {g:af} {s:St} {B:Nat} {w:World} {env:Env} {a:Act} {call:AV→List AV→St→Ctx→CO} {cx:Ctx} {o:Oper} {e:EV} {env':Env} {s':St}
end Go.Ai
namespace Go.Ai
def dB (b:Nat) (s:St) (l:Nat):Prop:=
 match s[l]? with
 | some (.cells cs)=>cu b cs=true
 | some (.map es)=>mV b es=true
 | some (.mapo es)=>mV b es=true
 | some (.loop env _ _ _ _)=>∀k a,lk env k=some (.v a)→a.under b=true
 | some (.buf _ _ _ cs)=>cu b cs=true
 | _=>True
structure Ext (cx:Ctx) (s s':St):Prop where
 len:s.length≤s'.length
 dfr:∀l:Nat,s[l]?=some eH.dfr→s'[l]?=some eH.dfr
 lim:∀l:Nat,l<cx.lim→s'[l]?=s[l]?
 base:∀b,b≤cx.base→∀l,l<b→dB b s l→dB b s' l
theorem Ext.refl (cx:Ctx) (s:St):Ext cx s s:=⟨Nat.le_refl _,fun _ h=>h,fun _ _=>rfl,fun _ _ _ _ h=>h⟩
theorem Ext.trans {cx:Ctx} {s s' s'':St} (h:Ext cx s s') (h':Ext cx s' s''):Ext cx s s'':=
 ⟨Nat.le_trans h.len h'.len,fun l hl=>h'.dfr l (h.dfr l hl),fun l hl=>(h'.lim l hl).trans (h.lim l hl),fun b hb l hl hu=>h'.base b hb l hl (h.base b hb l hl hu)⟩
structure bQ (cx:Ctx) (s:St):Prop where
 lim:cx.lim≤s.length
 base:cx.base≤s.length
theorem bQ.ext {cx:Ctx} {s s':St} (h:bQ cx s) (he:Ext cx s s'):bQ cx s':=⟨Nat.le_trans h.lim he.len,Nat.le_trans h.base he.len⟩
theorem Ext.push {cx:Ctx} {s:St} (h:bQ cx s) (r:List eH):Ext cx s (s++r):=by
 refine ⟨by simp,fun l hl=>?_,fun l hl=>?_,fun b hb l hl hu=>?_⟩
 ·rw [List.getElem?_append_left (List.getElem?_eq_some_iff.1 hl).1];exact hl
 ·rw [List.getElem?_append_left (by have:=h.lim;omega)]
 ·unfold dB at hu ⊢
  rw [List.getElem?_append_left (by have:=h.base;omega)];exact hu
theorem zY (b:Nat):∀(x y:List AV),cu b (x++y)=(cu b x && cu b y)
 | [],y=>by simp [cu]
 | a::x,y=>by simp [cu,zY b x y,Bool.and_assoc]
theorem aN (b:Nat):∀(x:List AV),cu b x=true ↔ ∀a∈x,a.under b=true
 | []=>by simp [cu]
 | a::x=>by simp [cu,aN b x]
theorem gX (b:Nat):∀(x:List (AV×AV)),mV b x=true ↔ ∀p∈x,p.1.under b=true∧p.2.under b=true
 | []=>by simp [mV]
 | (a,c)::x=>by simp [mV,gX b x]
theorem MB (b:Nat) {a:AV} (h:a.QK=true):a.under b=true:=by cases a<;>simp_all [AV.QK,AV.under]
theorem Tm (b:Nat) {a:AV} (h:a.flat2=true):a.under b=true:=by
 cases a
 case ag cs=>
  simp only [AV.flat2,List.all_eq_true] at h
  simp only [AV.under,aN]
  exact fun a ha=>MB b (h a ha)
 all_goals exact MB b h
theorem qy (b:Nat) {a:AV} (h:a.flat=true):a.under b=true:=by
 cases a
 case sl es=>
  simp only [AV.flat,List.all_eq_true] at h
  simp only [AV.under,aN]
  exact fun a ha=>Tm b (h a ha)
 all_goals simp_all [AV.flat,AV.under]
theorem IU {b:Nat} {cs new:List AV} {o:Nat} (h:cu b cs=true) (h':new.all AV.flat=true):cu b (splice cs o new)=true:=by
 rw [aN] at h ⊢
 intro a ha
 simp only [splice,List.mem_append] at ha
 rcases ha with (ha|ha)|ha
 ·exact h a (List.mem_of_mem_take ha)
 ·exact qy b (List.all_eq_true.1 h' a ha)
 ·exact h a (List.mem_of_mem_drop ha)
variable {glob:Nat→Option (List AV)} {call:AV→List AV→St→Ctx→CO} {cx:Ctx} {env env':Env} {s s':St} {e:EV}
theorem J3 (b:Nat):∀{cs:List AV},RP cs=true→cu b cs=true
 | [],_=>rfl
 | c::cs,h=>by
  cases c<;>simp [RP] at h
  simp [cu,AV.under,J3 b h]
theorem LX (b:Nat):∀{ks:List Nat} {cs:List AV},Aj ks cs=true→cu b cs=true
 | [],[],_=>rfl
 | [],_::_,h=>by simp [Aj] at h
 | k::ks,cs,h=>by
  unfold Aj at h
  split at h<;>first|rfl|cases h | (rename_i h1;cases h1;simp [cu,AV.under,LX b h])
theorem KT (b:Nat) {kk:Nat} {a:AV} (h:qj kk a=true):a.under b=true:=by
 unfold qj at h
 split at h
 ·rfl
 ·rfl
 ·rfl
 ·split at h
  ·simp only [Bool.and_eq_true] at h;simpa [AV.under] using J3 b h.2
  ·simpa [AV.under] using LX b h
 ·cases h
theorem Ih {b kk:Nat} {k v:AV}:∀{es es':List (AV×AV)},Eo kk k v es=some es'→mV b es=true→k.under b=true→v.under b=true→mV b es'=true
 | [],es',h,_,hk,hv=>by simp [Eo] at h;subst h;simp [mV,hk,hv]
 | (k',v')::r,es',h,hu,hk,hv=>by
  simp only [mV,Bool.and_eq_true] at hu
  simp only [Eo] at h
  split at h
  ·cases h;simp [mV,hk,hv,hu.2]
  ·cases hm:Eo kk k v r with
   | none=>rw [hm] at h;cases h
   | some r'=>
    rw [hm] at h
    simp at h
    subst h
    have:=Ih hm hu.2 hk hv
    simp [mV,hu.1.1,hu.1.2,this]
  ·cases h
theorem OI {b kk:Nat} {k:AV}:∀{es es':List (AV×AV)},Nk kk k es=some es'→mV b es=true→mV b es'=true
 | [],es',h,_=>by simp [Nk] at h;subst h;rfl
 | (k',v')::r,es',h,hu=>by
  simp only [mV,Bool.and_eq_true] at hu
  simp only [Nk] at h
  split at h
  ·cases h;exact hu.2
  ·cases hm:Nk kk k r with
   | none=>rw [hm] at h;cases h
   | some r'=>
    rw [hm] at h
    simp at h
    subst h
    have:=OI hm hu.2
    simp [mV,hu.1.1,hu.1.2,this]
  ·cases h
def dO (call:AV→List AV→St→Ctx→CO):Prop:=∀fv args s cx r s',bQ cx s→(call fv args s cx=.ret r s'∨call fv args s cx=.pan r s')→Ext cx s s'
theorem NU {n:Nat} {a:IX} {v:AV} (h:lS glob cx env s n a v=some (env',s')):Ext cx s s':=by
 unfold lS at h
 split at h
 ·split at h
  ·split at h
   ·cases h;exact .refl _ _
   ·cases h
  ·split at h
   ·split at h
    ·cases h;exact .refl _ _
    ·cases h
   ·cases h
  ·split at h
   ·split at h
    ·split at h
     ·cases h;exact .refl _ _
     ·cases h
    ·cases h
   ·cases h
  ·rename_i l o _
   split at h
   ·rename_i cs hs
    split at h
    ·rename_i hcond
     cases h
     have hlt:l<s.length:=(List.getElem?_eq_some_iff.1 hs).1
     refine ⟨by simp,fun l' hl=>?_,fun l' hl=>?_,fun b hb l' hl hu=>?_⟩
     ·by_cases hll:l=l'
      ·subst hll;rw [hs] at hl;cases hl
      ·rw [List.getElem?_set_ne hll];exact hl
     ·rw [List.getElem?_set_ne (by omega)]
     ·unfold dB at hu ⊢
      by_cases hll:l=l'
      ·subst hll
       rw [hs] at hu
       rw [List.getElem?_set_self hlt]
       have hfl:v.cells.all AV.flat=true:=by
        rcases hcond.2.1 with h1|h1
        ·omega
        ·exact h1
       exact IU hu hfl
      ·rw [List.getElem?_set_ne hll];exact hu
    ·cases h
   ·cases h
  ·rename_i l ver o _
   split at h
   ·rename_i t sz ver' cs hs
    split at h
    ·rename_i hcond
     cases h
     have hlt:l<s.length:=(List.getElem?_eq_some_iff.1 hs).1
     refine ⟨by simp,fun l' hl=>?_,fun l' hl=>?_,fun b hb l' hl hu=>?_⟩
     ·by_cases hll:l=l'
      ·subst hll;rw [hs] at hl;cases hl
      ·rw [List.getElem?_set_ne hll];exact hl
     ·rw [List.getElem?_set_ne (by omega)]
     ·unfold dB at hu ⊢
      by_cases hll:l=l'
      ·subst hll
       rw [hs] at hu
       rw [List.getElem?_set_self hlt]
       have hfl:v.cells.all AV.flat=true:=by
        rcases hcond.2.2.1 with h1|h1
        ·omega
        ·exact h1
       exact IU hu hfl
      ·rw [List.getElem?_set_ne hll];exact hu
    ·cases h
   ·cases h
  ·cases h
 ·cases h
theorem EH {b:Nat} {cs:List AV} (h:cs.all AV.flat=true):cu b cs=true:=by
 rw [aN]
 intro a ha
 exact qy b (List.all_eq_true.1 h a ha)
theorem DN (hcx:bQ cx s) {t sz:Nat} {x y:IX} (h:aop glob call cx env s (.appk t sz x y)=.ok e env' s'):Ext cx s s':=by
 simp only [aop] at h
 split at h
 ·split at h
  ·cases h;exact .push hcx _
  ·cases h
 ·split at h
  ·cases h;exact .push hcx _
  ·cases h
 ·split at h
  ·rename_i _ l ver sz2 o m _ _ _ t2 sz3 ver2 cs hl
   split at h
   ·rename_i hcond
    cases h
    have hlt:l<s.length:=(List.getElem?_eq_some_iff.1 hl).1
    refine ⟨by simp,fun l' hd=>?_,fun l' hlt'=>?_,fun b hb l' hlt' hu=>?_⟩
    ·rw [List.getElem?_set_ne (fun he=>by subst he;rw [hl] at hd;cases hd)];exact hd
    ·rw [List.getElem?_set_ne (by omega)]
    ·by_cases hll:l=l'
     ·subst hll
      unfold dB at hu ⊢
      rw [hl] at hu
      rw [List.getElem?_set_self hlt]
      simp only [] at hu ⊢
      have hfl:=hcond.2.2.2.2.2.2.2.2.2
      rw [zY,Bool.and_eq_true]
      refine ⟨(aN b _).2 fun a ha=>(aN b _).1 hu a (List.mem_of_mem_drop (List.mem_of_mem_take ha)),EH ?_⟩
      rcases hfl with h1|h1
      ·omega
      ·exact h1
     ·unfold dB at hu ⊢
      rw [List.getElem?_set_ne hll];exact hu
   ·cases h
  ·cases h
 ·cases h
theorem JZ (hcx:bQ cx s) {t sz:Nat} {x y:IX} (h:aop glob call cx env s (.appr t sz x y)=.ok e env' s'):Ext cx s s':=by
 simp only [aop] at h
 split at h
 ·split at h
  ·cases h;exact .push hcx _
  ·cases h
 ·split at h
  ·cases h;exact .push hcx _
  ·cases h
 ·split at h
  ·rename_i _ l es _ _ _ t2 sz2 k hl
   split at h
   ·rename_i hcond
    cases h
    have hlt:l<s.length:=(List.getElem?_eq_some_iff.1 hl).1
    refine ⟨by simp,fun l' hd=>?_,fun l' hlt'=>?_,fun b hb l' hlt' hu=>?_⟩
    ·rw [List.getElem?_set_ne (fun he=>by subst he;rw [hl] at hd;cases hd)];exact hd
    ·rw [List.getElem?_set_ne (by omega)]
    ·by_cases hll:l=l'
     ·subst hll
      unfold dB
      rw [List.getElem?_set_self hlt];trivial
     ·unfold dB at hu ⊢
      rw [List.getElem?_set_ne hll];exact hu
   ·cases h
  ·cases h
 ·cases h
theorem MI {d t sz:Nat} {x y:IX} (h:aop glob call cx env s (.apprp d t sz x y)=.ok e env' s'):aop glob call cx env s (.appr t sz x y)=.ok e env' s'∨
  ∃v,elems glob env y=some []∧ev glob env x=some (.v v)∧(v=.ns∨v=.se∨∃l es,v=.st l es)∧e=.v v∧env'=env∧s'=s:=by
 simp only [aop] at h ⊢
 split at h
 ·cases h
 ·split at h
  ·rename_i ys h1 h2;rw [h1,h2]
   split at h
   ·rename_i hc
    left
    rw [if_pos hc];exact h
   ·split at h
    ·rename_i h0
     cases h
     have:ys=[]:=List.eq_nil_of_length_eq_zero h0
     subst this
     exact .inr ⟨_,rfl,rfl,.inl rfl,rfl,rfl,rfl⟩
    ·cases h
  ·rename_i ys h1 h2;rw [h1,h2]
   split at h
   ·rename_i hc
    left
    rw [if_pos hc];exact h
   ·split at h
    ·rename_i h0
     cases h
     have:ys=[]:=List.eq_nil_of_length_eq_zero h0
     subst this
     exact .inr ⟨_,rfl,rfl,.inr (.inl rfl),rfl,rfl,rfl⟩
    ·cases h
  ·rename_i ys l es h1 h2
   split at h
   ·rename_i t' sz' k hl
    split at h
    ·rename_i hc
     left
     rw [if_pos hc];exact h
    ·split at h
     ·rename_i h0
      cases h
      have:ys=[]:=List.eq_nil_of_length_eq_zero h0
      subst this
      exact .inr ⟨_,h1,h2,.inr (.inr ⟨l,es,rfl⟩),rfl,rfl,rfl⟩
     ·cases h
   ·cases h
  ·cases h
theorem RN (hcall:dO call) (hcx:bQ cx s) {op:AOp} (h:aop glob call cx env s op=.ok e env' s'):Ext cx s s':=by
 have same:∀{r:Option AV} {env1:Env},okv env1 s r=.ok e env' s'→Ext cx s s':=by
  intro r env1 hr
  cases r with
  | none=>simp [okv] at hr
  | some r=>simp [okv] at hr;rw [←hr.2.2];exact .refl _ _
 cases op with
 | hbox x=>
  simp only [aop] at h
  split at h
  ·split at h
   ·cases h;exact .push hcx _
   ·cases h
  ·cases h
 | halloc zs=>simp only [aop] at h;cases h;exact .push hcx _
 | store n a x=>
  simp only [aop] at h
  split at h
  ·split at h
   ·rename_i hst;cases h;exact NU hst
   ·cases h
  ·cases h
 | call f args=>
  simp only [aop] at h
  split at h
  ·split at h
   ·rename_i hc;cases h;exact hcall _ _ _ _ _ _ hcx (.inl hc)
   ·cases h
   ·cases h
  ·cases h
 | callp f args=>
  simp only [aop] at h
  split at h
  ·split at h
   ·rename_i hc;cases h;exact hcall _ _ _ _ _ _ hcx (.inl hc)
   ·cases h
   ·cases h
  ·cases h
 | callh d f args k=>
  simp only [aop] at h
  split at h
  ·cases h
  ·split at h
   ·split at h
    ·rename_i hc;split at h
     ·cases h;exact hcall _ _ _ _ _ _ hcx (.inl hc)
     ·cases h
    ·cases h
    ·cases h
   ·cases h
 | loadw n a bs=>
  simp only [aop] at h
  split at h
  ·split at h
   ·obtain ⟨_,_,_,_,rfl⟩:=uJ h;exact .refl _ _
   ·cases h
  ·cases h
 | loadv a k off=>
  simp only [aop] at h
  split at h
  ·split at h
   ·split at h
    ·cases h;exact .refl _ _
    ·cases h
   ·cases h
  ·cases h
 | hmap=>simp only [aop] at h;cases h;exact .push hcx _
 | hins kk m k v=>
  simp only [aop] at h
  split at h
  ·rename_i l key val env1 hm hk hv
   split at h
   ·rename_i es hl
    split at h
    ·rename_i es' hput
     split at h
     ·rename_i hcond
      cases h
      have hlt:l<s.length:=(List.getElem?_eq_some_iff.1 hl).1
      refine ⟨by simp,fun l' hd=>?_,fun l' hlt'=>?_,fun b hb l' hlt' hu=>?_⟩
      ·rw [List.getElem?_set_ne (fun he=>by subst he;rw [hl] at hd;cases hd)];exact hd
      ·rw [List.getElem?_set_ne (by omega)]
      ·by_cases hll:l=l'
       ·subst hll
        unfold dB at hu ⊢
        rw [hl] at hu
        rw [List.getElem?_set_self hlt]
        have hflat:val.flat=true:=by
         rcases hcond.2.2.2 with h1|h1
         ·omega
         ·exact h1
        exact Ih hput hu (KT b hcond.2.1) (qy b hflat)
       ·unfold dB at hu ⊢
        rw [List.getElem?_set_ne hll];exact hu
     ·cases h
    ·cases h
   ·rename_i es hl
    split at h
    ·rename_i es' hput
     split at h
     ·rename_i hcond
      cases h
      have hlt:l<s.length:=(List.getElem?_eq_some_iff.1 hl).1
      refine ⟨by simp,fun l' hd=>?_,fun l' hlt'=>?_,fun b hb l' hlt' hu=>?_⟩
      ·rw [List.getElem?_set_ne (fun he=>by subst he;rw [hl] at hd;cases hd)];exact hd
      ·rw [List.getElem?_set_ne (by omega)]
      ·by_cases hll:l=l'
       ·subst hll
        unfold dB at hu ⊢
        rw [hl] at hu
        rw [List.getElem?_set_self hlt]
        have hflat:val.flat=true:=by
         rcases hcond.2.2.2 with h1|h1
         ·omega
         ·exact h1
        exact Ih hput hu (KT b hcond.2.1) (qy b hflat)
       ·unfold dB at hu ⊢
        rw [List.getElem?_set_ne hll];exact hu
     ·cases h
    ·cases h
   ·cases h
  ·cases h
 | hmapo=>simp only [aop] at h;cases h;exact .push hcx _
 | ment kk z m k=>
  simp only [aop] at h
  split at h
  ·rename_i l key hm hk
   split at h
   ·rename_i es hl
    split at h
    ·rename_i hcond
     split at h
     ·cases h;exact .refl _ _
     ·cases h
      have hlt:l<s.length:=(List.getElem?_eq_some_iff.1 hl).1
      refine ⟨by simp,fun l' hd=>?_,fun l' hlt'=>?_,fun b hb l' hlt' hu=>?_⟩
      ·rw [List.getElem?_set_ne (fun he=>by subst he;rw [hl] at hd;cases hd)];exact hd
      ·rw [List.getElem?_set_ne (by omega)]
      ·by_cases hll:l=l'
       ·subst hll
        unfold dB at hu ⊢
        rw [hl] at hu
        rw [List.getElem?_set_self hlt]
        exact (gX b _).2 fun p hp=>by
         rcases List.mem_append.1 hp with hp|hp
         ·exact (gX b _).1 hu p hp
         ·simp at hp;subst hp;exact ⟨KT b hcond.1,qy b hcond.2.2.2⟩
       ·unfold dB at hu ⊢
        rw [List.getElem?_set_ne hll];exact hu
     ·cases h
    ·cases h
   ·cases h
  ·cases h
 | msto m i v=>
  simp only [aop] at h
  split at h
  ·rename_i l n val env1 hm hn hv
   split at h
   ·rename_i es hl
    split at h
    ·rename_i key old hget
     split at h
     ·rename_i hcond
      cases h
      have hlt:l<s.length:=(List.getElem?_eq_some_iff.1 hl).1
      refine ⟨by simp,fun l' hd=>?_,fun l' hlt'=>?_,fun b hb l' hlt' hu=>?_⟩
      ·rw [List.getElem?_set_ne (fun he=>by subst he;rw [hl] at hd;cases hd)];exact hd
      ·rw [List.getElem?_set_ne (by omega)]
      ·by_cases hll:l=l'
       ·subst hll
        unfold dB at hu ⊢
        rw [hl] at hu
        rw [List.getElem?_set_self hlt]
        have hflat:val.flat=true:=by
         rcases hcond.2.2.2 with h1|h1
         ·omega
         ·exact h1
        exact (gX b _).2 fun p hp=>by
         rcases List.mem_or_eq_of_mem_set hp with hp|hp
         ·exact (gX b _).1 hu p hp
         ·subst hp
          exact ⟨((gX b _).1 hu _ (List.mem_of_getElem? hget)).1,qy b hflat⟩
       ·unfold dB at hu ⊢
        rw [List.getElem?_set_ne hll];exact hu
     ·cases h
    ·cases h
   ·cases h
  ·cases h
 | hdel kk m k=>
  simp only [aop] at h
  split at h
  ·rename_i l key hm hk
   split at h
   ·rename_i es hl
    split at h
    ·rename_i es' hput
     split at h
     ·rename_i hcond
      cases h
      have hlt:l<s.length:=(List.getElem?_eq_some_iff.1 hl).1
      refine ⟨by simp,fun l' hd=>?_,fun l' hlt'=>?_,fun b hb l' hlt' hu=>?_⟩
      ·rw [List.getElem?_set_ne (fun he=>by subst he;rw [hl] at hd;cases hd)];exact hd
      ·rw [List.getElem?_set_ne (by omega)]
      ·by_cases hll:l=l'
       ·subst hll
        unfold dB at hu ⊢
        rw [hl] at hu
        rw [List.getElem?_set_self hlt]
        exact OI hput hu
       ·unfold dB at hu ⊢
        rw [List.getElem?_set_ne hll];exact hu
     ·cases h
    ·cases h
   ·cases h
  ·cases h
 | appr t sz x y=>exact JZ hcx h
 | apprp d t sz x y=>
  rcases MI h with h' | ⟨_,_,_,_,_,_,rfl⟩
  ·exact JZ hcx h'
  ·exact .refl _ _
 | appk t sz x y=>exact DN hcx h
 | appz t sz zs x y=>
  simp only [aop] at h
  split at h
  ·split at h
   ·cases h;exact .push hcx _
   ·cases h
  ·cases h
 | capn x=>
  simp only [aop] at h
  split at h
  ·cases h;exact .refl _ _
  ·cases h
 | appe t sz x y=>
  cases hy:elems glob env y with
  | none=>
   have h2:aop glob call cx env s (.appk t sz x y)=.ok e env' s':=by rw [←h];simp only [aop,hy]
   exact DN hcx h2
  | some ys=>
   cases ys with
   | nil=>
    simp only [aop,hy] at h
    split at h
    ·cases h;exact .refl _ _
    ·cases h;exact .refl _ _
    ·cases h
   | cons y0 ys=>
    have h2:aop glob call cx env s (.appk t sz x y)=.ok e env' s':=by rw [←h];simp only [aop,hy]
    exact DN hcx h2
 | mks t sz zs x=>
  simp only [aop] at h
  split at h
  ·split at h
   ·cases h;exact .push hcx _
   ·cases h
  ·cases h
 | asgk t sz x=>
  simp only [aop] at h
  split at h
  ·split at h
   ·cases h;exact .push hcx _
   ·cases h
  ·cases h
 | appks t x y=>
  simp only [aop] at h
  split at h
  ·split at h
   ·cases h;exact .push hcx _
   ·cases h
  ·split at h
   ·rename_i _ l ver sz2 o m _ _ _ t2 sz3 ver2 cs hl
    split at h
    ·rename_i hcond
     cases h
     have hlt:l<s.length:=(List.getElem?_eq_some_iff.1 hl).1
     refine ⟨by simp,fun l' hd=>?_,fun l' hlt'=>?_,fun b hb l' hlt' hu=>?_⟩
     ·rw [List.getElem?_set_ne (fun he=>by subst he;rw [hl] at hd;cases hd)];exact hd
     ·rw [List.getElem?_set_ne (by omega)]
     ·by_cases hll:l=l'
      ·subst hll
       unfold dB at hu ⊢
       rw [hl] at hu
       rw [List.getElem?_set_self hlt]
       simp only [] at hu ⊢
       rw [zY,Bool.and_eq_true]
       exact ⟨(aN b _).2 fun a ha=>(aN b _).1 hu a (List.mem_of_mem_drop (List.mem_of_mem_take ha)),EH (by simp [iD,AV.flat])⟩
      ·unfold dB at hu ⊢
       rw [List.getElem?_set_ne hll];exact hu
    ·cases h
   ·cases h
  ·cases h
 | appv t sz x y=>
  simp only [aop] at h
  split at h
  ·cases h;exact .refl _ _
  ·split at h
   ·cases h;exact .push hcx _
   ·cases h
  ·cases h
 | lallocp d zs=>
  simp only [aop] at h
  split at h
  ·cases h
  ·cases h;exact .refl _ _
 | hallocp d zs=>
  simp only [aop] at h
  split at h
  ·cases h
  ·cases h;exact .push hcx _
 | storep n a x=>
  simp only [aop] at h
  split at h
  ·split at h
   ·rename_i hst;cases h;exact NU hst
   ·cases h
  ·cases h
 | loadl n a=>
  simp only [aop] at h
  split at h<;>first | (cases h;done) | (obtain ⟨_,_,_,_,rfl⟩:=uJ h;exact .refl _ _)
 | storel n k x=>
  simp only [aop] at h
  split at h
  ·split at h
   ·cases h;exact .refl _ _
   ·cases h
  ·cases h
 | umap d=>
  simp only [aop] at h
  split at h
  ·cases h
  ·cases h;exact .push hcx _
 | uins m k v=>
  simp only [aop] at h
  split at h
  ·split at h
   ·rename_i l key val _ _ _ _ es hl
    split at h
    ·rename_i hcond
     cases h
     have hlt:l<s.length:=(List.getElem?_eq_some_iff.1 hl).1
     refine ⟨by simp,fun l' hd=>?_,fun l' hlt'=>?_,fun b hb l' hlt' hu=>?_⟩
     ·rw [List.getElem?_set_ne (fun he=>by subst he;rw [hl] at hd;cases hd)];exact hd
     ·rw [List.getElem?_set_ne (by omega)]
     ·by_cases hll:l=l'
      ·subst hll
       unfold dB
       rw [List.getElem?_set_self hlt];trivial
      ·unfold dB at hu ⊢
       rw [List.getElem?_set_ne hll];exact hu
    ·cases h
   ·cases h
  ·cases h
 | clrk zs x=>
  simp only [aop] at h
  split at h
  ·rename_i l ver sz o m hrd
   split at h
   ·cases h;exact .refl _ _
   ·rename_i n t sz' ver' cs hl
    split at h
    ·rename_i hcond
     cases h
     have hlt:l<s.length:=(List.getElem?_eq_some_iff.1 hl).1
     refine ⟨by simp,fun l' hd=>?_,fun l' hlt'=>?_,fun b hb l' hlt' hu=>?_⟩
     ·rw [List.getElem?_set_ne (fun he=>by subst he;rw [hl] at hd;cases hd)];exact hd
     ·rw [List.getElem?_set_ne (by have:=hcond.2.2.2.2.2.1;omega)]
     ·unfold dB at hu ⊢
      rw [List.getElem?_set_ne (by have:=hcond.2.2.2.2.2.2;omega)];exact hu
    ·cases h
   ·cases h
  ·cases h
 | len k x=>
  simp only [aop] at h
  match k with
  | 0=>simp only [aop] at h;(repeat' split at h)<;>first | (cases h;done) | (cases h;exact .refl _ _)
  | 1=>simp only [aop] at h;(repeat' split at h)<;>first | (cases h;done) | (cases h;exact .refl _ _)
  | 2=>simp only [aop] at h;(repeat' split at h)<;>first | (cases h;done) | (cases h;exact .refl _ _)
  | k+3=>simp only [aop] at h;cases h
 | _=>
  all_goals
   simp only [aop] at h
   first
    | exact same h
    | ((repeat' split at h)<;>first | (cases h;done) | (exact same h) | (cases h;exact .refl _ _))
def Out.st:Out→Option St
 | .norm _ s | .exit _ _ s | .ret _ s | .goto _ _ s | .pan _ s=>some s
 | .fail=>none
theorem TK (hcall:dO call) (hcx:bQ cx s) {op:AOp} {v:AV} (h:aop glob call cx env s op=.pan v s'):Ext cx s s':=by
 cases op with
 | call f args=>
  simp only [aop] at h
  split at h
  ·split at h
   ·cases h
   ·rename_i hc;cases h;exact hcall _ _ _ _ _ _ hcx (.inr hc)
   ·cases h
  ·cases h
 | callp f args=>
  simp only [aop] at h
  split at h
  ·split at h
   ·cases h
   ·rename_i hc;cases h;exact hcall _ _ _ _ _ _ hcx (.inr hc)
   ·cases h
  ·cases h
 | callh d f args k=>
  simp only [aop] at h
  split at h
  ·cases h
  ·split at h
   ·split at h
    ·split at h<;>cases h
    ·rename_i hc;cases h;exact hcall _ _ _ _ _ _ hcx (.inr hc)
    ·cases h
   ·cases h
 | loadw n a bs=>
  simp only [aop,okv] at h
  (repeat' split at h)<;>cases h
 | loadv a k off=>
  simp only [aop] at h
  (repeat' split at h)<;>cases h
 | panic x=>
  simp only [aop] at h
  split at h
  ·cases h;exact .refl _ _
  ·cases h
 | len k x=>
  exfalso
  match k with
  | 0=>simp only [aop] at h;(repeat' split at h)<;>cases h
  | 1=>simp only [aop] at h;(repeat' split at h)<;>cases h
  | 2=>simp only [aop] at h;(repeat' split at h)<;>cases h
  | k+3=>simp only [aop] at h;cases h
 | _=>
  exfalso
  simp only [aop,okv] at h
  (repeat' split at h)<;>cases h
theorem jR (hcall:dO call) (hcx:bQ cx s) {o:ak} (h:(bD glob call cx o env s).st=some s'):Ext cx s s':=by
 unfold bD at h
 split at h
 ·simp [Out.st] at h
 ·split at h<;>(simp [Out.st] at h;subst h;exact .refl _ _)
 ·split at h
  ·simp [Out.st] at h
  ·rename_i hp;simp [Out.st] at h;subst h;exact TK hcall hcx hp
  ·rename_i e env1 s1 ha
   split at h
   ·split at h
    ·simp [Out.st] at h
    ·simp [Out.st] at h;subst h;exact RN hcall hcx ha
   ·simp [Out.st] at h;subst h;exact RN hcall hcx ha
theorem CB (hcall:dO call):∀(ops:List ak) {env:Env} {s:St},bQ cx s→(gq glob call cx ops env s).st=some s'→Ext cx s s'
 | [],env,s,_,h=>by simp [gq,Out.st] at h;subst h;exact .refl _ _
 | o::r,env,s,hcx,h=>by
  unfold gq at h
  split at h
  ·rename_i env1 s1 hr
   have h1:Ext cx s s1:=jR hcall hcx (o:=o) (by rw [hr];rfl)
   exact h1.trans (CB hcall r (hcx.ext h1) h)
  ·exact jR hcall hcx h
theorem XW {o:ak} (h:(xE glob call o env s).st=some s'):s'=s:=by
 unfold xE at h
 split at h
 ·simp [Out.st] at h
 ·split at h
  ·simp [Out.st] at h;exact h.symm
  ·split at h<;>simp [Out.st] at h;exact h.symm
theorem SA (hcall:dO call) (hcx:bQ cx s) {o:ak} (h:(bV glob call cx o env s).st=some s'):Ext cx s s':=by
 unfold bV at h
 split at h
 ·rw [XW h];exact .refl _ _
 ·exact jR hcall hcx h
theorem EL (hcall:dO call) {aops:List ak}:∀(π:List Nat) {env:Env} {s:St},bQ cx s→(dX glob call cx aops π env s).st=some s'→Ext cx s s'
 | [],env,s,_,h=>by simp [dX,Out.st] at h;subst h;exact .refl _ _
 | o::r,env,s,hcx,h=>by
  unfold dX at h
  split at h
  ·simp [Out.st] at h
  ·split at h
   ·rename_i env1 s1 hr
    have h1:Ext cx s s1:=SA hcall hcx (by rw [hr];rfl)
    exact h1.trans (EL hcall r (hcx.ext h1) h)
   ·exact SA hcall hcx h
theorem zA {aops:List ak} {π:List Nat} {o:Out} (h:yj glob call cx aops π env s=o) (ho:o≠.fail):
  ∃c oc env1 s1 v s2,Vl aops π=some (c,oc)∧((HY aops c oc false π).all fun j=>match aops[j]? with|some o=>o.op.pre && (yR o oc || Aw o oc || (π.takeWhile fun x=>x != c).contains j)|none=>false)=true∧
   dX glob call cx aops (HY aops c oc false π) env s=.norm env1 s1∧bD glob call cx oc env1 s1=.pan v s2∧o=.pan v s2:=by
 unfold yj at h
 split at h
 ·exact absurd h.symm ho
 ·rename_i c oc hpc
  split at h
  ·rename_i hall
   split at h
   ·rename_i env1 s1 h1
    split at h
    ·rename_i v s2 h2;exact ⟨c,oc,env1,s1,v,s2,hpc,hall,h1,h2,h.symm⟩
    ·exact absurd h.symm ho
   ·exact absurd h.symm ho
  ·exact absurd h.symm ho
theorem N8 (hcall:dO call) {aops:List ak} (hcx:bQ cx s) {ord:Option (List Nat×List Nat)} (h:(kP glob call cx aops env s ord).st=some s'):Ext cx s s':=by
 cases ord with
 | none=>exact CB hcall _ hcx h
 | some p=>
  simp only [kP] at h
  cases hd:dX glob call cx aops p.1 (AX env p.2) s with
  | pan v s1=>
   rw [hd] at h
   replace h:(yj glob call cx aops p.1 (AX env p.2) s).st=some s':=h
   obtain ⟨c,oc,env1,s2,v',s3,_,_,h1,h2,h3⟩:=zA (glob:=glob) (call:=call) (cx:=cx) (aops:=aops) (π:=p.1) (env:=AX env p.2) (s:=s) rfl (fun hf=>by rw [hf] at h;cases h)
   rw [h3] at h
   cases h
   have e1:Ext cx s s2:=EL hcall _ hcx (by rw [h1];rfl)
   exact e1.trans (jR hcall (hcx.ext e1) (by rw [h2];rfl))
  | _=>
   rw [hd] at h
   exact EL hcall _ hcx (by rw [hd];exact h)
theorem Qz {body:Env→St→Out} {keep:List Nat} (hb:∀env s s',bQ cx s→(body env s).st=some s'→Ext cx s s'):∀(n:Nat) {env:Env} {s:St},bQ cx s→(qR body keep n env s).st=some s'→Ext cx s s'
 | 0,env,s,_,h=>by simp [qR,Out.st] at h
 | n+1,env,s,hcx,h=>by
  unfold qR at h
  split at h
  ·rename_i env1 s1 hr
   have h1:Ext cx s s1:=hb _ _ _ hcx (by rw [hr];rfl)
   exact h1.trans (Qz hb n (hcx.ext h1) h)
  ·exact hb _ _ _ hcx h
theorem NY {body:Env→St→Out} {l:Nat} {keep:List Nat} (hb:∀env s s',bQ cx s→(body env s).st=some s'→Ext cx s s'):∀(n:Nat) {env:Env} {s:St},bQ cx s→(jQ body l keep n env s).st=some s'→Ext cx s s'
 | 0,env,s,_,h=>by simp [jQ,Out.st] at h
 | n+1,env,s,hcx,h=>by
  unfold jQ at h
  split at h
  ·rename_i l' env1 s1 hr
   have h1:Ext cx s s1:=hb _ _ _ hcx (by rw [hr];rfl)
   split at h
   ·exact h1.trans (NY hb n (hcx.ext h1) h)
   ·simp [Out.st] at h
  ·exact hb _ _ _ hcx h
theorem aW (hcall:dO call) {ro:Bool} {N:Nat}:∀(c:ah) {env:Env} {s s':St},bQ cx s→(aI glob call cx ro N c env s).st=some s'→Ext cx s s'
 | .skip,env,s,s',_,h=>by simp [aI,Out.st] at h;subst h;exact .refl _ _
 | .ret,env,s,s',_,h=>by simp [aI,Out.st] at h;subst h;exact .refl _ _
 | .exit id,env,s,s',_,h=>by simp [aI,Out.st] at h;subst h;exact .refl _ _
 | .region ops ord keep,env,s,s',hcx,h=>by
  simp only [aI] at h
  split at h
  ·rename_i env1 s1 hr
   simp [Out.st] at h;subst h
   exact N8 hcall hcx (by rw [hr];rfl)
  ·exact N8 hcall hcx h
 | .seq a b,env,s,s',hcx,h=>by
  simp only [aI] at h
  split at h
  ·rename_i env1 s1 hr
   have h1:=aW hcall a hcx (env:=env) (s':=s1) (by rw [hr];rfl)
   exact h1.trans (aW hcall b (hcx.ext h1) h)
  ·exact aW hcall a hcx h
 | .cond c a b,env,s,s',hcx,h=>by
  simp only [aI] at h
  split at h
  ·exact aW hcall a hcx h
  ·exact aW hcall b hcx h
  ·simp [Out.st] at h
 | .block id b,env,s,s',hcx,h=>by
  simp only [aI] at h
  split at h
  ·rename_i id' env1 s1 hr
   have h1:=aW hcall b hcx (env:=env) (s':=s1) (by rw [hr];rfl)
   split at h<;>(simp [Out.st] at h;subst h;exact h1)
  ·exact aW hcall b hcx h
 | .loop keep b,env,s,s',hcx,h=>by
  simp only [aI] at h
  exact Qz (fun env s s' hcx h=>aW hcall b hcx h) N hcx h
 | .range f ps asg body,env,s,s',hcx,h=>by
  simp only [aI] at h
  split at h
  ·simp [Out.st] at h
  ·split at h
   ·split at h
    ·rename_i r s1 hr
     have h0:Ext cx s (s++[.dfr,.loop (mX env) ps asg body .ready]):=.push hcx _
     have h1:=hcall _ _ _ _ _ _ (hcx.ext h0) (.inl hr)
     have h2:Ext cx s1 (s1.set (s.length+1) .dead):=by
      have hlim:=hcx.lim
      have hbase:=hcx.base
      have hd:=h1.len
      have hnd:s1[s.length+1]?≠some .dfr:=by
       intro hc
       unfold Oh at h
       rw [hc] at h
       simp [Out.st] at h
      refine ⟨by simp,fun l hl=>?_,fun l hl=>?_,fun b hb l hl hu=>?_⟩
      ·rw [List.getElem?_set_ne (fun he=>by subst he;exact hnd hl)];exact hl
      ·rw [List.getElem?_set_ne (by omega)]
      ·unfold dB at hu ⊢
       rw [List.getElem?_set_ne (by omega)];exact hu
     unfold Oh at h
     split at h
     ·simp [Out.st] at h;subst h;exact (h0.trans h1).trans h2
     ·simp [Out.st] at h;subst h;exact (h0.trans h1).trans h2
     ·simp [Out.st] at h;subst h;exact (h0.trans h1).trans h2
     ·simp [Out.st] at h
    ·simp [Out.st] at h
   ·simp [Out.st] at h
 | .cut,env,s,s',_,h=>by simp [aI,Out.st] at h
 | .label l,env,s,s',_,h=>by simp [aI,Out.st] at h;subst h;exact .refl _ _
 | .goto l,env,s,s',_,h=>by simp [aI,Out.st] at h;subst h;exact .refl _ _
 | .scope l keep a b,env,s,s',hcx,h=>by
  simp only [aI] at h
  split at h
  ·rename_i l' env1 s1 hr
   have h1:=aW hcall a hcx (env:=env) (s':=s1) (by rw [hr];rfl)
   split at h
   ·exact h1.trans (NY (fun env s s' hcx h=>aW hcall b hcx h) N (hcx.ext h1) h)
   ·simp [Out.st] at h
  ·exact aW hcall a hcx h
theorem Ext.take {cx cx':Ctx} {s s1:St} (h:Ext cx' s s1) (hcx:bQ cx s) (hl:cx.lim≤cx'.lim) (hb:cx.base≤cx'.base):Ext cx s (s1.take s.length):=by
 refine ⟨by simp;have:=h.len;omega,fun l hd=>?_,fun l hlt=>?_,fun b hbb l hlt hu=>?_⟩
 ·rw [List.getElem?_take_of_lt (List.getElem?_eq_some_iff.1 hd).1];exact h.dfr l hd
 ·rw [List.getElem?_take_of_lt (by have:=hcx.lim;omega)];exact h.lim l (by omega)
 ·have:=h.base b (by omega) l hlt hu
  unfold dB at this ⊢
  rw [List.getElem?_take_of_lt (by have:=hcx.base;omega)];exact this
theorem Ext.weaken {cx cx':Ctx} {s s1:St} (h:Ext cx' s s1) (hl:cx.lim≤cx'.lim) (hb:cx.base≤cx'.base):Ext cx s s1:=
 ⟨h.len,h.dfr,fun l hlt=>h.lim l (by omega),fun b hbb l hlt hu=>h.base b (by omega) l hlt hu⟩
def aC.inner (fn:aC) (s:St) (cx:Ctx):Ctx:=⟨if fn.pure then s.length else cx.lim,if fn.keep then cx.base else s.length⟩
theorem aC.cxOK {fn:aC} (hcx:bQ cx s):bQ (fn.inner s cx) s:=by
 refine ⟨?_, ?_⟩
 ·show (if fn.pure=true then s.length else cx.lim)≤s.length
  split
  ·exact Nat.le_refl _
  ·exact hcx.lim
 ·show (if fn.keep=true then cx.base else s.length)≤s.length
  split
  ·exact hcx.base
  ·exact Nat.le_refl _
theorem aC.cxLim {fn:aC} (hcx:bQ cx s):cx.lim≤(fn.inner s cx).lim:=by
 show cx.lim≤(if fn.pure=true then s.length else cx.lim)
 split
 ·exact hcx.lim
 ·exact Nat.le_refl _
theorem aC.cxBase {fn:aC} (hcx:bQ cx s):cx.base≤(fn.inner s cx).base:=by
 show cx.base≤(if fn.keep=true then cx.base else s.length)
 split
 ·exact Nat.le_refl _
 ·exact hcx.base
theorem IG {fn:aC} {s1:St} {r r0:AV} (hcx:bQ cx s) (he:Ext (fn.inner s cx) s s1) (hh:finish fn.pure fn.keep s s1 r0=.ret r s'):Ext cx s s':=by
 unfold finish at hh
 split at hh
 ·cases hh;exact he.weaken (aC.cxLim hcx) (aC.cxBase hcx)
 ·cases hp:fn.pure with
  | true=>
   rw [hp] at hh
   simp only [if_true] at hh
   split at hh
   ·cases hh;exact .refl _ _
   ·split at hh
    ·cases hh;exact .refl _ _
    ·cases hh
  | false=>
   rw [hp] at hh
   simp only [Bool.false_eq_true,if_false] at hh
   split at hh
   ·rename_i hlen
    cases hh
    have:=he.take hcx (aC.cxLim hcx) (aC.cxBase hcx)
    rwa [←hlen,List.take_length] at this
   ·split at hh
    ·cases hh;exact he.take hcx (aC.cxLim hcx) (aC.cxBase hcx)
    ·cases hh
theorem Qm {c:CO} {v:AV} {s:St} (h:c.toPan=.pan v s):c=.ret v s:=by
 cases c<;>simp [CO.toPan] at h
 rw [h.1,h.2]
theorem Si {c:CO} {v:AV} {s:St} (h:c.toPan=.ret v s):False:=by cases c<;>simp [CO.toPan] at h
theorem UH (hcall:dO call) {N:Nat} {fn:aC} {args:List AV} {r:AV} (hcx:bQ cx s) (h:qC glob call N fn args s cx=.ret r s'∨qC glob call N fn args s cx=.pan r s'):Ext cx s s':=by
 have hcx':bQ (fn.inner s cx) s:=aC.cxOK hcx
 have key:∀env1 s1 o,(o=.ret r s'∨o=.pan r s')→Ext (fn.inner s cx) s s1→(match iM glob env1 s1 fn.res with|some rs=>finish fn.pure fn.keep s s1 (lQ rs)|none=>.fail)=o→Ext cx s s':=by
  intro env1 s1 o ho he hh
  split at hh
  ·rcases ho with rfl|rfl
   ·exact IG hcx he hh
   ·exfalso;unfold finish at hh;(repeat' split at hh)<;>cases hh
  ·subst hh;rcases ho with ho|ho<;>cases ho
 have hst:∀{out:Out} {s1:St},aI glob call (fn.inner s cx) fn.keep N fn.code (sH args 0) s=out→out.st=some s1→Ext (fn.inner s cx) s s1:=fun {out s1} h1 h2=>aW hcall _ hcx' (by rw [h1];exact h2)
 generalize ho:qC glob call N fn args s cx=o at h
 unfold qC at ho
 split at ho
 ·split at ho
  ·rename_i env1 s1 hr;exact key env1 s1 o h (hst hr rfl) ho
  ·rename_i env1 s1 hr;exact key env1 s1 o h (hst hr rfl) ho
  ·rename_i v s1 hr
   rcases h with rfl|rfl
   ·exact absurd ho (fun h=>Si h)
   ·exact IG hcx (hst hr rfl) (Qm ho)
  ·subst ho;rcases h with h|h<;>cases h
 ·subst ho;rcases h with h|h<;>cases h
theorem Hw:∀(ls:List Nat) (news:List (List AV)) {cx:Ctx} {n:Nat} {s:St},cx.lim≤n→cx.base≤n→rH n s ls news=true→Ext cx s (jh s ls news)
 | [],[],_,_,_,_,_,_=>.refl _ _
 | [],_::_,_,_,_,_,_,h=>by simp [rH] at h
 | _::_,[],_,_,_,_,_,h=>by simp [rH] at h
 | l::ls,c::cs,cx,n,s,hl,hb,h=>by
  simp only [rH,Bool.and_eq_true,decide_eq_true_eq] at h
  obtain ⟨⟨⟨⟨h1,h2⟩,h3⟩,h4⟩,h5⟩:=h
  have hnm:l ∉ ls:=by simpa using h2
  split at h3
  ·rename_i old hold
   have hlt:l<s.length:=(List.getElem?_eq_some_iff.1 hold).1
   have e1:Ext cx s (s.set l (.cells c)):=by
    refine ⟨by simp,fun l' hd=>?_,fun l' hlt'=>?_,fun b hb' l' hlt' hu=>?_⟩
    ·rw [List.getElem?_set_ne (fun he=>by subst he;rw [hold] at hd;cases hd)];exact hd
    ·rw [List.getElem?_set_ne (by omega)]
    ·by_cases hll:l=l'
     ·subst hll
      unfold dB
      rw [List.getElem?_set_self hlt]
      exact EH h4
     ·unfold dB at hu ⊢
      rw [List.getElem?_set_ne hll];exact hu
   have h5':rH n (s.set l (.cells c)) ls cs=true:=by
    clear h4 h2 e1
    have key:∀(ls:List Nat) (cs:List (List AV)),l ∉ ls→rH n s ls cs=true→rH n (s.set l (.cells c)) ls cs=true:=by
     intro ls
     induction ls with
     | nil=>intro cs _ h;cases cs<;>simp_all [rH]
     | cons k ls ih=>
      intro cs hm h
      cases cs with
      | nil=>simp [rH] at h
      | cons d cs=>
       simp only [rH,Bool.and_eq_true] at h ⊢
       refine ⟨⟨⟨h.1.1.1, ?_⟩,h.1.2⟩,ih cs (fun hh=>hm (by simp [hh])) h.2⟩
       rw [List.getElem?_set_ne (fun he=>hm (by simp [he]))]
       exact h.1.1.2
    exact key ls cs hnm h5
   exact e1.trans (Hw ls cs hl hb h5')
  ·cases h3
theorem TG (hcall:dO call) {N:Nat} {d:Ny} {args:List AV} {r:AV} (hcx:bQ cx s) (h:mD glob call N d args s cx=.ret r s'∨mD glob call N d args s cx=.pan r s'):Ext cx s s':=by
 have hcx':bQ ⟨cx.lim,s.length⟩ s:=⟨hcx.lim,Nat.le_refl _⟩
 have fin:∀{s1:St} {r0:AV},Ext ⟨cx.lim,s.length⟩ s s1→finish false false s s1 r0=.ret r s'→Ext cx s s':=fun he hh=>
  IG (fn:=⟨0,[],false,false,.skip⟩) hcx he hh
 have key:∀{env1:Env} {s1:St} {res:List RV} {o:CO},(o=.ret r s'∨o=.pan r s')→Ext ⟨cx.lim,s.length⟩ s s1→(match iM glob env1 s1 res with|some rs=>finish false false s s1 (lQ rs)|none=>.fail)=o→Ext cx s s':=by
  intro env1 s1 res o ho he hh
  split at hh
  ·rcases ho with rfl|rfl
   ·exact fin he hh
   ·exfalso;unfold finish at hh;(repeat' split at hh)<;>cases hh
  ·subst hh;rcases ho with ho|ho<;>cases ho
 generalize ho:mD glob call N d args s cx=o at h
 unfold mD at ho
 split at ho
 ·split at ho
  ·rename_i em sm hrm
   have xm:Ext ⟨cx.lim,s.length⟩ s sm:=CB hcall d.pre hcx' (by rw [hrm];rfl)
   have mid_ext:∀{o:Out} {s1:St},Ag glob call ⟨cx.lim,s.length⟩ N d.mid em sm=o→o.st=some s1→Ext ⟨cx.lim,s.length⟩ s s1:=by
    intro o s1 hm hs
    unfold Ag at hm
    split at hm
    ·subst hm;cases hs;exact xm
    ·exact xm.trans (aW hcall _ (hcx'.ext xm) (by rw [hm];exact hs))
   split at ho
   ·rename_i env2 s2 hr2
    exact key h (mid_ext hr2 rfl) ho
   ·rename_i e0 s0 hr0
    have x0:Ext ⟨cx.lim,s.length⟩ s s0:=mid_ext hr0 rfl
    split at ho
    ·rename_i e1 s1 hr1
     have x1:Ext ⟨cx.lim,s.length⟩ s s1:=x0.trans (jR hcall (hcx'.ext x0) (by rw [hr1];rfl))
     split at ho
     ·split at ho
      ·split at ho
       ·rename_i env2 s2 hr2
        exact key h (x1.trans (aW hcall _ (hcx'.ext x1) (by rw [hr2];rfl))) ho
       ·rename_i env2 s2 hr2
        exact key h (x1.trans (aW hcall _ (hcx'.ext x1) (by rw [hr2];rfl))) ho
       ·rename_i v s2 hr2
        have x2:Ext ⟨cx.lim,s.length⟩ s s2:=x1.trans (aW hcall _ (hcx'.ext x1) (by rw [hr2];rfl))
        split at ho
        ·split at ho
         ·rename_i hfit
          exact key h (x2.trans (Hw _ _ hcx.lim (Nat.le_refl _) hfit)) ho
         ·subst ho;rcases h with h|h<;>cases h
        ·subst ho;rcases h with h|h<;>cases h
       ·subst ho;rcases h with h|h<;>cases h
      ·subst ho;rcases h with h|h<;>cases h
     ·subst ho;rcases h with h|h<;>cases h
    ·subst ho;rcases h with h|h<;>cases h
   ·subst ho;rcases h with h|h<;>cases h
  ·subst ho;rcases h with h|h<;>cases h
 ·subst ho;rcases h with h|h<;>cases h
theorem Ext.loop {l:Nat} {e0:Env} {p0:List Nat} {a0 b0:ah} {q q':PU} (hl:s[l]?=some (.loop e0 p0 a0 b0 q)) (hlim:cx.lim≤l):Ext cx s (s.set l (.loop e0 p0 a0 b0 q')):=by
 have hlt:l<s.length:=(List.getElem?_eq_some_iff.1 hl).1
 refine ⟨by simp,fun l' hd=>?_,fun l' hlt'=>?_,fun b hb l' hlt' hu=>?_⟩
 ·rw [List.getElem?_set_ne (fun he=>by subst he;rw [hl] at hd;cases hd)];exact hd
 ·rw [List.getElem?_set_ne (by omega)]
 ·by_cases hll:l=l'
  ·subst hll
   unfold dB at hu ⊢
   rw [List.getElem?_set_self hlt]
   rw [hl] at hu;exact hu
  ·unfold dB at hu ⊢
   rw [List.getElem?_set_ne hll];exact hu
theorem II {l:Nat} {p:PU} {q:Bool} {r:AV} (hlim:cx.lim≤l) (h:oU s l p q=.ret r s'):Ext cx s s':=by
 unfold oU at h
 split at h
 ·rename_i hl;cases h;exact .loop hl hlim
 ·cases h
theorem TQ (hcall:dO call) {N l:Nat} {args:List AV} {r:AV} (hcx:bQ cx s) (h:yh glob call N l args s cx=.ret r s'):Ext cx s s':=by
 unfold yh at h
 split at h
 ·rename_i env ps asg body hl
  split at h
  ·rename_i hcond
   split at h
   ·rename_i env1 s1 hr1
    have h1:=aW hcall asg hcx (s':=s1) (by rw [hr1];rfl)
    split at h
    ·rename_i e1 p1 a1 b1 hl1
     have h2:Ext cx s1 (s1.set l (.loop e1 p1 a1 b1 .busy)):=.loop hl1 hcond.2
     have h12:=h1.trans h2
     split at h
     ·rename_i env2 s2 hr2
      exact (h12.trans (aW hcall body (hcx.ext h12) (by rw [hr2];rfl))).trans (II hcond.2 h)
     ·rename_i env2 s2 hr2
      exact (h12.trans (aW hcall body (hcx.ext h12) (by rw [hr2];rfl))).trans (II hcond.2 h)
     ·rename_i id env2 s2 hr2
      exact (h12.trans (aW hcall body (hcx.ext h12) (by rw [hr2];rfl))).trans (II hcond.2 h)
     ·cases h
    ·cases h
   ·cases h
  ·cases h
 ·cases h
theorem UA {l:Nat} {p:PU} {q:Bool} {r:AV} (h:oU s l p q=.pan r s'):False:=by
 unfold oU at h;split at h<;>cases h
theorem NQ {N l:Nat} {args:List AV} {r:AV} (h:yh glob call N l args s cx=.pan r s'):False:=by
 unfold yh at h
 (repeat' split at h)<;>first | (cases h;done)|exact UA h
theorem Pn {qcall:AV→List AV→St→Ctx→CO} {k:HiK} {args:List AV} {r:AV} (h:iP call qcall k args s cx=.pan r s'):False:=by
 unfold iP at h
 (repeat' split at h)<;>cases h
theorem UF (hcall:dO call) {qcall:AV→List AV→St→Ctx→CO} {k:HiK} {args:List AV} {r:AV} (hcx:bQ cx s) (h:iP call qcall k args s cx=.ret r s'):Ext cx s s':=by
 unfold iP at h
 split at h
 ·split at h
  ·rename_i hc;cases h;exact hcall _ _ _ _ _ _ hcx (.inl hc)
  ·rename_i hc
   split at h
   ·cases h;exact hcall _ _ _ _ _ _ hcx (.inr hc)
   ·cases h
  ·cases h
 ·cases h;exact .refl _ _
 ·cases h;exact .refl _ _
 ·split at h
  ·cases h;exact .refl _ _
  ·rename_i k0 l ver sz o _ _ _ n t sz' ver' cs hl
   split at h
   ·rename_i hcond
    split at h
    ·split at h
     ·cases h
      have hlt:l<s.length:=(List.getElem?_eq_some_iff.1 hl).1
      refine ⟨by simp,fun l' hd=>?_,fun l' hlt'=>?_,fun b hb l' hlt' hu=>?_⟩
      ·rw [List.getElem?_set_ne (fun he=>by subst he;rw [hl] at hd;cases hd)];exact hd
      ·rw [List.getElem?_set_ne (by have:=hcond.2.2.2.2.2.2.1;omega)]
      ·unfold dB at hu ⊢
       rw [List.getElem?_set_ne (by have:=hcond.2.2.2.2.2.2.2.1;omega)];exact hu
     ·cases h
    ·cases h
   ·cases h
  ·cases h
 ·cases h;exact .refl _ _
 ·split at h
  ·cases h;exact .refl _ _
  ·rename_i l ver sz o _ _ n t sz' ver' cs hl
   split at h
   ·rename_i hcond
    split at h
    ·cases h
     have hlt:l<s.length:=(List.getElem?_eq_some_iff.1 hl).1
     refine ⟨by simp,fun l' hd=>?_,fun l' hlt'=>?_,fun b hb l' hlt' hu=>?_⟩
     ·rw [List.getElem?_set_ne (fun he=>by subst he;rw [hl] at hd;cases hd)];exact hd
     ·rw [List.getElem?_set_ne (by have:=hcond.2.2.2.2.2.1;omega)]
     ·unfold dB at hu ⊢
      rw [List.getElem?_set_ne (by have:=hcond.2.2.2.2.2.2;omega)];exact hu
    ·cases h
   ·cases h
  ·cases h
 ·have h0:∀r:List eH,Ext cx s (s++r):=fun r=>.push hcx r
  split at h
  ·rename_i hc;cases h;exact (h0 _).trans (hcall _ _ _ _ _ _ (hcx.ext (h0 _)) (.inl hc))
  ·rename_i hc
   split at h
   ·cases h;exact (h0 _).trans (hcall _ _ _ _ _ _ (hcx.ext (h0 _)) (.inr hc))
   ·cases h
  ·cases h
 ·cases h
theorem uV (A:nX):∀n,dO (bM A n)
 | 0=>fun fv args s cx r s' _ h=>by simp [bM] at h
 | n+1=>fun fv args s cx r s' hcx h=>by
  have ih:=uV A n
  cases fv with
  | fn f as cs=>
   cases f with
   | func fid=>
    simp only [bM] at h
    split at h
    ·split at h
     ·rcases h with h|h
      ·cases h;exact .refl _ _
      ·cases h
     ·rcases h with h|h<;>cases h
    ·split at h
     ·rcases h with h|h
      ·exact UF ih hcx h
      ·exact (Pn h).elim
     ·split at h
      ·exact TG ih hcx h
      ·split at h
       ·exact UH ih hcx h
       ·rcases h with h|h<;>cases h
   | _=>simp only [bM] at h;rcases h with h|h<;>cases h
  | yl l=>
   simp only [bM] at h
   rcases h with h|h
   ·exact TQ ih hcx h
   ·exact (NQ h).elim
  | _=>simp only [bM] at h;rcases h with h|h<;>cases h
end Go.Ai
