/-
 Rounds of loops over functions; all calls.
-/
import Derived.Test.YtpihciomhfoafaaGreatDoorAiRn4
import Derived.Test.YtpihciomhfoafaaGreatDoorAiD4
import Derived.Test.YtpihciomhfoafaaGreatDoorAiDf
set_option maxRecDepth 100000
set_option linter.unusedSimpArgs false
set_option linter.unusedVariables false
set_option linter.unusedSectionVars false
namespace Go.Ai
variable {qt:Prop} {P:Program} {glob:Nat→Option (List AV)} {g:af} {s:St} {B:Nat} {w:World} {env:Env} {a:Act} {call:AV→List AV→St→Ctx→CO} {cx:Ctx} {env':Env} {s':St}
theorem Base.setLoop (h:Base P glob g s w) {l:Nat} {e0:Env} {p0:List Nat} {a0 b0:ah} {q q':PU} (hl:s[l]?=some (.loop e0 p0 a0 b0 q)) {r':Loop} (hr:DR P g s.length r' e0 p0 a0 b0 q'):
  Base P glob g (s.set l (.loop e0 p0 a0 b0 q')) { w with heap:=w.heap.setIfInBounds (g.L l) (.loop r') }:=by
 have hlt:l<s.length:=(List.getElem?_eq_some_iff.1 hl).1
 have hblt:=h.heap.lt l _ hlt (.inl rfl)
 have hfree:fP g (g.L l):=(h.heap.obj l _ hl).1
 refine ⟨⟨fun c o' v hv=>?_,fun c es hc=>?_⟩,h.heap.setAt hlt (.refl _ _) (fun _ _ _=>rfl) (fun b hb=>.inl hb) (fun b hb=>by simpa using h.heap.lt l b hlt hb) (by simp) (fun b _ hb=>⟨aT (fun hbe=>hb (.inl hbe.symm)),rfl,rfl⟩) ⟨hfree,r',ou hblt,hr⟩,h.glob⟩
 ·have hcb:c≠g.L l:=fun hcb=>by subst hcb;rw [hfree.m o'] at hv;cases hv
  rw [World.cell?_of_block (aT hcb)];exact h.imm.m c o' v hv
 ·have hcb:c≠g.L l:=fun hcb=>by subst hcb;rw [hfree.mm] at hc;cases hc
  exact (h.imm.mm c es hc).keep (aT hcb)
theorem Qq {n:Nat}:∀(ps:List Nat) (args:List AV) (vs:List Value) {tmps:Array Value} {env:Env},dH g n B w (fun k=>tmps.getD k undef) env→aB g n vs args→(∀p∈ps,p<tmps.size)→ps.length=args.length→
  dH g n B w (fun k=>((ps.zip vs).foldl (fun t p=>t.setIfInBounds p.1 p.2) tmps).getD k undef) (GN env ps args)
 | [],args,vs,tmps,env,h,_,_,_=>by simpa [GN] using h
 | p::ps,args,vs,tmps,env,h,hr,hp,hl=>by
  match args,vs with
  | [],_=>simp at hl
  | _::_,[]=>exact absurd hr.1 (by simp)
  | x::args,v::vs=>
   simp only [List.zip_cons_cons,List.foldl_cons,GN]
   have h1:=h.UR p v x hr.head
   have he:upd (fun k=>tmps.getD k undef) p v=fun k=>(tmps.setIfInBounds p v).getD k undef:=by
    have:=TS (a:={ tmps:=tmps,defers:=[] }) (d:=p) (v:=v) (hp p (by simp))
    exact this.symm
   rw [he] at h1
   exact Qq ps args vs h1 hr.tail (fun q hq=>by simpa using hp q (by simp [hq])) (by simpa using hl)
theorem O9:∀(l:List (Nat×Value)) (tmps:Array Value),(l.foldl (fun t p=>t.setIfInBounds p.1 p.2) tmps).size=tmps.size
 | [],_=>rfl
 | p::l,tmps=>by simp [O9 l]
theorem Vd {l:Nat} (hs:Sim P glob g s B w (Act.tm a) env) {p:PU} {jump:Option Code} {q:Bool} {r:AV} (hj:(match p with | .ready=>jump=none | .ret=>jump=some .ret | .exit id=>jump=some (.exit id) | .busy=>False)) (hq:q=jump.isNone)
  (h:oU s l p q=.ret r s'):∃v w',(Instr.endRound (g.L l) jump).run P w=.ok v w'∧Base P glob g s' w'∧Step qt g s.length B w g s'.length w'∧Rep g s'.length v r:=by
 unfold oU at h
 split at h
 ·rename_i e0 p0 a0 b0 hl
  cases h
  have hlt:l<s.length:=(List.getElem?_eq_some_iff.1 hl).1
  obtain ⟨rl,hrl,q1,q2,q3,q4,q5,q6⟩:=hs.base.heap.loop l _ _ _ _ _ hl
  have hok:DR P g s.length { rl with state:=if jump.isNone then .ready else .done,pending:=jump } e0 p0 a0 b0 p:=by
   refine ⟨q1,q2,q3,q4,q5, ?_⟩
   cases p with
   | ready=>simp only [] at hj;subst hj;exact ⟨rfl,rfl⟩
   | busy=>exact hj.elim
   | ret=>simp only [] at hj;subst hj;exact ⟨rfl,rfl⟩
   | exit id=>simp only [] at hj;subst hj;exact ⟨rfl,rfl⟩
  refine ⟨.bool jump.isNone,{ w with heap:=w.heap.setIfInBounds (g.L l) (.loop { rl with state:=if jump.isNone then .ready else .done,pending:=jump }) }, ?_,hs.base.setLoop hl hok, ?_,by rw [hq];exact .b _⟩
  ·simp [Instr.endRound,Instr.getLoop,Sem.run_bind,getObj,setObj,Sem.run,hrl]
  ·simp only [List.length_set]
   exact ⟨.refl _ _,by simp,fun b hb hbl=>aT (fun hbe=>hbl (by rw [hbe];exact .L hlt)),fun _ _ _=>rfl,fun _ _=>rfl,fun b hb=>.inl hb,rfl,rfl,fun _=>⟨rfl,Nat.le_refl _⟩⟩
 ·cases h
theorem RY (hcall:l7 qt P glob call) (hext:dO call) (hdraw:FZ qt P glob call) (hM:P.follows .mixedOrders=true) {N l:Nat} {args:List AV} {r:AV} (hcx:bQ cx s) (h:yh glob call N l args s cx=.ret r s')
  (hb:Base P glob g s w) {f:Value} (hf:Rep g s.length f (.yl l)) {vs:Array Value} (hv:aB g s.length vs.toList args):
  ∃l' fid tmps asg body,(callOf f vs).run P w=.ok (.round l' fid tmps asg body) w∧∀m,RoundIn Fence.wide m P l' fid tmps asg body w (Ret qt P glob g s w r s'):=by
 unfold yh at h
 split at h
 ·rename_i env ps asg body hl
  split at h
  ·rename_i hcond
   have hlt:l<s.length:=(List.getElem?_eq_some_iff.1 hl).1
   obtain ⟨rl,hrl,q1,q2,q3,q4,q5,q6⟩:=hb.heap.loop l _ _ _ _ _ hl
   cases hf with
   | yl _ _=>
    have hps:rl.params.size=vs.size:=by
     have h1:=hv.1;have h2:=congrArg List.length q1;simp at h1 h2;omega
    let tmps':Array Value:=(ps.zip vs.toList).foldl (fun t p=>t.setIfInBounds p.1 p.2) rl.tmps
    have htm:Array.foldl (fun (tmps:Array Value) (x:Nat×Value)=>tmps.setIfInBounds x.1 x.2) rl.tmps (rl.params.zip vs) 0 (rl.params.zip vs).size=tmps':=by
     rw [←Array.foldl_toList,Array.toList_zip,q1]
    refine ⟨g.L l,rl.fn,tmps',rl.assign,rl.body, ?_,fun m=>?_⟩
    ·simp [callOf,Deferred.ofValue,invoke,Instr.yield,Instr.getLoop,Sem.run_bind,getObj,Sem.run,hrl,hps]
     have hz:(rl.params.zip vs).size=vs.size:=by simp [hps]
     rw [hz] at htm
     exact htm
    ·refine roundIn_of_wpIn trivial ?_
     have hszt:tmps'.size=rl.tmps.size:=O9 _ _
     let a0:Act:={ tmps:=tmps',defers:=[] }
     have hplain:dH g s.length w.heap.size w (fun k=>rl.tmps.getD k undef) env:=by
      have hown:∀k e,lk env k=some e→e.owns=false∧∀j,e.refers j=false:=by
       intro k e hk;obtain ⟨v,rfl,_⟩:=q4 k e hk;exact ⟨rfl,fun j=>rfl⟩
      refine ⟨fun k e hk=>?_,fun k k' e e' hk _ ho=>?_,fun k e hk ho=>?_,fun k e j hk hr=>?_⟩
      ·obtain ⟨v,rfl,hr⟩:=q4 k e hk;exact hr
      ·rw [(hown k e hk).1] at ho;cases ho
      ·rw [(hown k e hk).1] at ho;cases ho
      ·rw [(hown k e hk).2 j] at hr;cases hr
     have hfr:Fr P glob g s w.heap.size w a0 (GN env ps args) (.std rl.tmps.size) cx.base []:=
      ⟨⟨hb,Qq ps args vs.toList hplain hv q5 hcond.1,Nat.le_refl _⟩,hszt,rfl,fun l hl=>by simp at hl,List.nodup_nil,fun l hl=>by simp at hl,fun p hp=>by simp at hp⟩
     split at h
     ·rename_i env1 s1 hr1
      have hF:isF (Fence.wide.inRound (g.L l)):=.inr ⟨_,rfl⟩
      refine wpIn_mono (bg (ro:=true) hcall hext hdraw hF (fun hh=>by cases hh) hM asg rl.assign q2 hcx (fun hh=>by cases hh) hfr hr1 rfl) (fun e a1 w1 hq=>?_)
      obtain ⟨rfl,g1,ls1,hst1,hf1⟩:=hq
      have he1:Ext cx s s1:=aW hext asg hcx (env:=GN env ps args) (by rw [hr1];rfl)
      split at h
      ·rename_i e1 p1 a1' b1 hl1
       have hL1:g1.L l=g.L l:=hst1.le.L l hlt
       have hlt1:l<s1.length:=(List.getElem?_eq_some_iff.1 hl1).1
       obtain ⟨r1,hr1l,t1,t2,t3,t4,t5,t6⟩:=hf1.sim.base.heap.loop l _ _ _ _ _ hl1
       let w2:World:={ w1 with heap:=w1.heap.setIfInBounds (g.L l) (.loop { r1 with state:=.busy }) }
       have hb2:Base P glob g1 (s1.set l (.loop e1 p1 a1' b1 .busy)) w2:=by
        have:=hf1.sim.base.setLoop hl1 (r':={ r1 with state:=.busy }) (q':=.busy) ⟨t1,t2,t3,t4,t5,rfl⟩
        rwa [hL1] at this
       have hoff:∀k e,lk env1 k=some e→e.owns=true→∀b,aQ (Act.tm a1 k)=some b→b≠g.L l:=fun k e hk ho b hbk hbe=>hf1.sim.env.off k e hk ho b hbk (by rw [hbe,←hL1];exact .L hlt1)
       have hsim2:Sim P glob g1 (s1.set l (.loop e1 p1 a1' b1 .busy)) w.heap.size w2 (Act.tm a1) env1:=by
        refine ⟨hb2, ?_,by simpa [w2] using hf1.sim.B⟩
        simp only [List.length_set]
        exact hf1.sim.env.next (.refl _ _) (fun k e hk ho b hbk=>⟨aT (hoff k e hk ho b hbk),rfl,rfl,fun ht=>ht⟩)
       have he2:Ext cx s1 (s1.set l (.loop e1 p1 a1' b1 .busy)):=.loop hl1 hcond.2
       have hcx2:=(hcx.ext he1).ext he2
       have hst2:Step qt g1 s1.length w.heap.size w1 g1 (s1.set l (.loop e1 p1 a1' b1 .busy)).length w2:=by
        simp only [List.length_set]
        exact ⟨.refl _ _,by simp [w2],fun b hb hbl=>aT (fun hbe=>hbl (by rw [hbe,←hL1];exact .L hlt1)),fun _ _ _=>rfl,fun _ _=>rfl,fun b hb=>.inl hb,rfl,rfl,fun _=>⟨rfl,Nat.le_refl _⟩⟩
       have hfr2:Fr P glob g1 (s1.set l (.loop e1 p1 a1' b1 .busy)) w.heap.size w2 a1 env1 (.std rl.tmps.size) cx.base ls1:=
        hf1.next hsim2 rfl rfl (by simp only [List.length_set];exact .refl _ _) he2.dfr (fun _ _=>rfl)
       refine ⟨w2, ?_, ?_⟩
       ·rw [hL1] at hr1l
        simp [Instr.beginRound,Instr.getLoop,Sem.run_bind,getObj,setObj,Sem.run,hr1l,t6.1,w2]
       ·have fin:∀env3 s3 g3 ls3 w3 a3,Step qt g1 (s1.set l (.loop e1 p1 a1' b1 .busy)).length w.heap.size w2 g3 s3.length w3→Fr P glob g3 s3 w.heap.size w3 a3 env3 (.std rl.tmps.size) cx.base ls3→∀(p:PU) (jump:Option Code) (q:Bool),
          (match p with | .ready=>jump=none | .ret=>jump=some .ret | .exit id=>jump=some (.exit id) | .busy=>False)→q=jump.isNone→oU s3 l p q=.ret r s'→
          ∃v w',(Instr.endRound (g.L l) jump).run P w3=.ok v w'∧Ret qt P glob g s w r s' (.returned v) w':=by
         intro env3 s3 g3 ls3 w3 a3 hst3 hf3 p jump q hj hq he
         obtain ⟨v,w',u1,u2,u3,u4⟩:=Vd hf3.sim hj hq he
         have hL3:g3.L l=g.L l:=by rw [hst3.le.L l (by simpa using hlt1),hL1]
         rw [hL3] at u1
         exact ⟨v,w',u1,v,g3,rfl,((hst1.trans hst2).trans hst3).trans u3,u2,u4⟩
        split at h
        ·rename_i env3 s3 hr3
         refine wpIn_mono (bg (ro:=true) hcall hext hdraw hF (fun hh=>by cases hh) hM body rl.body q3 hcx2 (fun hh=>by cases hh) hfr2 hr3 rfl) (fun e a3 w3 hq=>?_)
         obtain ⟨rfl,g3,ls3,hst3,hf3⟩:=hq
         exact fin env3 s3 g3 ls3 w3 a3 hst3 hf3 .ready none true rfl rfl h
        ·rename_i env3 s3 hr3
         refine wpIn_mono (bg (ro:=true) hcall hext hdraw hF (fun hh=>by cases hh) hM body rl.body q3 hcx2 (fun hh=>by cases hh) hfr2 hr3 rfl) (fun e a3 w3 hq=>?_)
         obtain ⟨rfl,g3,ls3,hst3,hf3⟩:=hq
         exact fin env3 s3 g3 ls3 w3 a3 hst3 hf3 .ret (some .ret) false rfl rfl h
        ·rename_i id env3 s3 hr3
         refine wpIn_mono (bg (ro:=true) hcall hext hdraw hF (fun hh=>by cases hh) hM body rl.body q3 hcx2 (fun hh=>by cases hh) hfr2 hr3 rfl) (fun e a3 w3 hq=>?_)
         obtain ⟨rfl,g3,ls3,hst3,hf3⟩:=hq
         exact fin env3 s3 g3 ls3 w3 a3 hst3 hf3 (.exit id) (some (.exit id)) false rfl rfl h
        ·cases h
      ·cases h
     ·cases h
  ·cases h
 ·cases h
def FV (qt:Prop) (P:Program) (glob:Nat→Option (List AV)) (f:FuncId) (h:List AV→St→Option AV):Prop:=
 (∃rf,P.funcs[f]?=some rf∧(rf.name == "runtime.NumGoroutine")=false∧rf.body.isNone=false)∧
 ∀args s r,h args s=some r→∀g w vs,Base P glob g s w→aB g s.length vs.toList args→∀m,CallsIn Fence.wide m P f vs w fun e w'=>∃v g',e=.returned v∧Grew qt w w'∧g.le s.length g' s.length∧g'.L=g.L∧g'.hist=g.hist∧
  (∀b,b<w.heap.size→g'.m b=g.m b∧g'.mm b=g.mm b)∧Imm g' w'∧Rep g' s.length v r
def J6 (qt:Prop) (P:Program) (glob:Nat→Option (List AV)) (f:FuncId) (h:List AV→Option AV):Prop:=
 (∃rf,P.funcs[f]?=some rf∧(rf.name == "runtime.NumGoroutine")=false∧rf.body.isNone=false)∧
 ∀args r,h args=some r→∀g n w vs,Imm g w→mF glob g→aB g n vs.toList args→∀m,CallsIn Fence.wide m P f vs w fun e w'=>∃v g',e=.returned v∧Grew qt w w'∧g.le n g' n∧g'.L=g.L∧g'.hist=g.hist∧
  (∀b,b<w.heap.size→g'.m b=g.m b∧g'.mm b=g.mm b)∧Imm g' w'∧Rep g' n v r
theorem J6.lift {P:Program} {glob:Nat→Option (List AV)} {f:FuncId} {h:List AV→Option AV} (hi:J6 qt P glob f h):FV qt P glob f (WN h):=
 ⟨hi.1,fun args s r hr g w vs hb hv m=>hi.2 args r hr g s.length w vs hb.imm hb.glob hv m⟩
def Zr (P:Program) (glob:Nat→Option (List AV)) (f:FuncId) (k:HiK):Prop:=
 (∃rf,P.funcs[f]?=some rf∧(rf.name == "runtime.NumGoroutine")=false∧rf.body.isNone=false)∧
 ∀(call qcall:AV→List AV→St→Ctx→CO),l7 False P glob call→dO call→l7 True P glob qcall→
   (∀g as cs args s cx r s',(call (.fn (.func g) as cs) args s cx=.ret r s'∨call (.fn (.func g) as cs) args s cx=.pan r s')→∃rf,P.funcs[g]?=some rf∧(rf.name == "runtime.NumGoroutine")=false∧rf.body.isNone=false)→
   (∀g as cs args s cx r s',(qcall (.fn (.func g) as cs) args s cx=.ret r s'∨qcall (.fn (.func g) as cs) args s cx=.pan r s')→∃rf,P.funcs[g]?=some rf∧(rf.name == "runtime.NumGoroutine")=false∧rf.body.isNone=false)→
   ∀args s cx r s',bQ cx s→iP call qcall k args s cx=.ret r s'→∀g w vs,Base P glob g s w→aB g s.length vs.toList args→∀m,CallsIn Fence.wide m P f vs w (Ret False P glob g s w r s')
structure FU (qt:Prop) (P:Program) (A:nX):Prop where
 mixed:P.follows .mixedOrders=true
 fns:∀f fn,A.fns f=some fn→aj P f fn
 intr:∀f h,A.intr f=some h→FV qt P A.glob f h
 hi:∀f k,A.hi f=some k→qt=False∧Zr P A.glob f k
 intrQ:∀f h,A.intrQ f=some h→FV True P A.glob f h
 dfr:∀f d,A.dfr f=some d→qt=False∧YH P f d
theorem FU.quiet {qt:Prop} {P:Program} {A:nX} (h:FU qt P A):FU True P A.quiet:=
 ⟨h.mixed,h.fns,h.intrQ,fun _ _ hk=>(by cases hk),h.intrQ,fun _ _ hk=>(by cases hk)⟩
theorem uF {f:FuncId} {rf:Func} (hf:P.funcs[f]?=some rf) (hname:(rf.name == "runtime.NumGoroutine")=false) (hbody:rf.body.isNone=false) (fs cs vs:Array Value):
  (callOf (.func (.func f) fs cs) vs).run P w=.ok (.enter f (fs++vs++cs)) w:=by
 simp [callOf,Deferred.ofValue,invoke,callFunc,program,Sem.run_bind,Sem.run,hf]
 rw [if_neg (by simpa using hname),if_neg (by cases hb:rf.body<;>simp_all)]
theorem QU {qt:Prop} {A:nX} (hA:FU qt P A) {n:Nat} {g:Nat} {as cs args:List AV} {s:St} {cx:Ctx} {r:AV} {s':St} (h:bM A n (.fn (.func g) as cs) args s cx=.ret r s'∨bM A n (.fn (.func g) as cs) args s cx=.pan r s'):
  ∃rf,P.funcs[g]?=some rf∧(rf.name == "runtime.NumGoroutine")=false∧rf.body.isNone=false:=by
 cases n with
 | zero=>rcases h with h|h<;>simp [bM] at h
 | succ n=>
  simp only [bM] at h
  split at h
  ·rename_i hh hin;exact (hA.intr g hh hin).1
  ·split at h
   ·rename_i k hk;exact (hA.hi g k hk).2.1
   ·split at h
    ·rename_i d hd
     obtain ⟨_,_,rf,_,_,_,_,_,_,_,_,hfun,hname,hbody,_⟩:=hA.dfr g d hd
     exact ⟨rf,hfun,hname,by rw [hbody];rfl⟩
    ·split at h
     ·rename_i fn hfn
      obtain ⟨rf,c,hfun,hname,hbody,_⟩:=hA.fns g fn hfn
      exact ⟨rf,hfun,hname,by rw [hbody];rfl⟩
     ·rcases h with h|h<;>cases h
theorem Lj:∀(n:Nat) (qt:Prop) (A:nX),FU qt P A→l7 qt P A.glob (bM A n)
 | 0,qt,A,hA=>⟨fun fv args s cx r s' _ _ h=>by simp [bM] at h,fun l args s cx r s' _ h=>by simp [bM] at h,fun fv args s cx r s' _ h=>by simp [bM] at h⟩
 | n+1,qt,A,hA=>by
  have ih:=Lj n qt A hA
  have hdraw:FZ qt P A.glob (bM A n):=@Ya qt P A.glob (bM A n) hA.mixed ih (uV A n)
  refine ⟨fun fv args s cx r s' hcx hny h g w f vs hb hf hv=>?_,fun l args s cx r s' hcx h g w f vs hb hf hv=>?_,fun fv args s cx r s' hcx h g w f vs hb hf hv=>?_⟩
  ·cases fv with
   | fn ff as cs=>
    cases ff with
    | func fid=>
     cases hf with
     | fn _ us ws _ _ hl hl' hr1 hr2=>
      have hall:aB g s.length (us++vs++ws).toList (as++args++cs):=by
       simp only [Array.toList_append]
       refine (aB.append ⟨by simpa using hl,fun i hi hi'=>?_⟩ hv).append ⟨by simpa using hl',fun i hi hi'=>?_⟩
       ·rw [Array.getElem_toList];exact hr1 i (by simpa using hi) hi'
       ·rw [Array.getElem_toList];exact hr2 i (by simpa using hi) hi'
      simp only [bM] at h
      split at h
      ·rename_i hh hin
       split at h
       ·rename_i r' hres
        cases h
        obtain ⟨⟨rf,hfun,hname,hbody⟩,hi⟩:=hA.intr fid hh hin
        refine ⟨fid,us++vs++ws,uF hfun hname hbody us ws vs,fun m=>(hi _ _ _ hres g w _ hb hall m).mono fun e w' he=>?_⟩
        obtain ⟨v,g',rfl,q1,q2,q3,qh,q4,q5,q6⟩:=he
        refine ⟨v,g',rfl,⟨q2,q1.size,fun b hb' _=>q1.old b hb',fun b hb' _=>(q4 b hb').1,fun b hb'=>(q4 b hb').2,fun b hb'=>.inl ?_,q1.io⟩,(hb.grew q1).fix q2 q5 qh (fun b hb'=>q4 b (hb.heap.taken_lt hb')),q6⟩
        simpa only [af.taken,af.bl,q3,qh] using hb'
       ·cases h
      ·split at h
       ·rename_i k hk
        obtain ⟨rfl,⟨rf,hfun,hname,hbody⟩,hi⟩:=hA.hi fid k hk
        exact ⟨fid,us++vs++ws,uF hfun hname hbody us ws vs,fun m=>hi _ _ ih (uV A n) (Lj n True A.quiet hA.quiet) (fun _ _ _ _ _ _ _ _ hq=>QU hA hq) (fun _ _ _ _ _ _ _ _ hq=>QU hA.quiet hq) _ _ _ _ _ hcx h g w _ hb hall m⟩
       ·split at h
        ·rename_i d hd
         obtain ⟨hqt,hdok⟩:=hA.dfr fid d hd
         obtain ⟨_,rf,_,_,_,_,_,_,_,_,hfun,hname,hbody,_⟩:=id hdok
         refine ⟨fid,us++vs++ws,uF hfun hname (by rw [hbody];rfl) us ws vs,fun m=>?_⟩
         exact Qg hqt ih (uV A n) @hdraw hA.mixed hdok hcx h hb hall
        ·split at h
         ·rename_i fn hfn
          obtain ⟨rf,c,hfun,hname,hbody,_⟩:=hA.fns fid fn hfn
          refine ⟨fid,us++vs++ws,uF hfun hname (by rw [hbody];rfl) us ws vs,fun m=>?_⟩
          exact RH ih (uV A n) @hdraw hA.mixed (hA.fns fid fn hfn) hcx h hb hall
         ·cases h
    | _=>simp [bM] at h
   | yl l=>exact absurd rfl (hny l)
   | _=>simp [bM] at h
  ·simp only [bM] at h
   exact RY ih (uV A n) @hdraw hA.mixed hcx h hb hf hv
  ·cases fv with
   | fn ff as cs=>
    cases ff with
    | func fid=>
     cases hf with
     | fn _ us ws _ _ hl hl' hr1 hr2=>
      have hall:aB g s.length (us++vs++ws).toList (as++args++cs):=by
       simp only [Array.toList_append]
       refine (aB.append ⟨by simpa using hl,fun i hi hi'=>?_⟩ hv).append ⟨by simpa using hl',fun i hi hi'=>?_⟩
       ·rw [Array.getElem_toList];exact hr1 i (by simpa using hi) hi'
       ·rw [Array.getElem_toList];exact hr2 i (by simpa using hi) hi'
      simp only [bM] at h
      split at h
      ·split at h<;>cases h
      ·split at h
       ·exact (Pn h).elim
       ·split at h
        ·exact (Qh h).elim
        ·split at h
         ·rename_i fn hfn
          obtain ⟨rf,c,hfun,hname,hbody,_⟩:=hA.fns fid fn hfn
          refine ⟨fid,us++vs++ws,uF hfun hname (by rw [hbody];rfl) us ws vs,fun m=>?_⟩
          exact UG ih (uV A n) @hdraw hA.mixed (hA.fns fid fn hfn) hcx h hb hall
         ·cases h
    | _=>simp [bM] at h
   | yl l=>simp only [bM] at h;exact (NQ h).elim
   | _=>simp [bM] at h
theorem XM {qt:Prop} (A:nX) (hA:FU qt P A) (n:Nat):l7 qt P A.glob (bM A n):=Lj n qt A hA
end Go.Ai
