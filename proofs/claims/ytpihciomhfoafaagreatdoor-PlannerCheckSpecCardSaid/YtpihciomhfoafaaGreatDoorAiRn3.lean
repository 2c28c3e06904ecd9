/-
 Leaving a call: results, marks, the heap's places that go.
-/
import Derived.Test.YtpihciomhfoafaaGreatDoorAiA6
set_option maxRecDepth 100000
set_option linter.unusedSimpArgs false
set_option linter.unusedVariables false
set_option linter.unusedSectionVars false
namespace Go.Ai
variable {qt:Prop} {P:Program} {glob:Nat→Option (List AV)} {g:af} {s:St} {B:Nat} {w:World} {env:Env} {a:Act} {call:AV→List AV→St→Ctx→CO} {cx:Ctx} {env':Env} {s':St}
theorem Rep.under {n:Nat} {v:Value} {x:AV} (h:Rep g n v x):x.under n=true:=by
 induction h with
 | u _|i _ _|b _|s _|np|nm|ns|nf|ni|slNil|slE _|se _|sz _ _=>rfl
 | sl bk off cap sz es c hc hsz hm hr ih=>
  simp only [AV.under,aN]
  intro e he
  obtain ⟨i,hi,rfl⟩:=List.getElem_of_mem he
  cases hel:es[i] with
  | ag cs=>
   simp only [AV.under,aN]
   intro c hc'
   obtain ⟨j,hj,rfl⟩:=List.getElem_of_mem hc'
   have hj2:j<(AV.cells es[i]).length:=by rw [hel];exact hj
   have:=ih i hi j hj2
   have e2:(AV.cells es[i])[j]=cs[j]:=by simp only [hel,AV.cells]
   rw [e2] at this;exact this
  | _=>
   all_goals
    have hj2:0<(AV.cells es[i]).length:=by rw [hel];simp [AV.cells]
    have:=ih i hi 0 hj2
    have e2:(AV.cells es[i])[0]=es[i]:=by simp only [hel,AV.cells,List.getElem_cons_zero]
    rw [e2,hel] at this;exact this
 | ag vs cs hl h1 hr ih=>
  simp only [AV.under,aN]
  intro c hc
  obtain ⟨j,hj,rfl⟩:=List.getElem_of_mem hc
  exact ih j (by omega) hj
 | tu vs cs hl hr ih=>
  simp only [AV.under,aN]
  intro c hc
  obtain ⟨j,hj,rfl⟩:=List.getElem_of_mem hc
  exact ih j (by omega) hj
 | ip bk off cs c hm hr ih=>
  simp only [AV.under,aN]
  intro c hc
  obtain ⟨j,hj,rfl⟩:=List.getElem_of_mem hc
  exact ih j hj
 | pt l off hl=>simpa [AV.under] using hl
 | im bk es vs hm hl hk hv ihk ihv=>
  simp only [AV.under,gX]
  intro p hp
  obtain ⟨j,hj,rfl⟩:=List.getElem_of_mem hp
  exact ⟨ihk j (by omega) hj,ihv j (by omega) hj⟩
 | mp l hl=>simpa [AV.under] using hl
 | fn f vs ws as cs hl hl' hr hr' ih ih'=>
  simp only [AV.under,Bool.and_eq_true,aN]
  exact ⟨fun c hc=>by obtain ⟨j,hj,rfl⟩:=List.getElem_of_mem hc;exact ih j (by omega) hj,fun c hc=>by obtain ⟨j,hj,rfl⟩:=List.getElem_of_mem hc;exact ih' j (by omega) hj⟩
 | yl l hl=>simpa [AV.under] using hl
 | ifc t v a hr ih=>simpa [AV.under] using ih
 | kb bk c m hm hr ih=>simpa [AV.under] using ih
 | st l v es hl hh hr ih=>simp only [AV.under,Bool.and_eq_true,decide_eq_true_eq] at ih ⊢;exact ⟨hl,ih⟩
 | sk l ver sz o m b off len cap c hl hh ho hc hcc=>simpa [AV.under] using hl
 | skE l ver sz o ad hl=>simpa [AV.under] using hl
 | sp l ver o b off len cap hl hh=>simpa [AV.under] using hl
theorem RZ {n:Nat} {e:AV} (h:e.under n=true):∀c∈e.cells,c.under n=true:=by
 cases e with
 | ag cs=>simpa only [AV.cells,AV.under,aN] using h
 | _=>all_goals (intro c hc;simp [AV.cells] at hc;subst hc;exact h)
theorem Rep.restrict {n n':Nat} {v:Value} {x:AV} (h:Rep g n v x) (hu:x.under n'=true):Rep g n' v x:=by
 induction h with
 | u v=>exact .u v
 | i k x=>exact .i k x
 | b x=>exact .b x
 | s l=>exact .s l
 | np=>exact .np
 | nm=>exact .nm
 | ns=>exact .ns
 | nf=>exact .nf
 | ni=>exact .ni
 | se ad=>exact .se ad
 | sz ad c=>exact .sz ad c
 | slNil=>exact .slNil
 | slE a=>exact .slE a
 | sl bk off cap sz es c hc hsz hm hr ih=>
  simp only [AV.under,aN] at hu
  exact .sl bk off cap sz es c hc hsz hm (fun i hi j hj=>ih i hi j hj (RZ (hu _ (List.getElem_mem hi)) _ (List.getElem_mem hj)))
 | ag vs cs hl h1 hr ih=>
  simp only [AV.under,aN] at hu
  exact .ag vs cs hl h1 (fun i hi hi'=>ih i hi hi' (hu _ (List.getElem_mem hi')))
 | tu vs cs hl hr ih=>
  simp only [AV.under,aN] at hu
  exact .tu vs cs hl (fun i hi hi'=>ih i hi hi' (hu _ (List.getElem_mem hi')))
 | ip bk off cs c hm hr ih=>
  simp only [AV.under,aN] at hu
  exact .ip bk off cs c hm (fun j hj=>ih j hj (hu _ (List.getElem_mem hj)))
 | pt l off hl=>exact .pt l off (by simpa [AV.under] using hu)
 | im bk es vs hm hl hk hv ihk ihv=>
  simp only [AV.under,gX] at hu
  exact .im bk es vs hm hl (fun i hi hi'=>ihk i hi hi' (hu _ (List.getElem_mem hi')).1) (fun i hi hi'=>ihv i hi hi' (hu _ (List.getElem_mem hi')).2)
 | mp l hl=>exact .mp l (by simpa [AV.under] using hu)
 | fn f vs ws as cs hl hl' hr hr' ih ih'=>
  simp only [AV.under,Bool.and_eq_true,aN] at hu
  exact .fn f vs ws as cs hl hl' (fun i hi hi'=>ih i hi hi' (hu.1 _ (List.getElem_mem hi'))) (fun i hi hi'=>ih' i hi hi' (hu.2 _ (List.getElem_mem hi')))
 | yl l hl=>exact .yl l (by simpa [AV.under] using hu)
 | ifc t v a hr ih=>exact .ifc t v a (ih (by simpa [AV.under] using hu))
 | kb bk c m hm hr ih=>exact .kb bk c m hm (ih (by simpa [AV.under] using hu))
 | st l v es hl hh hr ih=>simp only [AV.under,Bool.and_eq_true,decide_eq_true_eq] at hu;exact .st l v es hu.1 hh (ih (by simpa [AV.under] using hu.2))
 | sk l ver sz o m b off len cap c hl hh ho hc hcc=>exact .sk l ver sz o m b off len cap c (by simpa [AV.under] using hu) hh ho hc hcc
 | skE l ver sz o ad hl=>exact .skE l ver sz o ad (by simpa [AV.under] using hu)
 | sp l ver o b off len cap hl hh=>exact .sp l ver o b off len cap (by simpa [AV.under] using hu) hh
theorem aB.under {n:Nat} {vs:List Value} {as:List AV} (h:aB g n vs as):cu n as=true:=by
 rw [aN]
 intro c hc
 obtain ⟨j,hj,rfl⟩:=List.getElem_of_mem hc
 exact (h.2 j (by rw [h.1];exact hj) hj).under
theorem aB.restrict {n n':Nat} {vs:List Value} {as:List AV} (h:aB g n vs as) (hu:cu n' as=true):aB g n' vs as:=
 ⟨h.1,fun i hi hi'=>(h.2 i hi hi').restrict ((aN n' as).1 hu _ (List.getElem_mem hi'))⟩
theorem Base.dB (h:Base P glob g s w) (l:Nat):Ai.dB s.length s l:=by
 unfold Ai.dB
 split
 ·rename_i cs hs
  obtain ⟨arr,ty,_,h2,_⟩:=h.heap.cells l cs hs
  exact h2.under
 ·rename_i es hs
  obtain ⟨_,ents,clock,_,h2,h3,_⟩:=h.heap.obj l _ hs
  refine (gX _ es).2 fun p hp=>⟨(aN _ _).1 h2.under _ (List.mem_map.2 ⟨p,hp,rfl⟩),(aN _ _).1 h3.under _ (List.mem_map.2 ⟨p,hp,rfl⟩)⟩
 ·rename_i es hs
  obtain ⟨_,ents,clock,_,h2,h3,_⟩:=h.heap.obj l _ hs
  refine (gX _ es).2 fun p hp=>⟨(aN _ _).1 h2.under _ (List.mem_map.2 ⟨p,hp,rfl⟩),(aN _ _).1 h3.under _ (List.mem_map.2 ⟨p,hp,rfl⟩)⟩
 ·rename_i env ps asg body pend hs
  obtain ⟨r,_,h2⟩:=h.heap.loop l env ps asg body pend hs
  obtain ⟨_,_,_,h4,_⟩:=h2
  intro k x hk
  obtain ⟨y,hy,hr⟩:=h4 k _ hk
  cases hy
  exact hr.under
 ·rename_i cs hs
  obtain ⟨b,off,len,cap,cur,h1,h2,h3,h4,h5,h6,h7,h8,h9,h10,h11⟩:=h.heap.obj l _ hs
  exact h10.under
 ·trivial
theorem Base.take (h:Base P glob g s w) {n:Nat} (hn:n≤s.length) (hu:∀l,l<n→Ai.dB n s l):
  Base P glob g (s.take n) w:=by
 have hlen:(s.take n).length=n:=by simp;omega
 refine ⟨h.imm,⟨fun l l' b hl hl' h1 h2=>?_,fun l b hl hb=>?_,fun l o hs=>?_⟩,h.glob⟩
 ·rw [hlen] at hl hl';exact h.heap.inj l l' b (by omega) (by omega) h1 h2
 ·rw [hlen] at hl;exact h.heap.lt l b (by omega) hb
 ·have hl:l<n:=by rw [←hlen];exact (List.getElem?_eq_some_iff.1 hs).1
  rw [List.getElem?_take_of_lt hl] at hs
  rw [hlen]
  have hul:=hu l hl
  unfold Ai.dB at hul
  rw [hs] at hul
  have ho:=h.heap.obj l o hs
  cases o with
  | cells cs=>obtain ⟨h0,arr,ty,h1,h2,h3⟩:=ho;exact ⟨h0,arr,ty,h1,h2.restrict hul,h3⟩
  | loop env ps asg body pend=>
   obtain ⟨h0,r,h1,q1,q2,q3,q4,q5⟩:=ho
   refine ⟨h0,r,h1,q1,q2,q3,fun k e hk=>?_,q5⟩
   obtain ⟨v,rfl,hr⟩:=q4 k e hk
   exact ⟨v,rfl,hr.restrict (hul k v hk)⟩
  | dfr=>exact ho
  | dead=>trivial
  | umap es=>
   obtain ⟨h0,ents,clock,ents',h1,h2,h3,h4,h5,h6,h7⟩:=ho
   exact ⟨h0,ents,clock,ents',h1,h2,h3,h4.restrict ((aN n _).2 fun a ha=>by obtain ⟨p,hp,rfl⟩:=List.mem_map.1 ha;exact qy n (h6 p hp)),h5,h6,h7⟩
  | row t sz k=>exact ho
  | buf t sz ver cs=>
   obtain ⟨b,off,len,cap,cur,h1,h2,h3,h4,h5,h6,h7,h8,h9,h10,h11⟩:=ho
   exact ⟨b,off,len,cap,cur,h1,h2,h3,h4,h5,h6,h7,h8,h9,h10.restrict hul,h11⟩
  | map es=>
   obtain ⟨h0,ents,clock,h1,h2,h3,h7⟩:=ho
   have hm:=(gX n es).1 hul
   exact ⟨h0,ents,clock,h1,h2.restrict ((aN n _).2 fun a ha=>by obtain ⟨p,hp,rfl⟩:=List.mem_map.1 ha;exact (hm p hp).1),h3.restrict ((aN n _).2 fun a ha=>by obtain ⟨p,hp,rfl⟩:=List.mem_map.1 ha;exact (hm p hp).2),h7⟩
  | mapo es=>
   obtain ⟨h0,ents,clock,h1,h2,h3,h7⟩:=ho
   have hm:=(gX n es).1 hul
   exact ⟨h0,ents,clock,h1,h2.restrict ((aN n _).2 fun a ha=>by obtain ⟨p,hp,rfl⟩:=List.mem_map.1 ha;exact (hm p hp).1),h3.restrict ((aN n _).2 fun a ha=>by obtain ⟨p,hp,rfl⟩:=List.mem_map.1 ha;exact (hm p hp).2),h7⟩
def wG (P:Program):List ResultVar→List RV→Bool
 | [],[]=>true
 | .tmp t::r,.tmp t'::r'=>t == t' && wG P r r'
 | .cell a t::r,.cell a' n::r'=>a == a' && GI P t n && wG P r r'
 | _,_=>false
def Oa (tmps:Array Value):ResultVar→Sem Value
 | .tmp t=>pure (tmps.getD t undef)
 | .cell a t=>do loadVar t (←asAddr (tmps.getD a undef))
theorem OV {t:TypeId} {x u:Value} {w w':World} (h:(Instr.loadAt t x).run P w=.ok u w'):(do loadVar t (←asAddr x):Sem Value).run P w=.ok u w':=by
 unfold Instr.loadAt at h
 cases x with
 | pointer p=>
  cases p with
  | none=>simp [Instr.sureAddr,stuck,Sem.run,Sem.run_bind] at h
  | some ad=>simpa [Instr.sureAddr,asAddr,Sem.run_bind] using h
 | _=>simp [Instr.sureAddr,stuck,Sem.run,Sem.run_bind] at h
theorem F5 {rvs:List ResultVar}:∀{rs:List RV},wG P rvs rs=true→∀{g:af} {env:Env},Sim P glob g s B w (Act.tm a) env→∀{vs:List AV},iM glob env s rs=some vs→
  ∃us g',(rvs.mapM (Oa a.tmps)).run P w=.ok us w∧Step qt g s.length B w g' s.length w∧Base P glob g' s w∧aB g' s.length us vs:=by
 induction rvs with
 | nil=>
  intro rs hc g env h vs hr
  cases rs with
  | nil=>simp [iM] at hr;subst hr;exact ⟨[],g,by simp,.refl _ _ _ _,h.base,.nil _ _⟩
  | cons x y=>simp [wG] at hc
 | cons rv rvs ih=>
  intro rs hc g env h vs hr
  cases rs with
  | nil=>cases rv<;>simp [wG] at hc
  | cons r rs=>
   cases rv with
   | tmp t=>
    cases r with
    | tmp t'=>
     simp only [wG,Bool.and_eq_true,beq_iff_eq] at hc
     obtain ⟨rfl,hc⟩:=hc
     simp only [iM] at hr
     split at hr
     ·rename_i v env1 he
      cases hr2:iM glob env1 s rs with
      | none=>simp [hr2] at hr
      | some vs'=>
       simp [hr2] at hr
       subst hr
       obtain ⟨g1,st1,m1,r1⟩:=jZ (x:=.tmp t) (by simp [aS]) h he
       obtain ⟨us,g2,q1,q2,q3,q4⟩:=ih hc m1 hr2
       refine ⟨a.tmps.getD t undef::us,g2, ?_,st1.weak.trans q2,q3,.cons (r1.mono q2.le) q4⟩
       simp only [List.mapM_cons,Oa]
       simp [q1]
     ·cases hr
    | cell a' n=>simp [wG] at hc
   | cell p t=>
    cases r with
    | tmp t'=>simp [wG] at hc
    | cell p' n=>
     simp only [wG,Bool.and_eq_true,beq_iff_eq] at hc
     obtain ⟨⟨rfl,hN⟩,hc⟩:=hc
     simp only [iM] at hr
     split at hr
     ·rename_i v hv
      cases hr2:iM glob env s rs with
      | none=>simp [hr2] at hr
      | some vs'=>
       simp [hr2] at hr
       subst hr
       obtain ⟨u,u1,u2⟩:=LV (x:=.tmp p) hN (by simp [aS]) h hv
       obtain ⟨us,g2,q1,q2,q3,q4⟩:=ih hc h hr2
       refine ⟨u::us,g2, ?_,q2,q3,.cons ((u2.mono q2.le).plain) q4⟩
       have u1':=OV u1
       have hev:a.eval (.tmp p)=a.tmps.getD p undef:=rfl
       rw [hev] at u1'
       simp only [List.mapM_cons,Oa]
       rw [Sem.run_bind,u1']
       simp [q1]
     ·cases hr
def Qw:List Value→Value
 | [u]=>u
 | l=>.tuple l.toArray
theorem zy {fn:Func} {us:List Value} (h:(fn.results.toList.mapM (Oa a.tmps)).run P w=.ok us w):(results fn a.tmps).run P w=.ok (Qw us) w:=by
 have e1:results fn a.tmps=(do let vs ←fn.results.mapM (Oa a.tmps);pure (if h:vs.size=1 then vs[0] else .tuple vs)):=by
  unfold results
  congr 1
 rw [e1,Array.mapM_eq_mapM_toList]
 simp only [map_eq_pure_bind,bind_assoc,pure_bind]
 rw [Sem.run_bind,h]
 simp only [Result.andThen,Sem.run_pure]
 match us with
 | []=>rfl
 | [u]=>rfl
 | u1::u2::us=>rfl
theorem CG {n:Nat} {us:List Value} {vs:List AV} (h:aB g n us vs):Rep g n (Qw us) (lQ vs):=by
 match us,vs,h with
 | [],[],_=>exact .tu _ _ rfl (fun i hi=>by simp at hi)
 | [u],[v],h=>exact h.head
 | u1::u2::us,v1::v2::vs,h=>
  refine .tu _ _ (by have:=h.1;simpa using this) (fun i hi hi'=>?_)
  have:=h.2 i (by simpa using hi) hi'
  simpa using this
 | [],_::_,h=>exact absurd h.1 (by simp)
 | _::_,[],h=>exact absurd h.1 (by simp)
 | [_],_::_::_,h=>exact absurd h.1 (by simp)
 | _::_::_,[_],h=>exact absurd h.1 (by simp)
def kills:List Nat→St→St
 | [],s=>s
 | l::ls,s=>kills ls (s.set l .dead)
theorem CZ:∀(ls:List Nat) (s:St),(kills ls s).length=s.length
 | [],s=>rfl
 | l::ls,s=>by simp [kills,CZ ls]
theorem F8:∀(ls:List Nat) (s:St) (l:Nat),l ∉ ls→(kills ls s)[l]?=s[l]?
 | [],s,l,_=>rfl
 | k::ls,s,l,h=>by
  simp only [List.mem_cons,not_or] at h
  rw [kills,F8 ls _ l h.2,List.getElem?_set_ne (Ne.symm h.1)]
theorem Uk {n:Option Nat} {x:IX} {v:AV} (h:∀l:Nat,(∀cs,s[l]?=some (eH.cells cs)→s'[l]?=some (eH.cells cs))∧∀t sz ver cs,s[l]?=some (eH.buf t sz ver cs)→s'[l]?=some (eH.buf t sz ver cs)) (hl:dQ glob env s n x=some v):dQ glob env s' n x=some v:=by
 unfold dQ at hl ⊢
 split at hl
 ·exact hl
 ·exact hl
 ·exact hl
 ·exact hl
 ·rename_i l o hv
  split at hl
  ·rename_i cs hs;rw [(h l).1 cs hs];exact hl
  ·cases hl
 ·rename_i l ver o hv
  split at hl
  ·rename_i t2 sz2 ver2 cs hs;rw [(h l).2 _ _ _ _ hs];exact hl
  ·cases hl
 ·exact hl
theorem Hz (h:∀l:Nat,(∀cs,s[l]?=some (eH.cells cs)→s'[l]?=some (eH.cells cs))∧∀t sz ver cs,s[l]?=some (eH.buf t sz ver cs)→s'[l]?=some (eH.buf t sz ver cs)):∀(rs:List RV) {env:Env} {vs:List AV},iM glob env s rs=some vs→iM glob env s' rs=some vs
 | [],env,vs,hr=>hr
 | .tmp t::r,env,vs,hr=>by
  simp only [iM] at hr ⊢
  split at hr
  ·rename_i v env1 he
   cases hr2:iM glob env1 s r with
   | none=>simp [hr2] at hr
   | some vs'=>simp [hr2] at hr;subst hr;rw [Hz h r hr2];rfl
  ·cases hr
 | .cell p n::r,env,vs,hr=>by
  simp only [iM] at hr ⊢
  split at hr
  ·rename_i v hv
   rw [Uk h hv]
   cases hr2:iM glob env s r with
   | none=>simp [hr2] at hr
   | some vs'=>simp [hr2] at hr;subst hr;simp only [];rw [Hz h r hr2];rfl
  ·cases hr
theorem Jo {fn:Func} {R:Ending→World→Prop} {m:Nat} (hw:Fence.wide.round=none):∀(ls:List Nat) {s:St} {w:World},Sim P glob g s B w (Act.tm a) env→(∀l∈ls,s[l]?=some .dfr)→ls.Nodup→
  (∀w',Sim P glob g (kills ls s) B w' (Act.tm a) env→Step qt g s.length B w g s.length w'→∃v,(results fn a.tmps).run P w'=.ok v w'∧R (.returned v) w')→
  LeavesInM Fence.wide m P fn a.tmps R (ls.map fun l=>{ target:=.collected (g.L l),args:=#[] }) .returning w
 | [],s,w,h,_,_,hR=>hR w h (.refl _ _ _ _)
 | l::ls,s,w,h,hd,hnd,hR=>by
  simp only [List.map_cons,LeavesInM]
  have hl:=hd l (by simp)
  have hlt:l<s.length:=(List.getElem?_eq_some_iff.1 hl).1
  have hb:=h.base.heap.dfr l hl
  obtain ⟨hnl,hnd'⟩:=List.nodup_cons.1 hnd
  refine ⟨by simp,.inl ⟨g.L l,{ w with heap:=w.heap.setIfInBounds (g.L l) (.deferred none) },rfl, ?_, ?_⟩⟩
  ·simp [Instr.takeDeferred,Sem.run_bind,getObj,setObj,Sem.run,hb]
  ·have hk:=h.base.kill hlt (h.base.heap.obj _ _ hl).1 (.deferred none)
   have hoff:∀k e,lk env k=some e→e.owns=true→∀b,aQ (Act.tm a k)=some b→b≠g.L l:=fun k e hk' ho b hbk hbe=>h.env.off k e hk' ho b hbk (by rw [hbe];exact .L hlt)
   have hsim:Sim P glob g (s.set l .dead) B { w with heap:=w.heap.setIfInBounds (g.L l) (.deferred none) } (Act.tm a) env:=by
    refine ⟨hk, ?_,by simpa using h.B⟩
    simp only [List.length_set]
    exact h.env.next (.refl _ _) (fun k e hk' ho b hbk=>⟨aT (hoff k e hk' ho b hbk),rfl,rfl,fun ht=>ht⟩)
   have hst:Step qt g s.length B w g s.length { w with heap:=w.heap.setIfInBounds (g.L l) (.deferred none) }:=
    ⟨.refl _ _,by simp,fun b hb hbl=>aT (fun hbe=>hbl (by rw [hbe];exact .L hlt)),fun _ _ _=>rfl,fun _ _=>rfl,fun b hb=>.inl hb,rfl,rfl,fun _=>⟨rfl,Nat.le_refl _⟩⟩
   refine Jo hw ls hsim (fun l' hl'=>?_) hnd' (fun w' hs' hst'=>hR w' hs' ?_)
   ·rw [List.getElem?_set_ne (fun he=>by subst he;exact hnl hl')];exact hd l' (by simp [hl'])
   ·simp only [List.length_set] at hst'
    exact hst.trans hst'
theorem Jp {fn:Func} {R:Ending→World→Prop} {m:Nat} {chain:List PanicEntry} (hw:Fence.wide.round=none):∀(ls:List Nat) {s:St} {w:World},Sim P glob g s B w (Act.tm a) env→(∀l∈ls,s[l]?=some .dfr)→ls.Nodup→
  (∀w',Sim P glob g (kills ls s) B w' (Act.tm a) env→Step qt g s.length B w g s.length w'→R (.panicked chain) w')→
  LeavesInM Fence.wide m P fn a.tmps R (ls.map fun l=>{ target:=.collected (g.L l),args:=#[] }) (.panicking chain) w
 | [],s,w,h,_,_,hR=>hR w h (.refl _ _ _ _)
 | l::ls,s,w,h,hd,hnd,hR=>by
  simp only [List.map_cons,LeavesInM]
  have hl:=hd l (by simp)
  have hlt:l<s.length:=(List.getElem?_eq_some_iff.1 hl).1
  have hb:=h.base.heap.dfr l hl
  obtain ⟨hnl,hnd'⟩:=List.nodup_cons.1 hnd
  refine ⟨by simp,.inl ⟨g.L l,{ w with heap:=w.heap.setIfInBounds (g.L l) (.deferred none) },rfl, ?_, ?_⟩⟩
  ·simp [Instr.takeDeferred,Sem.run_bind,getObj,setObj,Sem.run,hb]
  ·have hk:=h.base.kill hlt (h.base.heap.obj _ _ hl).1 (.deferred none)
   have hoff:∀k e,lk env k=some e→e.owns=true→∀b,aQ (Act.tm a k)=some b→b≠g.L l:=fun k e hk' ho b hbk hbe=>h.env.off k e hk' ho b hbk (by rw [hbe];exact .L hlt)
   have hsim:Sim P glob g (s.set l .dead) B { w with heap:=w.heap.setIfInBounds (g.L l) (.deferred none) } (Act.tm a) env:=by
    refine ⟨hk, ?_,by simpa using h.B⟩
    simp only [List.length_set]
    exact h.env.next (.refl _ _) (fun k e hk' ho b hbk=>⟨aT (hoff k e hk' ho b hbk),rfl,rfl,fun ht=>ht⟩)
   have hst:Step qt g s.length B w g s.length { w with heap:=w.heap.setIfInBounds (g.L l) (.deferred none) }:=
    ⟨.refl _ _,by simp,fun b hb hbl=>aT (fun hbe=>hbl (by rw [hbe];exact .L hlt)),fun _ _ _=>rfl,fun _ _=>rfl,fun b hb=>.inl hb,rfl,rfl,fun _=>⟨rfl,Nat.le_refl _⟩⟩
   refine Jp hw ls hsim (fun l' hl'=>?_) hnd' (fun w' hs' hst'=>hR w' hs' ?_)
   ·rw [List.getElem?_set_ne (fun he=>by subst he;exact hnl hl')];exact hd l' (by simp [hl'])
   ·simp only [List.length_set] at hst'
    exact hst.trans hst'
end Go.Ai
