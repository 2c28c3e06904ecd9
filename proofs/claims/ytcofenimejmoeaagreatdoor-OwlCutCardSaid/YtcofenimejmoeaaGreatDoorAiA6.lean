/-
 One operation of a region.
-/
import Derived.Test.YtcofenimejmoeaaGreatDoorAiA5
import Derived.RangeFuncLeaves
set_option maxRecDepth 100000
set_option linter.unusedSimpArgs false
set_option linter.unusedVariables false
set_option linter.unusedSectionVars false
namespace Go.Ai
variable {qt:Prop} {P:Program} {glob:Nat→Option (List AV)} {g:ai} {s:St} {B:Nat} {w:World} {env:Env} {a:Act} {o:Oper} {call:AV→List AV→St→Ctx→CO} {cx:Ctx} {e:EV} {env':Env} {s':St}
theorem Rw:∀{args:List IX} {as:List AV},rds glob env args=some as→zW glob env args=some (as,env)
 | [],as,h=>by simp only [rds,Option.some.injEq] at h;subst h;rfl
 | x::r,as,h=>by
  unfold rds at h
  split at h
  ·cases h
  ·rename_i a ha
   split at h
   ·cases h
   ·rename_i A p;cases h
    have hx:esc glob env x=some (a,env):=by
     unfold rd at ha;unfold esc
     split at ha
     ·rename_i a' he;rw [he];cases ha;rfl
     ·cases ha
    simp only [zW,hx,Rw p]
theorem aaL {d:Nat} {f:IX} {args:List IX} {k:Option (Nat×Nat)} {o:RO} (h:aop glob call cx env s (.callh d f args k)=o) (ho:o≠.fail):aop glob call cx env s (.call f args)=o:=by
 simp only [aop] at h ⊢
 split at h
 ·exact absurd h.symm ho
 ·split at h
  ·rename_i fv as hf ha;rw [hf,Rw ha];dsimp only
   split at h
   ·split at h
    ·exact h
    ·exact absurd h.symm ho
   ·exact h
   ·exact absurd h.symm ho
  ·exact absurd h.symm ho
theorem agj {ao:AOp} (h:Sim P glob g s B w (Act.tm a) env) (hc:aO P o.op ao=true) (hn:∀f as,ao≠.call f as∧ao≠.callp f as∧∀d k,ao≠.callh d f as k) (hr:aop glob call cx env s ao=.ok e env' s'):Good P glob g s B w a (execOp a.eval o) e env' s':=by
 cases ao with
 | mov x=>exact afp h hc hr
 | asg x=>exact afA h hc hr
 | cpy x=>exact afv h hc hr
 | nbuf t sz=>exact ac3 h hc hr
 | pick c x y=>exact ac2 h hc hr
 | lbox x=>exact ac8 h hc hr
 | lalloc zs=>exact Ph h hc hr
 | hbox x=>exact adg h hc hr
 | halloc zs=>exact YM h hc hr
 | load n x=>exact Ea h hc hr
 | loadp d n x=>
  have p:aO P o.op (.load n x)=true:=by simpa only [aO] using hc
  have A:aop glob call cx env s (.load n x)=.ok e env' s':=by
   simp only [aop] at hr ⊢
   split at hr
   ·exact hr
   ·cases hr
  exact Ea h p A
 | store n x y=>exact JV h hc hr
 | fld off x=>exact afs h hc hr
 | idx sz x i=>exact afr h hc hr
 | idxa len sz x i=>exact ada h hc hr
 | getf off n x=>exact adh h hc hr
 | idxv len sz n x i=>exact absurd hc Bool.false_ne_true
 | idxs x i=>exact ac9 h hc hr
 | bin op x y=>exact afx h hc hr
 | beq neg x y=>exact afy h hc hr
 | ieq neg n x y=>exact absurd hc Bool.false_ne_true
 | nileq neg k x=>exact aav h hc hr
 | un op x=>exact ahm h hc hr
 | toInt k x=>exact aat h hc hr
 | s2b x=>exact afm h hc hr
 | b2s x=>exact afz h hc hr
 | same x=>exact absurd hc Bool.false_ne_true
 | mark x=>exact ac6 h hc hr
 | markk x=>exact absurd hc Bool.false_ne_true
 | build zs ps=>exact aaw h hc hr
 | bsl own t sz len zs ps=>exact afw h hc hr
 | app t sz x y=>exact afB h hc hr
 | apps t x y=>exact absurd hc Bool.false_ne_true
 | appr t sz x y=>exact VF h hc hr
 | apprp d t sz x y=>
  have p:aO P o.op (.appr t sz x y)=true:=by simpa only [aO] using hc
  rcases PN hr with A | ⟨v,hy,Y,a1,rfl,rfl,rfl⟩
  ·exact VF h p A
  ·simp only [aO] at hc
   split at hc
   case h_2=>cases hc
   rename_i c S
   split at hc
   case h_2=>cases hc
   rename_i ts x' y' R O
   split at hc
   case h_2=>cases hc
   rename_i t1 t2 Q;simp only [Bool.and_eq_true,beq_iff_eq] at hc;obtain ⟨⟨⟨⟨rfl,hx⟩,hyy⟩,hsl⟩,hinf⟩:=hc;obtain ⟨hu,Z⟩:=pG hsl;obtain ⟨i,hi,J⟩:=pI Z;have K:∀z∈([]:List AV),z.cells.length=sz:=fun z hm=>absurd hm List.not_mem_nil;obtain ⟨a2,q1,q2⟩:=qX hyy h hy K;have I:=oh (a:=a) hx h.env h.base.glob Y;refine ⟨a.eval x',w,g,.inl ?_,.refl _ _ _ _,h,.v I⟩;refine kC S R O Q ?_;generalize a.eval x'=ax at I;rcases a1 with rfl|rfl|⟨l,es,rfl⟩
   ·cases I with
    | ns=>exact zG hu hi J (Nat.le_refl _) q1
   ·cases I with
    | se=>exact zG hu hi J (Nat.le_refl _) q1
   ·cases I with
    | st _ _ _ hl hh hr2=>
     cases hr2 with
     | slNil=>exact zG hu hi J (Nat.le_refl _) q1
     | slE=>exact zG hu hi J (Nat.le_refl _) q1
     | sl _ _ _ _ _ _ hcc=>exact zG hu hi J hcc q1
 | appk t sz x y=>exact NZ h hc hr
 | mks t sz zs x=>exact absurd hc Bool.false_ne_true
 | appz t sz zs x y=>exact adp h hc hr
 | appe t sz x y=>exact adq h hc hr
 | appv t sz x y=>exact absurd hc Bool.false_ne_true
 | appks t x y=>exact absurd hc Bool.false_ne_true
 | capn x=>exact ado h hc hr
 | asgk t sz x=>exact absurd hc Bool.false_ne_true
 | lallocp d zs=>
  have p:aO P o.op (.lalloc zs)=true:=by simpa only [aO] using hc
  have A:aop glob call cx env s (.lalloc zs)=.ok e env' s':=by
   simp only [aop] at hr ⊢
   split at hr
   ·cases hr
   ·exact hr
  exact Ph h p A
 | storep n x y=>exact YK h hc hr
 | loadl n x=>
  have p:aO P o.op (.load n x)=true:=by simpa only [aO] using hc
  have A:aop glob call cx env s (.load n x)=.ok e env' s':=by
   simp only [aop] at hr ⊢
   split at hr<;>first|exact hr|cases hr
  exact Ea h p A
 | storel n k x=>
  have p:aO P o.op (.store n (.t k) x)=true:=by simpa only [aO] using hc
  have A:aop glob call cx env s (.store n (.t k) x)=.ok e env' s':=by
   simp only [aop] at hr ⊢
   split at hr
   ·rename_i cs xv hk hx
    split at hr
    ·rename_i a0;obtain ⟨q1,q2,q3,q4⟩:=a0;have he:MK glob env x=some (xv,env):=by unfold MK;rw [hx]
     have hs:uo glob cx env s n (.t k) xv=some ((k,.bx (splice cs 0 xv.cells))::env,s):=by
      unfold uo;have W:ev glob env (.t k)=some (.bx cs):=hk;rw [if_pos ⟨q1,q2,q3⟩,W];simp only [if_pos q4]
     rw [he];simp only [hs];exact hr
    ·cases hr
   ·cases hr
  exact JV h p A
 | umap d=>exact absurd hc Bool.false_ne_true
 | uins m k v=>exact absurd hc Bool.false_ne_true
 | bse=>exact absurd hc Bool.false_ne_true
 | clrk zs x=>exact adn h hc hr
 | len k x=>exact afq h hc hr
 | lenA n=>exact absurd hc Bool.false_ne_true
 | minmax isMin x y=>exact absurd hc Bool.false_ne_true
 | slc sz x lo hi=>exact afl h hc hr
 | slcs x lo hi=>exact ac0 h hc hr
 | slc3 sz x hi mx=>exact ac1 h hc hr
 | ext x i=>exact aft h hc hr
 | mkfn f as cs=>exact ac5 h hc hr
 | mkif t x=>exact ac4 h hc hr
 | look kk z ok m k=>exact ac7 h hc hr
 | mkmap=>exact absurd hc Bool.false_ne_true
 | ins kk m k v=>exact absurd hc Bool.false_ne_true
 | hmap=>exact adb h hc hr
 | hins kk m k v=>exact ade h hc hr
 | hdel kk m k=>exact adf h hc hr
 | call f as=>exact absurd rfl (hn f as).1
 | callp f as=>exact absurd rfl (hn f as).2.1
 | callh d f as k=>exact absurd rfl ((hn f as).2.2 d k)
 | loadw n x bs=>
  have p:aO P o.op (.load n x)=true:=by simpa only [aO] using hc
  have A:aop glob call cx env s (.load n x)=.ok e env' s':=by
   simp only [aop] at hr ⊢
   split at hr
   ·split at hr
    ·exact hr
    ·cases hr
   ·cases hr
  exact Ea h p A
 | loadv x k off=>
  have p:aO P o.op (.load none x)=true:=by simpa only [aO] using hc
  have A:aop glob call cx env s (.load none x)=.ok e env' s':=by
   simp only [aop] at hr ⊢
   split at hr
   ·rename_i l o l' o' hx hk
    split at hr
    ·split at hr
     ·rename_i m hm;unfold NR at hm;unfold kV;rw [hx];dsimp only
      cases hs:s[l]? with
      | none=>rw [hs] at hm;cases hm
      | some ob=>
       rw [hs] at hm
       cases ob with
       | cells cs=>
        dsimp only at hm ⊢
        cases hcs:cs[o]? with
        | none=>rw [hcs] at hm;cases hm
        | some v=>
         rw [hcs] at hm
         cases v<;>(try (cases hm;done))
         cases hm
         simpa [okv,part,hcs] using hr
       | _=>cases hm
     ·cases hr
    ·cases hr
   ·cases hr
  exact Ea h p A
 | nilchk x=>exact YL h hc hr
 | panic x=>simp only [aop] at hr;split at hr<;>cases hr
theorem Step.lower {g g':ai} {n n' B B':Nat} {w w':World} (h:Step qt g n B' w g' n' w') (hB:B≤B'):Step qt g n B w g' n' w':=
 ⟨h.le,h.size,fun b hb=>h.keep b (by omega),fun b hb=>h.m b (by omega),fun b hb=>h.mm b (by omega),fun b hb=>(h.new b hb).imp id (fun hh=>by omega),h.io⟩
def Ret (qt:Prop) (P:Program) (glob:Nat→Option (List AV)) (g:ai) (s:St) (w:World) (r:AV) (s':St):Ending→World→Prop:=
 fun e w'=>∃v g',e=.returned v∧Step qt g s.length w.heap.size w g' s'.length w'∧Base P glob g' s' w'∧Rep g' s'.length v r
def callOf (f:Value) (args:Array Value):Sem Next:=do let d ←Deferred.ofValue f args;invoke d.target d.args
def Pan (qt:Prop) (P:Program) (glob:Nat→Option (List AV)) (g:ai) (s:St) (w:World) (r:AV) (s':St):Ending→World→Prop:=
 fun e w'=>∃u g',e=.panicked [{ v:=u,recovered:=false }]∧Step qt g s.length w.heap.size w g' s'.length w'∧Base P glob g' s' w'∧Rep g' s'.length u r
structure uw (qt:Prop) (P:Program) (glob:Nat→Option (List AV)) (call:AV→List AV→St→Ctx→CO):Prop where
 fn:∀fv args s cx r s',gy cx s→(∀l,fv≠.yl l)→call fv args s cx=.ret r s'→∀g w f vs,Base P glob g s w→Rep g s.length f fv→aX g s.length vs.toList args→
  ∃fid args',(callOf f vs).run P w=.ok (.enter fid args') w∧∀m,CallsIn Fence.wide m P fid args' w (Ret qt P glob g s w r s')
 yl:∀l args s cx r s',gy cx s→call (.yl l) args s cx=.ret r s'→∀g w f vs,Base P glob g s w→Rep g s.length f (.yl l)→aX g s.length vs.toList args→
  ∃l' fid tmps asg body,(callOf f vs).run P w=.ok (.round l' fid tmps asg body) w∧∀m,RoundIn Fence.wide m P l' fid tmps asg body w (Ret qt P glob g s w r s')
 pan:∀fv args s cx r s',gy cx s→call fv args s cx=.pan r s'→∀g w f vs,Base P glob g s w→Rep g s.length f fv→aX g s.length vs.toList args→
  ∃fid args',(callOf f vs).run P w=.ok (.enter fid args') w∧∀m,CallsIn Fence.wide m P fid args' w (Pan qt P glob g s w r s')
def isF (F:Fence):Prop:=F=Fence.wide∨∃l,F=Fence.wide.inRound l
theorem isF.fn {F:Fence} (h:isF F) (f:FuncId):F.fn f:=by rcases h with rfl|⟨l,rfl⟩<;>trivial
theorem isF.depth {F:Fence} (h:isF F):F.depth=none:=by rcases h with rfl|⟨l,rfl⟩<;>rfl
theorem isF.calls {F:Fence} (h:isF F) {m:Nat} {f:FuncId} {args:Array Value} {R:Ending→World→Prop} (hc:CallsIn Fence.wide m P f args w R):CallsIn F m P f args w R:=by
 rcases h with rfl|⟨l,rfl⟩
 ·exact hc
 ·exact hc
theorem isF.rounds {F:Fence} (h:isF F) {m l:Nat} {f:FuncId} {tmps:Array Value} {p body:Code} {R:Ending→World→Prop} (hc:RoundIn Fence.wide m P l f tmps p body w R):RoundIn F m P l f tmps p body w R:=by
 rcases h with rfl|⟨l,rfl⟩
 ·exact hc
 ·exact hc
structure Fr (P:Program) (glob:Nat→Option (List AV)) (g:ai) (s:St) (B:Nat) (w:World) (a:Act) (env:Env) (N:Wd) (b0:Nat) (ls:List Nat):Prop where
 sim:Sim P glob g s B w (Act.tm a) env
 sz:a.tmps.size=N.n
 dl:a.defers=(ls.map fun l=>{ target:=.collected (g.L l),args:=#[] })++N.dd
 df:∀l∈ls,s[l]?=some .dfr
 nd:ls.Nodup
 lo:∀l∈ls,b0≤l
 pin:∀p∈N.pn,p.1<N.lo∧p.2<s.length∧Act.tm a p.1=.pointer (some ⟨g.L p.2,0,none⟩)
theorem ZI {a:Act} {d:Nat} {v:Value} (h:d<a.tmps.size):Act.tm (a.put (some d) v)=upd (Act.tm a) d v:=by
 funext k
 simp only [Act.put,Act.tm,upd];by_cases hk:k=d
 ·subst hk;simp [Array.getD_eq_getD_getElem?,h]
 ·rw [if_neg hk];simp [Array.getD_eq_getD_getElem?,Array.getElem?_setIfInBounds,Ne.symm hk]
theorem put_defers {a:Act} {d:Option Nat} {v:Value}:(a.put d v).defers=a.defers:=by cases d<;>rfl
theorem aes {a:Act} {d:Option Nat} {v:Value}:(a.put d v).tmps.size=a.tmps.size:=by cases d<;>simp [Act.put]
theorem Fr.next {b0:Nat} {N:Wd} {ls:List Nat} {g':ai} {w':World} {a':Act} (h:Fr P glob g s B w a env N b0 ls) (hs:Sim P glob g' s' B w' (Act.tm a') env') (I:a'.tmps.size=a.tmps.size) (hd:a'.defers=a.defers)
  (x:g.le s.length g' s'.length) (he:∀l:Nat,s[l]?=some gq.dfr→s'[l]?=some gq.dfr) (hp:∀k,k<N.lo→Act.tm a' k=Act.tm a k):Fr P glob g' s' B w' a' env' N b0 ls:=by
 refine ⟨hs,I.trans h.sz,hd.trans (h.dl.trans (congrArg (·++N.dd) (List.map_congr_left fun l hl=>?_))),fun l hl=>he l (h.df l hl),h.nd,h.lo,fun p A=>?_⟩
 ·rw [x.L l (List.getElem?_eq_some_iff.1 (h.df l hl)).1]
 ·obtain ⟨q1,q2,q3⟩:=h.pin p A;exact ⟨q1,Nat.lt_of_lt_of_le q2 x.n,by rw [hp _ q1,q3,x.L _ q2]⟩
theorem Fr.put {b0:Nat} {N:Wd} {ls:List Nat} {g':ai} {w':World} {v:Value} {dst:Option Nat} (h:Fr P glob g s B w a env N b0 ls) (hd:∀d,dst=some d→d<N.n∧N.lo≤d) (hs:Sim P glob g' s' B w' (Act.tm a) env') (hn:New g' s'.length B w' (Act.tm a) env' e v)
  (x:∀d,dst=some d→e.refers d=false) (p:g.le s.length g' s'.length) (he:∀l:Nat,s[l]?=some gq.dfr→s'[l]?=some gq.dfr):
  Fr P glob g' s' B w' (a.put dst v) (match dst with|some d=>put env' d e|none=>env') N b0 ls:=by
 cases dst with
 | none=>exact h.next hs rfl rfl p he (fun _ _=>rfl)
 | some d=>
  refine h.next ?_ aes put_defers p he (fun k hk=>?_)
  ·rw [ZI (by rw [h.sz];exact (hd d rfl).1)];exact hs.put hn d (x d rfl)
  ·rw [ZI (by rw [h.sz];exact (hd d rfl).1)];exact if_neg (by have:=(hd d rfl).2;omega)
theorem getD_some {tmps:Array Value} {k:Nat} {v:Value} (h:tmps.getD k undef=v) (hv:v≠undef):tmps[k]?=some v:=by
 rw [Array.getD_eq_getD_getElem?] at h
 cases hk:tmps[k]? with
 | none=>rw [hk] at h;simp at h;exact absurd h.symm hv
 | some u=>rw [hk] at h;simp at h;rw [h]
theorem Ey {ops:Array Oper} {gd:Option (Nat×Bool)} (hg:GN ops o.guard gd=true) (h:iT g s.length B w (Act.tm a) env) {b:Bool} (hw:gW env gd=some b):Region.wanted o (yielded ops a.tmps)=b:=by
 unfold Region.wanted
 cases hog:o.guard with
 | none=>
  cases gd with
  | none=>simp [gW] at hw;subst hw;rfl
  | some p=>simp [GN,hog] at hg
 | some p=>
  obtain ⟨j,A⟩:=p
  cases gd with
  | none=>simp [GN,hog] at hg
  | some q=>
  obtain ⟨k,I⟩:=q;simp only [GN,hog] at hg;simp only [];simp only [Bool.and_eq_true,beq_iff_eq] at hg;obtain ⟨rfl,hd⟩:=hg;simp only [gW] at hw
  split at hw
  ·rename_i x hk;cases hw;have hr:=h.rel k _ hk;have ht:Act.tm a k=.bool x:=wF hr
   have:=getD_some (tmps:=a.tmps) (k:=k) ht (by simp [undef])
   simp only [yielded,hd,Option.bind_some,this]
   cases x<;>cases A<;>rfl
  ·rename_i hk;cases hw;have hr:Rep g s.length (Act.tm a k) (.tu []):=h.rel k _ hk
   have ht:Act.tm a k=undef:=by
    generalize Act.tm a k=t at hr
    cases hr with
    | tu vs _ hl _=>
     have:vs=#[]:=Array.eq_empty_of_size_eq_zero (by simpa using hl)
     subst this;rfl
   have hy:yielded ops a.tmps j=none:=by
    simp only [yielded,hd,Option.bind_some]
    cases hk2:a.tmps[k]? with
    | none=>rfl
    | some u=>
     have:u=undef:=by
      rw [←ht];simp [Act.tm,Array.getD_eq_getD_getElem?,hk2]
     subst this;rfl
   simp only [hy]
   cases A<;>rfl
  ·cases hw
theorem Vq {ao:AOp} (hc:aO P o.op ao=true):∀c,o.op≠.defer c:=by
 intro c hd;rw [hd] at hc
 cases ao<;>simp [aO] at hc
theorem Gm {F:Fence} {n i b0:Nat} {N:Wd} {ls:List Nat} {ops:Array Oper} {ao:aI} {Q:Exit→Act→World→Prop} {K:Act→World→Prop} (a4:uw qt P glob call) (c3:ji call) (hF:isF F) (b4:gy cx s) (h:Fr P glob g s B w a env N b0 ls)
  (hi:ops[i]?=some o) (hc:xk P N ops o ao=true) (hr:fK glob call cx ao env s=.norm env' s')
  (hK:∀g' w' a',Step qt g s.length B w g' s'.length w'→Fr P glob g' s' B w' a' env' N b0 ls→K a' w'):wpOpIn F n P ops Q i K a w:=by
 have Z:Ext cx s s':=qP c3 b4 (o:=ao) (by rw [hr];rfl);simp only [xk,Bool.and_eq_true,beq_iff_eq] at hc;obtain ⟨⟨⟨a2,b6⟩,hguard⟩,hop⟩:=hc;have a0:∀d,o.dst=some d→d<N.n∧N.lo≤d:=fun d hd=>by rw [hd] at b6;simpa using b6
 unfold wpOpIn;rw [hi];simp only [];unfold fK at hr
 split at hr
 ·cases hr
 ·rename_i hw;have R:=Ey hguard h.sim.env hw;rw [R];simp only [Bool.false_eq_true,if_false];refine ⟨fun f _=>hF.fn f, ?_⟩;have x:New g s.length B w (Act.tm a) env (.v (.tu [])) undef:=.v (.tu #[] [] rfl (fun i hi=>by simp at hi));rw [←a2] at hr
  cases hd:o.dst with
  | none=>rw [hd] at hr;simp at hr;obtain ⟨rfl,rfl⟩:=hr;exact hK g w _ (.refl _ _ _ _) h
  | some d=>
   rw [hd] at hr;simp at hr;obtain ⟨rfl,rfl⟩:=hr
   have:=h.put (dst:=some d) (fun d' I=>by cases I;exact a0 d hd) h.sim x (fun d' _=>by simp [EV.refers]) (.refl _ _) (fun _ hl=>hl)
   exact hK g w _ (.refl _ _ _ _) this
 ·rename_i hw;have R:=Ey hguard h.sim.env hw;rw [R];simp only [if_true];refine ⟨fun f _=>hF.fn f, ?_⟩;rw [Oper.semAt_eq _ _ _ (Vq hop)]
  split at hr
  ·cases hr
  ·cases hr
  ·rename_i e1 env1 s1 ha
   -- the entry that is set
   have S:∀g' w' v,Step qt g s.length B w g' s1.length w'→Sim P glob g' s1 B w' (Act.tm a) env1→New g' s1.length B w' (Act.tm a) env1 e1 v→K (a.put o.dst v) w':=by
    intro g' w' v hs J x;rw [←a2] at hr
    cases hd:o.dst with
    | none=>
     rw [hd] at hr;simp at hr;obtain ⟨rfl,rfl⟩:=hr
     have:=h.put (dst:=none) (fun d' I=>by cases I) J x (fun d' I=>by cases I) hs.le Z.dfr
     exact hK g' w' _ hs this
    | some d=>
     rw [hd] at hr;simp only [] at hr
     split at hr
     ·cases hr
     ·rename_i a9;simp at hr;obtain ⟨rfl,rfl⟩:=hr
      have:=h.put (dst:=some d) (fun d' I=>by cases I;exact a0 d hd) J x (fun d' I=>by cases I;simpa using a9) hs.le Z.dfr
      exact hK g' w' _ hs this
   by_cases hcl:∃f as,ao.op=.call f as∨ao.op=.callp f as∨∃d k,ao.op=.callh d f as k
   ·obtain ⟨f,as,p⟩:=hcl
    replace ha:aop glob call cx env s (.call f as)=.ok e1 env1 s1:=by
     rcases p with p|p|⟨d,k,p⟩<;>rw [p] at ha
     ·exact ha
     ·exact ha
     ·exact aaL ha (by simp)
    replace hop:aO P o.op (.call f as)=true:=by rcases p with p|p|⟨d,k,p⟩<;>(rw [p] at hop;exact hop)
    simp only [aop] at ha
    split at ha
    ·rename_i fv args env2 c2 a7
     split at ha
     ·rename_i r s2 a5;cases ha;simp only [aO] at hop
      split at hop
      ·rename_i c c0
       split at hop
       ·rename_i f' b5;simp only [Bool.and_eq_true] at hop;obtain ⟨g1,b2,m1,r1⟩:=xB hop.2 h.sim a7;have a3:Rep g1 s.length (a.eval f') fv:=(aK (a:=a) hop.1 h.sim.env h.sim.base.glob c2).mono b2.le
        have b9:execOp a.eval o=callOf (a.eval f') (c.args.map a.eval):=by
         simp only [execOp,c0,resolve,b5,callOf]
        have b7:aX g1 s.length (c.args.map a.eval).toList args:=by simpa using r1
        have Y:∀v w',(∃v' g',Ending.returned v=.returned v'∧Step qt g1 s.length w.heap.size w g' s1.length w'∧Base P glob g' s1 w'∧Rep g' s1.length v' r)→K (a.put o.dst v) w':=by
         rintro v w' ⟨v',g',hv,A,hb,a8⟩;cases hv;have hB:=m1.B;have b1:Step qt g1 s.length B w g' s1.length w':=A.lower hB;refine S g' w' v (b2.weak.trans b1) ⟨hb, ?_,by have:=A.size;omega⟩ (.v a8);refine m1.env.next A.le (fun k e hk ho b b3=>?_);have a6:=Bl m1.env hk ho b3;have a1:=m1.env.off k e hk ho b b3;exact ⟨A.keep b a6 a1,A.m b a6 a1,A.mm b a6,fun ht=>(A.new b ht).elim id (fun hh=>by omega)⟩
        rw [b9]
        cases hyl:fv with
        | yl l=>
         rw [hyl] at a5 a3;obtain ⟨l',c1,tmps,c4,body,q1,q2⟩:=a4.yl l args s cx r _ b4 a5 g1 w _ _ m1.base a3 b7;rw [q1,Oper.uponIn_round];refine ⟨fun hd=>by rw [hF.depth] at hd;simp at hd,hF.rounds ((q2 (n - 1)).mono fun e w' he=>?_)⟩;obtain ⟨v,g',rfl,O⟩:=he;exact Y v w' ⟨v,g',rfl,O⟩
        | _=>
         all_goals
          obtain ⟨c1,b8,q1,q2⟩:=a4.fn fv args s cx r _ b4 (by rw [hyl];intro l hl;cases hl) a5 g1 w _ _ m1.base a3 b7;rw [q1,Oper.uponIn_enter];refine ⟨fun hd=>by rw [hF.depth] at hd;simp at hd,hF.calls ((q2 (n - 1)).mono fun e w' he=>?_)⟩;obtain ⟨v,g',rfl,O⟩:=he;exact Y v w' ⟨v,g',rfl,O⟩
       ·cases hop
      ·cases hop
     ·cases ha
     ·cases ha
    ·cases ha
   ·obtain ⟨v,w',g',hx,A,J,x⟩:=agj (o:=o) h.sim hop (fun f as=>⟨fun W=>hcl ⟨f,as,.inl W⟩,fun W=>hcl ⟨f,as,.inr (.inl W)⟩,fun d k W=>hcl ⟨f,as,.inr (.inr ⟨d,k,W⟩)⟩⟩) ha;rcases hx with hx|⟨hx,rfl⟩
    ·rw [hx,Oper.uponIn_value];exact S g' w' v A.weak J x
    ·rw [hx,Oper.uponIn_skip];exact S g' w' _ A.weak J x
theorem ahW {op:AOp} {v:AV} (h:aop glob call cx env s op=.pan v s'):(∃f as fv args env2,(op=.call f as∨op=.callp f as∨∃d k,op=.callh d f as k)∧rd glob env f=some fv∧zW glob env as=some (args,env2)∧call fv args s cx=.pan v s')∨
  ∃x t a env2,op=.panic x∧esc glob env x=some (.ifc t a,env2)∧v=.ifc t a∧s'=s:=by
 cases op with
 | call f args=>
  simp only [aop] at h
  split at h
  ·rename_i h1 h2
   split at h
   ·cases h
   ·rename_i hc;cases h;exact .inl ⟨_,_,_,_,_,.inl rfl,h1,h2,hc⟩
   ·cases h
  ·cases h
 | callp f args=>
  simp only [aop] at h
  split at h
  ·rename_i h1 h2
   split at h
   ·cases h
   ·rename_i hc;cases h;exact .inl ⟨_,_,_,_,_,.inr (.inl rfl),h1,h2,hc⟩
   ·cases h
  ·cases h
 | loadw n a bs=>
  exfalso;simp only [aop,okv] at h
  (repeat' split at h)<;>cases h
 | loadv a k off=>
  exfalso;simp only [aop] at h
  (repeat' split at h)<;>cases h
 | callh d f args k=>
  simp only [aop] at h
  split at h
  ·cases h
  ·split at h
   ·rename_i h1 h2
    split at h
    ·split at h<;>cases h
    ·rename_i hc;cases h;exact .inl ⟨_,_,_,_,_,.inr (.inr ⟨_,_,rfl⟩),h1,Rw h2,hc⟩
    ·cases h
   ·cases h
 | panic x=>
  simp only [aop] at h
  split at h
  ·rename_i h1;cases h;exact .inr ⟨_,_,_,_,rfl,h1,rfl,rfl⟩
  ·cases h
 | len k x=>
  exfalso
  match k with
  | 0=>simp only [aop] at h;(repeat' split at h)<;>cases h
  | 1=>simp only [aop] at h;(repeat' split at h)<;>cases h
  | 2=>simp only [aop] at h;(repeat' split at h)<;>cases h
  | k+3=>simp only [aop] at h;cases h
 | _=>
  exfalso;simp only [aop,okv] at h
  (repeat' split at h)<;>cases h
theorem Fr.bare {b0:Nat} {N:Wd} {ls:List Nat} (h:Fr P glob g s B w a env N b0 ls):Fr P glob g s B w a [] N b0 ls:=
 ⟨⟨h.sim.base,h.sim.env.keep [],h.sim.B⟩,h.sz,h.dl,h.df,h.nd,h.lo,h.pin⟩
theorem aeC {F:Fence} {n i b0:Nat} {N:Wd} {ls:List Nat} {ops:Array Oper} {ao:aI} {v:AV} {Q:Exit→Act→World→Prop} {K:Act→World→Prop} (a4:uw qt P glob call) (b6:ji call) (hF:isF F) (b2:gy cx s) (h:Fr P glob g s B w a env N b0 ls)
  (hi:ops[i]?=some o) (hc:xk P N ops o ao=true) (hr:fK glob call cx ao env s=.pan v s')
  (hQ:∀u g' w' a',Step qt g s.length B w g' s'.length w'→Fr P glob g' s' B w' a' [] N b0 ls→Rep g' s'.length u v→Q (.panic [{ v:=u,recovered:=false }]) a' w'):wpOpIn F n P ops Q i K a w:=by
 have S:Ext cx s s':=qP b6 b2 (o:=ao) (by rw [hr];rfl);simp only [xk,Bool.and_eq_true,beq_iff_eq] at hc;obtain ⟨⟨⟨b7,b8⟩,hguard⟩,hop⟩:=hc;unfold wpOpIn;rw [hi];simp only [];unfold fK at hr
 split at hr
 ·cases hr
 ·split at hr<;>cases hr
 ·rename_i hw;have R:=Ey hguard h.sim.env hw;rw [R];simp only [if_true];refine ⟨fun f _=>hF.fn f, ?_⟩;rw [Oper.semAt_eq _ _ _ (Vq hop)]
  split at hr
  ·cases hr
  ·rename_i v1 s1 ha;cases hr;rcases ahW ha with ⟨f,as,fv,args,env2,A,b5,W,b1⟩|⟨x,t,av,env2,a9,hx,rfl,rfl⟩
   ·replace hop:aO P o.op (.call f as)=true:=by rcases A with A|A|⟨d,k,A⟩<;>(rw [A] at hop;exact hop)
    simp only [aO] at hop
    split at hop
    ·rename_i c a8
     split at hop
     ·rename_i f' a1;simp only [Bool.and_eq_true] at hop;obtain ⟨g1,I,m1,r1⟩:=xB hop.2 h.sim W;have b4:Rep g1 s.length (a.eval f') fv:=(aK (a:=a) hop.1 h.sim.env h.sim.base.glob b5).mono I.le
      have O:execOp a.eval o=callOf (a.eval f') (c.args.map a.eval):=by
       simp only [execOp,a8,resolve,a1,callOf]
      have b3:aX g1 s.length (c.args.map a.eval).toList args:=by simpa using r1
      obtain ⟨b9,a5,q1,q2⟩:=a4.pan fv args s cx v s' b2 b1 g1 w _ _ m1.base b4 b3;rw [O,q1,Oper.uponIn_enter];refine ⟨fun hd=>by rw [hF.depth] at hd;simp at hd,hF.calls ((q2 (n - 1)).mono fun e w' he=>?_)⟩;obtain ⟨u,g',rfl,Y,hb,Z⟩:=he;have hB:=m1.B;have a0:Step qt g1 s.length B w g' s'.length w':=Y.lower hB;have p:Step qt g s.length B w g' s'.length w':=I.weak.trans a0;have J:=h.bare;refine hQ u g' w' a p ?_ Z;refine J.next ⟨hb, ?_,by have:=Y.size;omega⟩ rfl rfl p.le S.dfr (fun _ _=>rfl);exact ⟨fun k e hk=>by simp [lk] at hk,fun k k' e e' hk=>by simp [lk] at hk,fun k e hk=>by simp [lk] at hk,fun k e j hk=>by simp [lk] at hk⟩
     ·cases hop
    ·cases hop
   ·rw [a9] at hop;simp only [aO] at hop
    split at hop
    ·rename_i x' a3
     have O:execOp a.eval o=(do pure (.value (←Instr.panic (a.eval x')))):=by simp only [execOp,a3]
     obtain ⟨g1,I,m1,r1⟩:=pq hop h.sim hx
     obtain ⟨vv,a7,a6⟩:∃vv,a.eval x'=.iface t vv∧Rep g1 s'.length vv av:=by
      generalize a.eval x'=z at r1
      cases r1 with
      | ifc _ vv _ hr=>exact ⟨vv,rfl,hr⟩
     have a2:(execOp a.eval o).run P w=.halt (.panic (.iface t vv)) w:=by rw [O,a7];rfl
     rw [a2,Oper.uponIn_panic];have p:Step qt g s'.length B w g1 s'.length w:=I.weak;have J:=h.bare;refine hQ _ g1 w a p ?_ (.ifc t vv av a6);refine J.next ⟨m1.base, ?_,m1.B⟩ rfl rfl p.le (fun _ hl=>hl) (fun _ _=>rfl);exact ⟨fun k e hk=>by simp [lk] at hk,fun k k' e e' hk=>by simp [lk] at hk,fun k e hk=>by simp [lk] at hk,fun k e j hk=>by simp [lk] at hk⟩
    ·cases hop
  ·split at hr
   ·split at hr<;>cases hr
   ·cases hr
end Go.Ai
namespace Go.Ai
variable {qt:Prop} {P:Program} {glob:Nat→Option (List AV)} {g:ai} {s:St} {B:Nat} {w:World} {env:Env} {a:Act} {call:AV→List AV→St→Ctx→CO} {cx:Ctx} {env':Env} {s':St}
theorem DN {F:Fence} {n b0:Nat} {N:Wd} {ls:List Nat} {ops:Array Oper} {Q:Exit→Act→World→Prop} (I:uw qt P glob call) (A:ji call) (hF:isF F):
  ∀(os:List Oper) (p:List aI) (i:Nat) {g:ai} {s:St} {w:World} {a:Act} {env:Env},ops.toList.drop i=os→mV P N ops os p=true→gy cx s→Fr P glob g s B w a env N b0 ls→
    mM glob call cx p env s=.norm env' s'→(∀g' w' a',Step qt g s.length B w g' s'.length w'→Fr P glob g' s' B w' a' env' N b0 ls→Q .normal a' w')→wpOpsIn F n P ops Q (List.range' i os.length) a w
 | [],p,i,g,s,w,a,env,hos,hc,hcx,h,hr,hQ=>by
  cases p with
  | nil=>simp [mM] at hr;obtain ⟨rfl,rfl⟩:=hr;exact hQ g w a (.refl _ _ _ _) h
  | cons x r=>simp [mV] at hc
 | o::os,p,i,g,s,w,a,env,hos,hc,hcx,h,hr,hQ=>by
  cases p with
  | nil=>simp [mV] at hc
  | cons ao p=>
   simp only [mV,Bool.and_eq_true] at hc
   have hi:ops[i]?=some o:=by
    have:(ops.toList.drop i)[0]?=some o:=by rw [hos];rfl
    simpa using this
   have J:ops.toList.drop (i+1)=os:=by
    have:=congrArg List.tail hos
    simpa using this
   unfold mM at hr
   split at hr
   ·rename_i env1 s1 K;simp only [List.length_cons,List.range'_succ];rw [wpOpsIn_cons];have he:Ext cx s s1:=qP A hcx (o:=ao) (by rw [K];rfl);refine Gm I A hF hcx h hi hc.1 K (fun g1 w1 a1 O h1=>?_);exact DN I A hF os p (i+1) J hc.2 (hcx.ext he) h1 hr (fun g2 w2 a2 S h2=>hQ g2 w2 a2 (O.trans S) h2)
   ·rename_i R;exact absurd hr (by intro hh;exact R _ _ hh)
theorem abl {F:Fence} {n b0:Nat} {N:Wd} {ls:List Nat} {ops:Array Oper} {v:AV} {Q:Exit→Act→World→Prop} (p:uw qt P glob call) (A:ji call) (hF:isF F):
  ∀(os:List Oper) (I:List aI) (i:Nat) {g:ai} {s:St} {w:World} {a:Act} {env:Env},ops.toList.drop i=os→mV P N ops os I=true→gy cx s→Fr P glob g s B w a env N b0 ls→
    mM glob call cx I env s=.pan v s'→(∀u g' w' a',Step qt g s.length B w g' s'.length w'→Fr P glob g' s' B w' a' [] N b0 ls→Rep g' s'.length u v→Q (.panic [{ v:=u,recovered:=false }]) a' w')→wpOpsIn F n P ops Q (List.range' i os.length) a w
 | [],I,i,g,s,w,a,env,hos,hc,hcx,h,hr,hQ=>by
  cases I with
  | nil=>simp [mM] at hr
  | cons x r=>simp [mV] at hc
 | o::os,I,i,g,s,w,a,env,hos,hc,hcx,h,hr,hQ=>by
  cases I with
  | nil=>simp [mV] at hc
  | cons ao I=>
   simp only [mV,Bool.and_eq_true] at hc
   have hi:ops[i]?=some o:=by
    have:(ops.toList.drop i)[0]?=some o:=by rw [hos];rfl
    simpa using this
   have J:ops.toList.drop (i+1)=os:=by
    have:=congrArg List.tail hos
    simpa using this
   simp only [List.length_cons,List.range'_succ];rw [wpOpsIn_cons];unfold mM at hr
   split at hr
   ·rename_i env1 s1 K;have he:Ext cx s s1:=qP A hcx (o:=ao) (by rw [K];rfl);refine Gm p A hF hcx h hi hc.1 K (fun g1 w1 a1 O h1=>?_);exact abl p A hF os I (i+1) J hc.2 (hcx.ext he) h1 hr (fun u g2 w2 a2 R h2 hv=>hQ u g2 w2 a2 (O.trans R) h2 hv)
   ·exact aeC p A hF hcx h hi hc.1 hr hQ
theorem Rn {o:aI} {p:Out} (h:fK glob call cx o env s=p):p=.fail∨(∃v s1,p=.pan v s1)∨∃e1 s1,p=.norm e1 s1:=by
 unfold fK at h
 split at h
 ·exact .inl h.symm
 ·split at h<;>exact .inr (.inr ⟨_,_,h.symm⟩)
 ·split at h
  ·exact .inl h.symm
  ·exact .inr (.inl ⟨_,_,h.symm⟩)
  ·split at h
   ·split at h
    ·exact .inl h.symm
    ·exact .inr (.inr ⟨_,_,h.symm⟩)
   ·exact .inr (.inr ⟨_,_,h.symm⟩)
theorem OO:∀(l:List aI) {env:Env} {s:St} {p:Out},mM glob call cx l env s=p→p=.fail∨(∃v s1,p=.pan v s1)∨∃e1 s1,p=.norm e1 s1
 | [],env,s,p,h=>by simp [mM] at h;exact .inr (.inr ⟨_,_,h.symm⟩)
 | o::r,env,s,p,h=>by
  unfold mM at h
  split at h
  ·exact OO r h
  ·exact Rn h
theorem acu {o:aI} {p:Out} (h:iw glob call cx o env s=p):p=.fail∨(∃v s1,p=.pan v s1)∨∃e1 s1,p=.norm e1 s1:=by
 unfold iw at h
 split at h
 ·unfold BM at h
  split at h
  ·exact .inl h.symm
  ·split at h
   ·exact .inr (.inr ⟨_,_,h.symm⟩)
   ·split at h
    ·exact .inr (.inr ⟨_,_,h.symm⟩)
    ·exact .inl h.symm
 ·exact Rn h
theorem KU {aops:List aI}:∀(l:List Nat) {env:Env} {s:St} {p:Out},jC glob call cx aops l env s=p→p=.fail∨(∃v s1,p=.pan v s1)∨∃e1 s1,p=.norm e1 s1
 | [],env,s,p,h=>by simp [jC] at h;exact .inr (.inr ⟨_,_,h.symm⟩)
 | o::r,env,s,p,h=>by
  unfold jC at h
  split at h
  ·exact .inl h.symm
  ·split at h
   ·exact KU r h
   ·exact acu h
theorem X4 {aops:List aI} {ord:Option (List Nat×List Nat)} {x:Out} (h:rY glob call cx aops env s ord=x):x=.fail∨(∃v s1,x=.pan v s1)∨∃e1 s1,x=.norm e1 s1:=by
 cases ord with
 | none=>exact OO _ h
 | some p=>
  simp only [rY] at h;rcases KU (glob:=glob) (call:=call) (cx:=cx) (aops:=aops) p.1 (env:=Dz env p.2) (s:=s) rfl with hd|⟨v,s1,hd⟩|⟨e1,s1,hd⟩
  ·rw [hd] at h;exact .inl h.symm
  ·rw [hd] at h
   replace h:yV glob call cx aops p.1 (Dz env p.2) s=x:=h
   by_cases hf:x=.fail
   ·exact .inl hf
   ·obtain ⟨_,_,_,_,v',s2,_,_,_,_,h3⟩:=Ci h hf;exact .inr (.inl ⟨v',s2,h3⟩)
  ·rw [hd] at h;exact .inr (.inr ⟨e1,s1,h.symm⟩)
def Hy (qt:Prop) (P:Program) (glob:Nat→Option (List AV)) (call:AV→List AV→St→Ctx→CO):Prop:=
 (∀{F:Fence} {n id B b0:Nat} {N:Wd} {ls:List Nat} {ops:Array Oper} {aops:List aI} {π ts:List Nat} {Q:Exit→Act→World→Prop} {cx:Ctx} {g:ai} {s s':St} {w:World} {a:Act} {env env':Env},isF F→mV P N ops ops.toList aops=true→MR ops aops π=true→gy cx s→
  Fr P glob g s B w a env N b0 ls→rY glob call cx aops env s (some (π,ts))=.norm env' s'→(∀g' w' a',Step qt g s.length B w g' s'.length w'→Fr P glob g' s' B w' a' env' N b0 ls→Q .normal a' w')→
  (Code.region id ops true).wpIn F n P Q a w)∧
 ∀{F:Fence} {n id B b0:Nat} {N:Wd} {ls:List Nat} {ops:Array Oper} {aops:List aI} {π ts:List Nat} {Q:Exit→Act→World→Prop} {cx:Ctx} {g:ai} {s s':St} {w:World} {a:Act} {env:Env} {v:AV},isF F→mV P N ops ops.toList aops=true→MR ops aops π=true→gy cx s→
  Fr P glob g s B w a env N b0 ls→rY glob call cx aops env s (some (π,ts))=.pan v s'→(∀u g' w' a',Step qt g s.length B w g' s'.length w'→Fr P glob g' s' B w' a' [] N b0 ls→Rep g' s'.length u v→Q (.panic [{ v:=u,recovered:=false }]) a' w')→
  (Code.region id ops true).wpIn F n P Q a w
def Ur (qt:Prop) (P:Program) (glob:Nat→Option (List AV)) (g:ai) (s:St) (B:Nat) (w:World) (N:Wd) (b0:Nat):Out→Exit→Act→World→Prop
 | .norm env' s',e,a',w'=>e=.normal∧∃g' ls',Step qt g s.length B w g' s'.length w'∧Fr P glob g' s' B w' a' env' N b0 ls'
 | .exit id env' s',e,a',w'=>e=.exit id∧∃g' ls',Step qt g s.length B w g' s'.length w'∧Fr P glob g' s' B w' a' env' N b0 ls'
 | .ret env' s',e,a',w'=>e=.ret∧∃g' ls',Step qt g s.length B w g' s'.length w'∧Fr P glob g' s' B w' a' env' N b0 ls'
 | .goto l env' s',e,a',w'=>e=.goto l∧∃g' ls',Step qt g s.length B w g' s'.length w'∧Fr P glob g' s' B w' a' env' N b0 ls'
 | .pan v s',e,a',w'=>∃u,e=.panic [{ v:=u,recovered:=false }]∧∃g' ls',Step qt g s.length B w g' s'.length w'∧Fr P glob g' s' B w' a' [] N b0 ls'∧Rep g' s'.length u v
 | _,_,_,_=>False
theorem Ur.step {g0:ai} {s0:St} {w0:World} {b0:Nat} {N:Wd} {x:Out} {e:Exit} {a':Act} {w':World} (hs:Step qt g0 s0.length B w0 g s.length w) (h:Ur qt P glob g s B w N b0 x e a' w'):Ur qt P glob g0 s0 B w0 N b0 x e a' w':=by
 cases x with
 | norm env1 s1=>obtain ⟨h1,g',p,h2,h3⟩:=h;exact ⟨h1,g',p,hs.trans h2,h3⟩
 | exit id env1 s1=>obtain ⟨h1,g',p,h2,h3⟩:=h;exact ⟨h1,g',p,hs.trans h2,h3⟩
 | ret env1 s1=>obtain ⟨h1,g',p,h2,h3⟩:=h;exact ⟨h1,g',p,hs.trans h2,h3⟩
 | goto l env1 s1=>obtain ⟨h1,g',p,h2,h3⟩:=h;exact ⟨h1,g',p,hs.trans h2,h3⟩
 | fail=>exact h
 | pan v s1=>obtain ⟨u,h1,g',p,h2,h3,h4⟩:=h;exact ⟨u,h1,g',p,hs.trans h2,h3,h4⟩
theorem exists_least (p:Nat→Prop):∀k,p k→∃m,p m∧∀j,p j→m≤j:=by
 intro k
 induction k using Nat.strongRecOn with
 | _ k ih=>
  intro hk;by_cases h:∃j,j<k∧p j
  ·obtain ⟨j,hj,hp⟩:=h;exact ih j hj hp
  ·exact ⟨k,hk,fun j hj=>Nat.le_of_not_lt fun x=>h ⟨j,x,hj⟩⟩
theorem QS {F:Fence} {n:Nat} {c:Code} {Q:Exit→Act→World→Prop} (Inv:Nat→Act→World→Prop) (h0:∀a w,¬Inv 0 a w)
  (hs:∀k a w,Inv (k+1) a w→c.wpIn F n P (Exit.then (Inv k) Q) a w) (k:Nat) (h:Inv k a w):(Code.loop c).wpIn F n P Q a w:=by
 classical
 let least:Act→World→Nat:=fun a w=>if hx:∃k,Inv k a w then (exists_least (fun k=>Inv k a w) hx.choose hx.choose_spec).choose else 0
 have x:∀a w k,Inv k a w→least a w≤k∧Inv (least a w) a w:=by
  intro a w k hk;have hx:∃k,Inv k a w:=⟨k,hk⟩;have p:=(exists_least (fun k=>Inv k a w) hx.choose hx.choose_spec).choose_spec;simp only [least,hx,dif_pos];exact ⟨p.2 k hk,p.1⟩
 refine wpIn_loop (fun a w=>∃k,Inv k a w) least ⟨k,h⟩ (fun a w ⟨k,hk⟩=>?_);obtain ⟨_,h2⟩:=x a w k hk
 cases hl:least a w with
 | zero=>rw [hl] at h2;exact absurd h2 (h0 a w)
 | succ m=>
  rw [hl] at h2;refine wpIn_mono (hs m a w h2) (fun e a' w' hq=>?_)
  cases e with
  | normal=>exact ⟨⟨m,hq⟩,by have:=(x a' w' m hq).1;omega⟩
  | _=>exact hq
theorem aah {body:Env→St→Out} {keep:List Nat}:∀k,xK body keep 0 env s=.fail∧xK body keep (k+1) env s=(match body (je env keep) s with | .norm env s=>xK body keep k env s|out=>out):=fun _=>⟨rfl,rfl⟩
def ae8 (l:Nat) (J:Act→World→Prop) (Q:Exit→Act→World→Prop):Exit→Act→World→Prop
 | .goto l',a,w=>l'=l∧J a w
 | e,a,w=>Q e a w
theorem uP {b:Frame} {k:List Item} {cs:List Frame} {c:Code}:step P (lone (b.atR a (.code (.scope c)::k)) cs w)=.next (lone (b.atR a (.code c::.inScope c::k)) cs w):=
 step_lone_go (by simp [stepG,stepG.exec,Frame.atR])
theorem I8 {b:Frame} {k:List Item} {cs:List Frame} {c:Code}:step P (lone (b.atR a (.inScope c::k)) cs w)=.next (lone (b.atR a k) cs w):=
 step_lone_go (by simp [stepG,stepG.exec,Frame.atR])
theorem PS {F:Fence} {n:Nat} {c A:Code} {l:Nat} {Q:Exit→Act→World→Prop} (hf:findLabel c l=some A) (Inv:Nat→Act→World→Prop) (h0:∀a w,¬Inv 0 a w)
  (first:c.wpIn F n P (ae8 l (fun a w=>∃k,Inv k a w) Q) a w) (hs:∀k a w,Inv (k+1) a w→A.wpIn F n P (ae8 l (Inv k) Q) a w):(Code.scope c).wpIn F n P Q a w:=by
 intro b k cs I hb hr;have hg:gotoIn l (.inScope c::k)=some (.code A::.inScope c::k):=by simp [gotoIn,hf]
 have hx:∀id,exitTo id (.inScope c::k)=exitTo id k:=fun id=>by simp [exitTo]
 have key:∀j a w,Inv j a w→∃e a' w',Q e a' w'∧ArrivesIn (Machine.fenced P F) P (lone (b.atR a (.code A::.inScope c::k)) cs w) b k cs e a' w':=by
  intro j
  induction j with
  | zero=>intro a w hi;exact absurd hi (h0 a w)
  | succ j ih=>
   intro a w hi;obtain ⟨e,a₁,w₁,hq,p⟩:=hs j a w hi b (.inScope c::k) cs I hb hr
   cases e with
   | normal=>exact ⟨.normal,a₁,w₁,hq,StepsIn.trans p (.one (fenced_calm hb hr rfl) I8)⟩
   | exit id=>exact ⟨.exit id,a₁,w₁,hq,fun k' hk=>p.1 k' (by rw [hx];exact hk),fun x hk=>p.2 x (by rw [hx];exact hk)⟩
   | goto l'=>
    obtain ⟨rfl,hJ⟩:=hq;obtain ⟨e₂,a₂,w₂,hq₂,p₂⟩:=ih a₁ w₁ hJ;exact ⟨e₂,a₂,w₂,hq₂,.of_steps (p.1 _ hg) p₂⟩
   | ret=>exact ⟨_,a₁,w₁,hq,p⟩
   | panic ch=>exact ⟨_,a₁,w₁,hq,p⟩
   | outgrown=>exact ⟨_,a₁,w₁,hq,p⟩
 have s0:(lone (b.atR a (.code (.scope c)::k)) cs w).fenced P F:=fenced_calm hb hr rfl;obtain ⟨e,a₁,w₁,hq,p⟩:=first b (.inScope c::k) cs I hb hr
 cases e with
 | normal=>exact ⟨.normal,a₁,w₁,hq,.head s0 uP (StepsIn.trans p (.one (fenced_calm hb hr rfl) I8))⟩
 | exit id=>exact ⟨.exit id,a₁,w₁,hq,fun k' hk=>.head s0 uP (p.1 k' (by rw [hx];exact hk)),fun x hk=>let ⟨k₁,h1,h2⟩:=p.2 x (by rw [hx];exact hk);⟨k₁,h1,.head s0 uP h2⟩⟩
 | goto l'=>
  obtain ⟨rfl,j,hJ⟩:=hq;obtain ⟨e₂,a₂,w₂,hq₂,p₂⟩:=key j a₁ w₁ hJ;exact ⟨e₂,a₂,w₂,hq₂,.of_steps (.head s0 uP (p.1 _ hg)) p₂⟩
 | ret=>exact ⟨_,a₁,w₁,hq,.of_steps (.one s0 uP) p⟩
 | panic ch=>exact ⟨_,a₁,w₁,hq,.of_steps (.one s0 uP) p⟩
 | outgrown=>exact ⟨_,a₁,w₁,hq,.of_steps (.one s0 uP) p⟩
theorem XY {body:Env→St→Out} {l:Nat} {keep:List Nat}:∀k,qO body l keep (k+1) env s=(match body (je env keep) s with | .goto l' env s=>if l'=l then qO body l keep k env s else .fail|out=>out):=fun _=>rfl
theorem Base.kill (h:Base P glob g s w) {l:Nat} (hl:l<s.length) (x:nX g (g.L l)) (o:Obj):Base P glob g (s.set l .dead) { w with heap:=w.heap.setIfInBounds (g.L l) o }:=by
 refine ⟨⟨fun c o' v hv=>?_,fun c es hc=>?_⟩,h.heap.setAt hl (.refl _ _) (fun _ _ _=>rfl) (fun b hb=>.inl hb) (fun b hb=>by simpa using h.heap.lt l b hl hb) (by simp) (fun b _ hb=>⟨dL (fun A=>hb (.inl A.symm)),rfl,rfl⟩) trivial,h.glob⟩
 ·have p:c≠g.L l:=fun p=>by subst p;rw [x.m o'] at hv;cases hv
  rw [World.cell?_of_block (dL p)];exact h.imm.m c o' v hv
 ·have p:c≠g.L l:=fun p=>by subst p;rw [x.mm] at hc;cases hc
  exact (h.imm.mm c es hc).keep (dL p)
theorem Sim.called {tm:Nat→Value} {g':ai} {w':World} (h:Sim P glob g s B w tm env) (p:Step qt g s.length w.heap.size w g' s'.length w') (hb:Base P glob g' s' w'):Sim P glob g' s' B w' tm env∧Step qt g s.length B w g' s'.length w':=by
 have hB:=h.B
 refine ⟨⟨hb,h.env.next p.le (fun k e hk ho b I=>?_),by have:=p.size;omega⟩,
  p.lower hB⟩
 have A:=Bl h.env hk ho I;have x:=h.env.off k e hk ho b I;exact ⟨p.keep b A x,p.m b A x,p.mm b A,fun ht=>(p.new b ht).elim id (fun hh=>by omega)⟩
theorem acD {tm:Nat→Value} {n:Nat} (h:iT g n B w tm env) {k:Nat} {e:EV} (hk:lk (su env) k=some e):∃v,e=.v v∧Rep g n (tm k) v:=by
 rcases acO hk with ⟨v,rfl,hv⟩|rfl
 ·exact ⟨v,rfl,h.rel k _ hv⟩
 ·exact ⟨.u,rfl,.u _⟩
theorem eG {F:Fence} {n M b0:Nat} {N:Wd} {ro:Bool} (J:uw qt P glob call) (O:ji call) (K:Hy qt P glob call) (hF:isF F) (a0:ro=false→F=Fence.wide) (hM:P.follows .mixedOrders=true):
  ∀(ac:bF) (c:Code),xE P N c ac=true→∀{cx:Ctx} {g:ai} {s:St} {w:World} {a:Act} {env:Env} {ls:List Nat} {Y:Out},gy cx s→(ro=false→b0≤s.length)→Fr P glob g s B w a env N b0 ls→
    bG glob call cx ro M ac env s=Y→Y.st.isSome=true→c.wpIn F n P (Ur qt P glob g s B w N b0 Y) a w
 | .skip,c,hc,cx,g,s,w,a,env,ls,Y,hcx,hb0,h,hr,ho=>by
  cases c<;>simp [xE] at hc
  simp only [bG] at hr;subst hr;exact wpIn_skip ⟨rfl,g,ls,.refl _ _ _ _,h⟩
 | .ret,c,hc,cx,g,s,w,a,env,ls,Y,hcx,hb0,h,hr,ho=>by
  cases c<;>simp [xE] at hc
  simp only [bG] at hr;subst hr;exact wpIn_ret ⟨rfl,g,ls,.refl _ _ _ _,h⟩
 | .exit id,c,hc,cx,g,s,w,a,env,ls,Y,hcx,hb0,h,hr,ho=>by
  cases c<;>simp [xE] at hc
  simp only [bG] at hr;subst hr;subst hc;exact wpIn_exit ⟨rfl,g,ls,.refl _ _ _ _,h⟩
 | .region aops ord keep,c,hc,cx,g,s,w,a,env,ls,Y,hcx,hb0,h,hr,ho=>by
  cases c<;>simp only [xE,Bool.false_eq_true] at hc
  rename_i id ops i1;simp only [Bool.and_eq_true] at hc;simp only [bG] at hr
  split at hr
  ·rename_i env1 s1 W;subst hr
   have hQ:∀g' w' a',Step qt g s.length B w g' s1.length w'→Fr P glob g' s1 B w' a' env1 N b0 ls→Ur qt P glob g s B w N b0 (.norm (je env1 keep) s1) .normal a' w':=
    fun g' w' a' hs hf=>⟨rfl,g',ls,hs,⟨hf.sim.base,hf.sim.env.keep keep,hf.sim.B⟩,hf.sz,hf.dl,hf.df,hf.nd,hf.lo,hf.pin⟩
   have hd:=hc.2
   split at hd
   ·refine wpIn_region ?_;rw [List.range_eq_range']
    have:=DN (Q:=Ur qt P glob g s B w N b0 (.norm (je env1 keep) s1)) (F:=F) (n:=n) J O hF ops.toList aops 0 (by simp) hc.1 hcx h W hQ
    simpa using this
   ·rename_i π;exact K.1 hF hc.1 hd hcx h W hQ
   ·cases hd
  ·rename_i a5;subst hr;rcases X4 (glob:=glob) (call:=call) (cx:=cx) (aops:=aops) (env:=env) (s:=s) (ord:=ord) rfl with A | ⟨v,s1,A⟩|⟨e1,s1,A⟩
   ·rw [A] at ho;simp [Out.st] at ho
   ·rw [A];have hd:=hc.2
    split at hd
    ·refine wpIn_region ?_;rw [List.range_eq_range']
     have:=abl (Q:=Ur qt P glob g s B w N b0 (.pan v s1)) (F:=F) (n:=n) J O hF ops.toList aops 0 (by simp) hc.1 hcx h A (fun u g' w' a' hs hf d3=>⟨u,rfl,g',ls,hs,hf,d3⟩)
     simpa using this
    ·exact K.2 hF hc.1 hd hcx h A (fun u g' w' a' hs hf d3=>⟨u,rfl,g',ls,hs,hf,d3⟩)
    ·cases hd
   ·exact absurd A (a5 e1 s1)
 | .seq x y,c,hc,cx,g,s,w,a,env,ls,Y,hcx,hb0,h,hr,ho=>by
  cases c<;>simp only [xE,Bool.false_eq_true] at hc
  simp only [Bool.and_eq_true] at hc;simp only [bG] at hr;refine wpIn_seq ?_
  split at hr
  ·rename_i env1 s1 W;have he:Ext cx s s1:=dN O x hcx (env:=env) (by rw [W];rfl);refine wpIn_mono (eG J O K hF a0 hM x _ hc.1 hcx hb0 h W rfl) (fun e a' w' hq=>?_);obtain ⟨rfl,g',a4,hs,hf⟩:=hq;exact wpIn_mono (eG J O K hF a0 hM y _ hc.2 (hcx.ext he) (fun hh=>Nat.le_trans (hb0 hh) he.len) hf hr ho) (fun e a2 w2 g7=>g7.step hs)
  ·rename_i a5;refine wpIn_mono (eG J O K hF a0 hM x _ hc.1 hcx hb0 h hr ho) (fun e a' w' hq=>?_);subst hr
   cases A:bG glob call cx ro M x env s with
   | norm e1 s1=>exact absurd A (a5 e1 s1)
   | fail=>rw [A] at ho;simp [Out.st] at ho
   | pan v s1=>rw [A] at hq;obtain ⟨u,rfl,hq⟩:=hq;exact ⟨u,rfl,hq⟩
   | exit id e1 s1=>rw [A] at hq;obtain ⟨rfl,hq⟩:=hq;exact ⟨rfl,hq⟩
   | ret e1 s1=>rw [A] at hq;obtain ⟨rfl,hq⟩:=hq;exact ⟨rfl,hq⟩
   | goto l e1 s1=>rw [A] at hq;obtain ⟨rfl,hq⟩:=hq;exact ⟨rfl,hq⟩
 | .cond ix x y,c,hc,cx,g,s,w,a,env,ls,Y,hcx,hb0,h,hr,ho=>by
  cases c<;>simp only [xE,Bool.false_eq_true] at hc
  simp only [Bool.and_eq_true] at hc;simp only [bG] at hr
  split at hr
  ·rename_i hb;exact wpIn_cond_true (wF (aK (a:=a) hc.1.1 h.sim.env h.sim.base.glob hb)) (eG J O K hF a0 hM x _ hc.1.2 hcx hb0 h hr ho)
  ·rename_i hb;exact wpIn_cond_false (wF (aK (a:=a) hc.1.1 h.sim.env h.sim.base.glob hb)) (eG J O K hF a0 hM y _ hc.2 hcx hb0 h hr ho)
  ·subst hr;simp [Out.st] at ho
 | .block id b,c,hc,cx,g,s,w,a,env,ls,Y,hcx,hb0,h,hr,ho=>by
  cases c<;>simp only [xE,Bool.false_eq_true] at hc
  simp only [Bool.and_eq_true,beq_iff_eq] at hc;obtain ⟨rfl,hc⟩:=hc;simp only [bG] at hr;refine wpIn_block ?_
  split at hr
  ·rename_i c2 env1 s1 W;refine wpIn_mono (eG J O K hF a0 hM b _ hc hcx hb0 h W rfl) (fun e a' w' hq=>?_);obtain ⟨rfl,hq⟩:=hq
   split at hr
   ·rename_i d2;subst hr;subst d2;simp only [Exit.inBlock,if_true];exact ⟨rfl,hq⟩
   ·rename_i d2;subst hr;simp only [Exit.inBlock,d2,if_false];exact ⟨rfl,hq⟩
  ·rename_i a5;refine wpIn_mono (eG J O K hF a0 hM b _ hc hcx hb0 h hr ho) (fun e a' w' hq=>?_);subst hr
   cases A:bG glob call cx ro M b env s with
   | norm e1 s1=>rw [A] at hq;obtain ⟨rfl,hq⟩:=hq;exact ⟨rfl,hq⟩
   | fail=>rw [A] at ho;simp [Out.st] at ho
   | pan v s1=>rw [A] at hq;obtain ⟨u,rfl,hq⟩:=hq;exact ⟨u,rfl,hq⟩
   | exit c2 e1 s1=>exact absurd A (a5 c2 e1 s1)
   | ret e1 s1=>rw [A] at hq;obtain ⟨rfl,hq⟩:=hq;exact ⟨rfl,hq⟩
   | goto l e1 s1=>rw [A] at hq;obtain ⟨rfl,hq⟩:=hq;exact ⟨rfl,hq⟩
 | .loop keep b,c,hc,cx,g,s,w,a,env,ls,Y,hcx,hb0,h,hr,ho=>by
  cases c<;>simp only [xE,Bool.false_eq_true] at hc
  rename_i body;simp only [bG] at hr;refine QS (fun k a' w'=>∃g' s' S a4,gy cx s'∧(ro=false→b0≤s'.length)∧Step qt g s.length B w g' s'.length w'∧Fr P glob g' s' B w' a' S N b0 a4∧xK (bG glob call cx ro M b) keep k S s'=Y) ?_ ?_ M ⟨g,s,env,ls,hcx,hb0,.refl _ _ _ _,h,hr⟩
  ·rintro a' w' ⟨g',s',S,a4,_,_,_,_,hl⟩;simp only [xK] at hl;subst hl;simp [Out.st] at ho
  ·rintro k a' w' ⟨g',s',S,a4,Z,a6,a9,hf,hl⟩;rw [(aah k).2] at hl;have b5:Fr P glob g' s' B w' a' (je S keep) N b0 a4:=⟨⟨hf.sim.base,hf.sim.env.keep keep,hf.sim.B⟩,hf.sz,hf.dl,hf.df,hf.nd,hf.lo,hf.pin⟩
   split at hl
   ·rename_i env1 s1 W;have he:Ext cx s' s1:=dN O b Z (env:=je S keep) (by rw [W];rfl);refine wpIn_mono (eG J O K hF a0 hM b _ hc Z a6 b5 W rfl) (fun e a2 w2 hq=>?_);obtain ⟨rfl,g2,e6,b4,c8⟩:=hq;exact ⟨g2,s1,env1,e6,Z.ext he,fun hh=>Nat.le_trans (a6 hh) he.len,a9.trans b4,c8,hl⟩
   ·rename_i a5;refine wpIn_mono (eG J O K hF a0 hM b _ hc Z a6 b5 hl ho) (fun e a2 w2 hq=>?_);have I:=hq.step a9;subst hl
    cases A:bG glob call cx ro M b (je S keep) s' with
    | norm e1 s1=>exact absurd A (a5 e1 s1)
    | fail=>rw [A] at ho;simp [Out.st] at ho
    | pan v s1=>rw [A] at I;obtain ⟨u,rfl,I⟩:=I;exact ⟨u,rfl,I⟩
    | exit c2 e1 s1=>rw [A] at I;obtain ⟨rfl,I⟩:=I;exact ⟨rfl,I⟩
    | ret e1 s1=>rw [A] at I;obtain ⟨rfl,I⟩:=I;exact ⟨rfl,I⟩
    | goto l e1 s1=>rw [A] at I;obtain ⟨rfl,I⟩:=I;exact ⟨rfl,I⟩
 | .range ix ps asg body,c,hc,cx,g,s,w,a,env,ls,Y,hcx,hb0,h,hr,ho=>by
  cases c<;>simp only [xE,Bool.false_eq_true] at hc
  rename_i f' h6 f9 d0;simp only [Bool.and_eq_true,beq_iff_eq] at hc;obtain ⟨⟨⟨⟨h8,f2⟩,hpsN⟩,hasg⟩,hbody⟩:=hc;simp only [bG] at hr
  split at hr
  ·subst hr;simp [Out.st] at ho
  ·rename_i c7;have i0:F=Fence.wide:=a0 (by simpa using c7);subst i0
   split at hr
   ·rename_i ff f6 f0 h2
    split at hr
    ·rename_i r s3 e9;refine wpIn_rangeFunc (fun fn _=>?_)
     let rec0:Loop:={ state:=.ready,pending:=none,fn:=fn,tmps:=a.tmps,params:=h6,assign:=f9,body:=d0,defers:=w.heap.size }
     -- the two new objects
     obtain ⟨g5,m1⟩:=SY h.sim (ob:=.deferred (some [])) (ho:=.dfr) ⟨(fun _ _ _ hh=>by cases hh),(fun _ hh=>by cases hh),(fun _ _ _ _ hh=>by cases hh),(fun _ hh=>by cases hh)⟩ (fun cs d8=>by cases d8) (fun _ _ _ _ _ hh=>by cases hh) (fun _=>rfl)
     have h4:Fj P (g.place s.length w.heap.size) (s++[gq.dfr]).length rec0 (su env) ps asg body .ready:=by
      refine ⟨f2,by rw [h.sz];exact hasg,by rw [h.sz];exact hbody,fun k e hk=>?_,fun p hp=>?_,rfl,rfl⟩
      ·exact acD m1.env hk
      ·rw [h.sz];simpa using List.all_eq_true.1 hpsN p (by rw [f2];exact hp)
     obtain ⟨d6,m2⟩:=SY m1 (ob:=.loop rec0) (ho:=.loop (su env) ps asg body .ready) ⟨(fun _ _ _ hh=>by cases hh),(fun _ hh=>by cases hh),(fun _ _ _ _ hh=>by cases hh),(fun _ hh=>by cases hh)⟩ (fun cs d8=>by cases d8) (fun e2 p2 a2 b2 i3 hh=>by cases hh;exact ⟨rec0,rfl,h4⟩) (fun hh=>by cases hh);have e8:(w.alloc (.deferred (some []))).heap.size=w.heap.size+1:=by simp
     have b1:(s++[gq.dfr]).length=s.length+1:=by simp
     rw [e8,b1] at d6 m2;have b4:(s++[gq.dfr])++[gq.loop (su env) ps asg body .ready]=s++[.dfr,.loop (su env) ps asg body .ready]:=by simp
     rw [b4] at d6 m2
     -- shorter names
     let g2:ai:=(g.place s.length w.heap.size).place (s.length+1) (w.heap.size+1)
     let s2:St:=s++[.dfr,.loop (su env) ps asg body .ready]
     let w2:World:=(w.alloc (.deferred (some []))).alloc (.loop rec0)
     have c3:Sim P glob g2 s2 B w2 (Act.tm a) env:=m2
     have f7:Step qt g s.length B w g2 s2.length w2:=by
      have c5:=g5;rw [b1] at c5;exact (c5.trans d6).weak
     have i4:s2.length=s.length+2:=by simp [s2]
     have g1:g2.L s.length=w.heap.size:=by simp [g2,ai.place]
     have f8:g2.L (s.length+1)=w.heap.size+1:=by simp [g2,ai.place]
     have c6:gy cx s2:=hcx.ext (.push hcx _);have d7:Rep g2 s2.length (a.eval f') (.fn ff f6 f0):=aK (a:=a) h8 c3.env c3.base.glob h2
     have d5:Rep g2 s2.length (.func (.yield (w.heap.size+1)) #[] #[]) (.yl (s.length+1)):=by
      have:=Rep.yl (g:=g2) (n:=s2.length) (s.length+1) (by omega)
      rwa [f8] at this
     have b6:Ext cx s2 s3:=O _ _ _ _ _ _ c6 (.inl e9)
     -- what the interpreter says of the loop's end
     have e0:∃e3 p3 a3 b3 pd,s3[s.length+1]?=some (.loop e3 p3 a3 b3 pd)∧Y=(match pd with | .ready=>Out.norm env (s3.set (s.length+1) .dead) | .ret=>.ret env (s3.set (s.length+1) .dead) | .exit id=>.exit id env (s3.set (s.length+1) .dead) | .busy=>.fail):=by
      unfold EJ at hr
      split at hr
      ·rename_i e3 p3 a3 b3 h3;exact ⟨e3,p3,a3,b3,.ready,h3,hr.symm⟩
      ·rename_i e3 p3 a3 b3 h3;exact ⟨e3,p3,a3,b3,.ret,h3,hr.symm⟩
      ·rename_i e3 p3 a3 b3 id h3;exact ⟨e3,p3,a3,b3,.exit id,h3,hr.symm⟩
      ·subst hr;simp [Out.st] at ho
     obtain ⟨e3,p3,a3,b3,pd,h3,a1⟩:=e0;obtain ⟨f1,b7,q1,q2⟩:=J.fn (.fn ff f6 f0) _ _ _ _ _ c6 (fun l hl=>by cases hl) e9 g2 w2 _ #[.func (.yield (w.heap.size+1)) #[] #[]] c3.base d7 (by simpa using aX.cons d5 (.nil _ _))
     obtain ⟨d,h7,g4⟩:∃d,Deferred.ofValue (a.eval f') #[.func (.yield (w.heap.size+1)) #[] #[]]=pure d∧(invoke d.target d.args).run P w2=.ok (.enter f1 b7) w2:=by
      unfold callOf at q1
      cases hv:a.eval f' with
      | func fn' fs cs=>rw [hv] at q1;exact ⟨_,rfl,by simpa [Deferred.ofValue] using q1⟩
      | nilFunc=>rw [hv] at q1;exact ⟨_,rfl,by simpa [Deferred.ofValue] using q1⟩
      | _=>rw [hv] at q1;simp [Deferred.ofValue,stuck,Sem.run,Sem.bind,bind] at q1
     refine ⟨w.heap.size+1,[{ target:=.collected w.heap.size,args:=#[] }],w2,d,w2,f1,b7,w2, ?_, ?_,fun f' _=>trivial,g4,fun hh=>by simp [Fence.wide] at hh,(q2 (n - 1)).mono fun e w3 he=>?_⟩
     ·simp [Instr.enterLoop,Sem.run_bind,w2,rec0,Fence.wide]
     ·have:resolve a.eval (rangeCall f' (w.heap.size+1)) 0=pure d:=by
       have hm:Array.map a.eval #[Operand.const (Value.func (Fn.yield (w.heap.size+1)) #[] #[])]=#[Value.func (Fn.yield (w.heap.size+1)) #[] #[]]:=by simp [Act.eval]
       simp only [resolve,rangeCall,hm];exact h7
      rw [this];rfl
     ·obtain ⟨v,g3,rfl,b8,c0,g6⟩:=he;obtain ⟨m3,g8⟩:=c3.called b8 c0;obtain ⟨rl,f3,f5⟩:=c0.heap.loop (s.length+1) e3 p3 a3 b3 pd h3;have a7:g3.L (s.length+1)=w.heap.size+1:=by rw [b8.le.L _ (by omega),f8]
      have e5:g3.L s.length=w.heap.size:=by rw [b8.le.L _ (by omega),g1]
      rw [a7] at f3;obtain ⟨_,_,_,_,_,R⟩:=f5;have b9:s.length+1<s3.length:=(List.getElem?_eq_some_iff.1 h3).1
      let w4:World:={ w3 with heap:=w3.heap.setIfInBounds (w.heap.size+1) (.loop { rl with state:=.exhausted }) }
      have e7:(Instr.endLoop (w.heap.size+1)).run P w3=.ok rl.pending w4:=by
       have h1:rl.state≠.busy:=by
        cases pd with
        | ready=>rw [R.1];simp
        | busy=>subst a1;simp [Out.st] at ho
        | ret=>rw [R.1];simp
        | exit id=>rw [R.1];simp
       simp [Instr.endLoop,Instr.getLoop,Sem.run_bind,getObj,setObj,Sem.run,f3,h1,w4]
      have h9:Base P glob g3 (s3.set (s.length+1) .dead) w4:=by
       have:=c0.kill b9 (c0.heap.obj _ _ h3).1 (.loop { rl with state:=.exhausted })
       rwa [a7] at this
      have f4:∀k e,lk env k=some e→e.owns=true→∀b,dn (Act.tm a k)=some b→b≠w.heap.size+1:=by
       intro k e hk d1 b d9 d4;exact m3.env.off k e hk d1 b d9 (by rw [d4,←a7];exact .L b9)
      have m4:Sim P glob g3 (s3.set (s.length+1) .dead) B w4 (Act.tm a) env:=by
       refine ⟨h9, ?_,by simpa [w4] using m3.B⟩;simp only [List.length_set];exact m3.env.next (.refl _ _) (fun k e hk d1 b d9=>⟨dL (f4 k e hk d1 b d9),rfl,rfl,fun ht=>ht⟩)
      have a8:Step qt g s.length B w g3 (s3.set (s.length+1) .dead).length w4:=by
       simp only [List.length_set];refine (f7.trans g8).trans ⟨.refl _ _,by simp [w4],fun b hb h0=>dL (fun d4=>?_),fun _ _ _=>rfl,fun _ _=>rfl,fun b hb=>.inl hb,rfl,rfl,fun _=>⟨rfl,Nat.le_refl _⟩⟩;exact h0 (by rw [d4,←a7];exact .L b9)
      have c9:Fr P glob g3 (s3.set (s.length+1) .dead) B w4 { a with defers:=[{ target:=.collected w.heap.size,args:=#[] }]++a.defers } env N b0 (s.length::ls):=by
       refine ⟨m4,h.sz, ?_,fun l hl=>?_, ?_,fun l hl=>?_,fun p hp=>?_⟩
       ·simp only [List.map_cons,e5,List.singleton_append,List.cons_append]
        congr 1
        rw [h.dl];simp only [List.nil_append]
        congr 1
        refine List.map_congr_left fun l hl=>?_;have e4:l<s.length:=(List.getElem?_eq_some_iff.1 (h.df l hl)).1;rw [a8.le.L l e4]
       ·rcases List.mem_cons.1 hl with rfl|hl
        ·rw [List.getElem?_set_ne (by omega)];exact b6.dfr _ (by simp [s2])
        ·have e4:l<s.length:=(List.getElem?_eq_some_iff.1 (h.df l hl)).1;rw [List.getElem?_set_ne (by omega)];exact b6.dfr _ (by simp [s2,List.getElem?_append_left e4,h.df l hl])
       ·refine List.nodup_cons.2 ⟨fun hm=>?_,h.nd⟩
        have:=(List.getElem?_eq_some_iff.1 (h.df _ hm)).1
        omega
       ·rcases List.mem_cons.1 hl with rfl|hl
        ·exact hb0 (by simpa using c7)
        ·exact h.lo l hl
       ·obtain ⟨p1,p2,p3⟩:=h.pin p hp;refine ⟨p1,by have:=a8.le.n;omega, ?_⟩;show Act.tm a p.1=_;rw [p3,a8.le.L _ p2]
      refine ⟨rl.pending,w4,e7, ?_⟩
      cases pd with
      | ready=>
       simp only [] at a1 R;rw [R.2,a1];exact ⟨rfl,g3,s.length::ls,a8,c9⟩
      | busy=>subst a1;simp [Out.st] at ho
      | ret=>
       simp only [] at a1 R;rw [R.2,a1];exact wpIn_ret ⟨rfl,g3,s.length::ls,a8,c9⟩
      | exit id=>
       simp only [] at a1 R;rw [R.2,a1];exact wpIn_exit ⟨rfl,g3,s.length::ls,a8,c9⟩
    ·subst hr;simp [Out.st] at ho
   ·subst hr;simp [Out.st] at ho
 | .label l,c,hc,cx,g,s,w,a,env,ls,Y,hcx,hb0,h,hr,ho=>by
  cases c<;>simp only [xE,Bool.false_eq_true] at hc
  simp only [bG] at hr;subst hr;exact wpIn_label ⟨rfl,g,ls,.refl _ _ _ _,h⟩
 | .goto l,c,hc,cx,g,s,w,a,env,ls,Y,hcx,hb0,h,hr,ho=>by
  cases c<;>simp only [xE,Bool.false_eq_true] at hc
  simp only [beq_iff_eq] at hc;subst hc;simp only [bG] at hr;subst hr;exact wpIn_goto ⟨rfl,g,ls,.refl _ _ _ _,h⟩
 | .scope l keep x y,c,hc,cx,g,s,w,a,env,ls,Y,hcx,hb0,h,hr,ho=>by
  cases c<;>simp only [xE,Bool.false_eq_true] at hc
  rename_i c;simp only [Bool.and_eq_true] at hc;obtain ⟨c4,c1⟩:=hc
  split at c1
  case h_2=>cases c1
  rename_i i2 g9;simp only [bG] at hr;refine PS g9 (fun k a' w'=>∃g' s' S a4,gy cx s'∧(ro=false→b0≤s'.length)∧Step qt g s.length B w g' s'.length w'∧Fr P glob g' s' B w' a' S N b0 a4∧qO (bG glob call cx ro M y) l keep k S s'=Y) ?_ ?_ ?_
  ·rintro a' w' ⟨g',s',S,a4,_,_,_,_,hl⟩;simp only [qO] at hl;subst hl;simp [Out.st] at ho
  ·split at hr
   ·rename_i l' env1 s1 W;have he:Ext cx s s1:=dN O x hcx (env:=env) (by rw [W];rfl);refine wpIn_mono (eG J O K hF a0 hM x _ c4 hcx hb0 h W rfl) (fun e a' w' hq=>?_);obtain ⟨rfl,g',a4,hs,hf⟩:=hq
    split at hr
    ·rename_i hl;exact ⟨hl,M,g',s1,env1,a4,hcx.ext he,fun hh=>Nat.le_trans (hb0 hh) he.len,hs,hf,hr⟩
    ·subst hr;simp [Out.st] at ho
   ·rename_i a5;refine wpIn_mono (eG J O K hF a0 hM x _ c4 hcx hb0 h hr ho) (fun e a' w' hq=>?_);subst hr
    cases A:bG glob call cx ro M x env s with
    | norm e1 s1=>rw [A] at hq;obtain ⟨rfl,hq⟩:=hq;exact ⟨rfl,hq⟩
    | fail=>rw [A] at ho;simp [Out.st] at ho
    | pan v s1=>rw [A] at hq;obtain ⟨u,rfl,hq⟩:=hq;exact ⟨u,rfl,hq⟩
    | exit id e1 s1=>rw [A] at hq;obtain ⟨rfl,hq⟩:=hq;exact ⟨rfl,hq⟩
    | ret e1 s1=>rw [A] at hq;obtain ⟨rfl,hq⟩:=hq;exact ⟨rfl,hq⟩
    | goto l' e1 s1=>exact absurd A (a5 l' e1 s1)
  ·rintro k a' w' ⟨g',s',S,a4,Z,a6,a9,hf,hl⟩;rw [XY k] at hl;have b5:Fr P glob g' s' B w' a' (je S keep) N b0 a4:=⟨⟨hf.sim.base,hf.sim.env.keep keep,hf.sim.B⟩,hf.sz,hf.dl,hf.df,hf.nd,hf.lo,hf.pin⟩
   split at hl
   ·rename_i l' env1 s1 W;have he:Ext cx s' s1:=dN O y Z (env:=je S keep) (by rw [W];rfl);refine wpIn_mono (eG J O K hF a0 hM y _ c1 Z a6 b5 W rfl) (fun e a2 w2 hq=>?_);obtain ⟨rfl,g2,e6,b4,c8⟩:=hq
    split at hl
    ·rename_i h5;exact ⟨h5,g2,s1,env1,e6,Z.ext he,fun hh=>Nat.le_trans (a6 hh) he.len,a9.trans b4,c8,hl⟩
    ·subst hl;simp [Out.st] at ho
   ·rename_i a5;refine wpIn_mono (eG J O K hF a0 hM y _ c1 Z a6 b5 hl ho) (fun e a2 w2 hq=>?_);have I:=hq.step a9;subst hl
    cases A:bG glob call cx ro M y (je S keep) s' with
    | norm e1 s1=>rw [A] at I;obtain ⟨rfl,I⟩:=I;exact ⟨rfl,I⟩
    | fail=>rw [A] at ho;simp [Out.st] at ho
    | pan v s1=>rw [A] at I;obtain ⟨u,rfl,I⟩:=I;exact ⟨u,rfl,I⟩
    | exit c2 e1 s1=>rw [A] at I;obtain ⟨rfl,I⟩:=I;exact ⟨rfl,I⟩
    | ret e1 s1=>rw [A] at I;obtain ⟨rfl,I⟩:=I;exact ⟨rfl,I⟩
    | goto l' e1 s1=>exact absurd A (a5 l' e1 s1)
end Go.Ai
namespace Go.Ai
variable {P:Program} {glob:Nat→Option (List AV)} {s:St} {env env2:Env} {call:AV→List AV→St→Ctx→CO} {cx:Ctx} {s':St} {D:Nat→Prop}
structure Agr (D:Nat→Prop) (env env2:Env):Prop where
 same:∀k,¬D k→lk env k=lk env2 k
 own1:∀k e,D k→lk env k=some e→e.owns=true→lk env2 k=some e
theorem Agr.refl (env:Env):Agr (fun _=>False) env env:=⟨fun _ _=>rfl,fun _ _ h=>h.elim⟩
theorem Agr.own (h:Agr D env env2) {k:Nat} {e:EV} (ho:e.owns=true) (he:lk env k=some e):lk env2 k=some e:=by
 by_cases hd:D k
 ·exact h.own1 k e hd he ho
 ·rw [←h.same k hd];exact he
def IX.off (D:Nat→Prop) (x:IX):Prop:=∀k∈x.slots,¬D k
theorem yA (h:Agr D env env2) {x:IX} (hx:x.off D):ev glob env x=ev glob env2 x:=by
 cases x with
 | t k=>exact h.same k (hx k (by simp [IX.slots]))
 | _=>rfl
theorem aep (h:Agr D env env2) {x:IX} (hx:x.off D):rd glob env x=rd glob env2 x:=by
 simp only [rd,yA h hx]
theorem Z7 (h:Agr D env env2) {x:IX} (hx:x.off D):wz env x=wz env2 x:=by
 cases x with
 | t k=>simp only [wz,h.same k (hx k (by simp [IX.slots]))]
 | _=>rfl
theorem VR (h:Agr D env env2) {x:IX} (hx:x.off D) {es:List AV} (he:elems glob env x=some es):elems glob env2 x=some es:=by
 unfold elems at he ⊢;rw [←yA h hx]
 cases hv:ev glob env x with
 | none=>rw [hv] at he;cases he
 | some e=>
  rw [hv] at he
  cases e with
  | al j=>
   simp only [] at he ⊢
   cases hj:lk env j with
   | none=>rw [hj] at he;cases he
   | some o=>
    rw [hj] at he
    cases o with
    | own tip t sz es'=>rw [h.own rfl hj];exact he
    | _=>cases he
  | v a=>cases a<;>exact he
  | _=>exact he
theorem aeQ (h:Agr D env env2) {x:IX} (hx:x.off D):LH glob env x=LH glob env2 x:=by
 unfold LH;rw [yA h hx]
theorem agl (h:Agr D env env2) {x:IX} (hx:x.off D) {off:Nat}:addr glob env off x=addr glob env2 off x:=by
 unfold addr;rw [yA h hx]
theorem Ik (h:Agr D env env2) {x:Option IX} (hx:∀y∈oxs x,y.off D) {d:Nat}:bound glob env d x=bound glob env2 d x:=by
 cases x with
 | none=>rfl
 | some x=>simp only [bound,aep h (hx x (by simp [oxs]))]
theorem acN (h:Agr D env env2) {x:IX} (hx:x.off D) {n:Option Nat} {v:AV} (hl:kV glob env s n x=some v):kV glob env2 s n x=some v:=by
 unfold kV at hl ⊢;rw [←yA h hx]
 cases hv:ev glob env x with
 | none=>rw [hv] at hl;cases hl
 | some e=>
  rw [hv] at hl
  cases e with
  | lp k o=>
   simp only [] at hl ⊢
   cases hk:lk env k with
   | none=>rw [hk] at hl;cases hl
   | some o'=>
    rw [hk] at hl
    cases o' with
    | bx cs=>rw [h.own rfl hk];exact hl
    | _=>cases hl
  | ep k sz i o=>
   simp only [] at hl ⊢
   cases hk:lk env k with
   | none=>rw [hk] at hl;cases hl
   | some o'=>
    rw [hk] at hl
    cases o' with
    | own tip t sz' es=>rw [h.own rfl hk];exact hl
    | _=>cases hl
  | v a=>cases a<;>exact hl
  | _=>exact hl
theorem W9 {env:Env} {k:Nat} {e:EV} (h:lk env k=some e) (j:Nat):lk ((k,e)::env) j=lk env j:=by
 show (if k=j then some e else lk env j)=lk env j;split
 ·rename_i hk;subst hk;exact h.symm
 ·rfl
theorem QD (h:Agr D env env2) {x:IX} (hx:x.off D) (hk:Jh glob env x=true) {a:AV} {env1:Env} (he:esc glob env x=some (a,env1)):
  (∀k,lk env1 k=lk env k)∧∃env3,esc glob env2 x=some (a,env3)∧∀k,lk env3 k=lk env2 k:=by
 unfold esc at he ⊢;unfold Jh at hk;rw [←yA h hx]
 cases hv:ev glob env x with
 | none=>rw [hv] at he;simp at he
 | some e=>
  rw [hv] at he hk
  cases e with
  | v b=>simp only [Option.some.injEq,Prod.mk.injEq] at he;obtain ⟨rfl,rfl⟩:=he;exact ⟨fun _=>rfl,env2,rfl,fun _=>rfl⟩
  | al j=>
   simp only [] at he hk ⊢
   cases hj:lk env j with
   | none=>rw [hj] at he;simp at he
   | some o=>
    rw [hj] at he hk
    cases o with
    | own tip t sz es=>
     simp only [] at hk;subst hk;simp only [Option.some.injEq,Prod.mk.injEq] at he;obtain ⟨rfl,rfl⟩:=he;have A:=h.own (k:=j) (e:=.own true t sz es) rfl hj;rw [A];exact ⟨W9 hj,_,rfl,W9 A⟩
    | _=>simp at he
  | own tip t sz es=>
   simp only [] at he hk ⊢;subst hk
   cases x with
   | t k=>
    simp only [Option.some.injEq,Prod.mk.injEq] at he ⊢;obtain ⟨rfl,rfl⟩:=he;have p:lk env k=some (.own true t sz es):=hv;have I:=h.own (k:=k) (e:=.own true t sz es) rfl p;exact ⟨W9 p,_,⟨rfl,rfl⟩,W9 I⟩
   | _=>simp at he
  | _=>simp at hk
theorem Agr.lk (h:Agr D env env2) {env1 p:Env} (h1:∀k,Ai.lk env1 k=Ai.lk env k) (h3:∀k,Ai.lk p k=Ai.lk env2 k):Agr D env1 p:=
 ⟨fun k hk=>by rw [h1,h3];exact h.same k hk,fun k e hd he ho=>by rw [h3];exact h.own1 k e hd (by rw [←h1];exact he) ho⟩
theorem YW {env1:Env} (h1:∀k,lk env1 k=lk env k) (x:IX):Jh glob env1 x=Jh glob env x:=by
 have p:ev glob env1 x=ev glob env x:=by cases x<;>first|rfl|exact h1 _
 unfold Jh;rw [p];split<;>first|rfl|skip
 rw [h1]
theorem Eh:∀(xs:List IX) {env env2:Env},Agr D env env2→(∀x∈xs,x.off D)→xs.all (Jh glob env)=true→∀{as:List AV} {env1:Env},zW glob env xs=some (as,env1)→
  (∀k,lk env1 k=lk env k)∧∃env3,zW glob env2 xs=some (as,env3)∧∀k,lk env3 k=lk env2 k
 | [],env,env2,h,_,_,as,env1,he=>by
  simp only [zW,Option.some.injEq,Prod.mk.injEq] at he ⊢;obtain ⟨rfl,rfl⟩:=he;exact ⟨fun _=>rfl,env2,⟨rfl,rfl⟩,fun _=>rfl⟩
 | x::xs,env,env2,h,hx,hk,as,env1,he=>by
  simp only [List.all_cons,Bool.and_eq_true] at hk;unfold zW at he ⊢
  split at he
  ·cases he
  ·rename_i a K I;obtain ⟨q1,env3,q2,q3⟩:=QD h (hx x (by simp)) hk.1 I;rw [q2]
   split at he
   ·cases he
   ·rename_i O J A;simp only [Option.some.injEq,Prod.mk.injEq] at he;obtain ⟨rfl,rfl⟩:=he;obtain ⟨p1,p,p2,p3⟩:=Eh xs (h.lk q1 q3) (fun y hy=>hx y (by simp [hy])) (by rw [←hk.2];congr 1;funext y;exact YW q1 y) A;simp only [p2];exact ⟨fun k=>(p1 k).trans (q1 k),p,rfl,fun k=>(p3 k).trans (q3 k)⟩
theorem QL {x:IX} (p:UC glob env x=true):aop glob call cx env s (.mov x)=(match LH glob env x with|some e=>.ok e env s|none=>.fail):=by
 simp only [aop];split
 ·rename_i es k hv;simp [UC,hv] at p
 ·rfl
theorem abZ (h:Agr D env env2) {op:AOp} {rs es:List IX} (hq:op.quiet=some (rs,es)) (A:∀x∈rs++es,x.off D) (W:rs.all (UC glob env)=true) (I:es.all (Jh glob env)=true)
  {e:EV} {env1:Env} {s1:St} (ha:aop glob call cx env s op=.ok e env1 s1):(∀k,lk env1 k=lk env k)∧∃env3,aop glob call cx env2 s op=.ok e env3 s1∧∀k,lk env3 k=lk env2 k:=by
 have K:∀x∈rs++es,rd glob env2 x=rd glob env x:=fun x hx=>(aep h (A x hx)).symm;have P:∀x∈rs++es,∀n v,kV glob env s n x=some v→kV glob env2 s n x=some v:=fun x hx n v=>acN h (A x hx);have a2:∀x∈rs++es,∀n,addr glob env2 n x=addr glob env n x:=fun x hx n=>(agl h (A x hx)).symm;have a0:∀x∈rs++es,∀v,elems glob env x=some v→elems glob env2 x=some v:=fun x hx v=>VR h (A x hx);have R:∀x∈rs++es,wz env2 x=wz env x:=fun x hx=>(Z7 h (A x hx)).symm;cases op
 case mov x=>
  simp only [AOp.quiet,Option.some.injEq,Prod.mk.injEq] at hq;obtain ⟨rfl,rfl⟩:=hq;simp only [List.all_cons,List.all_nil,Bool.and_true] at W;have Y:UC glob env2 x=true:=by unfold UC at W ⊢;rw [←yA h (A x (by simp))];exact W
  rw [QL W] at ha;rw [QL Y,←aeQ h (A x (by simp))]
  split at ha
  ·rename_i e1 hm;cases ha;exact ⟨fun _=>rfl,env2,by simp [hm],fun _=>rfl⟩
  ·cases ha
 case pick c a b=>
  simp only [AOp.quiet,Option.some.injEq,Prod.mk.injEq] at hq;obtain ⟨rfl,rfl⟩:=hq;simp only [aop,okv] at ha ⊢;rw [K c (by simp)]
  split at ha
  ·rename_i x hx
   have hp:rd glob env2 (if x then a else b)=rd glob env (if x then a else b):=by cases x<;>exact K _ (by simp)
   simp only [hp]
   split at ha
   ·rename_i v hv;cases ha;exact ⟨fun _=>rfl,env2,by simp [hv],fun _=>rfl⟩
   ·cases ha
  ·cases ha
 case loadp d n x=>
  simp only [AOp.quiet,Option.some.injEq,Prod.mk.injEq] at hq;obtain ⟨rfl,rfl⟩:=hq;simp only [aop] at ha ⊢;have hd:lk env2 d=lk env d:=(h.same d (A (.t d) (by simp) d (by simp [IX.slots]))).symm;rw [hd,←yA h (A x (by simp))]
  split at ha
  ·rename_i h1 h2;simp only [okv] at ha ⊢
   split at ha
   ·rename_i v hv;cases ha;exact ⟨fun _=>rfl,env2,by simp [P x (by simp) _ _ hv],fun _=>rfl⟩
   ·cases ha
  ·cases ha
 case loadw n x bs=>
  simp only [AOp.quiet,Option.some.injEq,Prod.mk.injEq] at hq;obtain ⟨rfl,rfl⟩:=hq
  have a8:∀l,MZ env2 l bs=MZ env l bs:=fun l=>by
   unfold MZ;have hb:∀b∈bs,lk env2 b=lk env b:=fun b hb=>(h.same b (A (.t b) (by simp [hb]) b (by simp [IX.slots]))).symm;rw [Bool.eq_iff_iff,List.all_eq_true,List.all_eq_true];exact ⟨fun q b O=>by rw [←hb b O];exact q b O,fun q b O=>by rw [hb b O];exact q b O⟩
  simp only [aop] at ha ⊢;rw [←yA h (A x (by simp))]
  split at ha
  ·rename_i l o1 h1;rw [a8]
   split at ha
   ·rename_i hc;simp only [okv] at ha ⊢
    split at ha
    ·rename_i v hv;cases ha;exact ⟨fun _=>rfl,env2,by simp [hc,P x (by simp) _ _ hv],fun _=>rfl⟩
    ·cases ha
   ·cases ha
  ·cases ha
 case loadv x k off=>
  simp only [AOp.quiet,Option.some.injEq,Prod.mk.injEq] at hq;obtain ⟨rfl,rfl⟩:=hq;simp only [aop] at ha ⊢;have hd:lk env2 k=lk env k:=(h.same k (A (.t k) (by simp) k (by simp [IX.slots]))).symm;rw [hd,←yA h (A x (by simp))]
  split at ha
  ·rename_i h1 h2
   split at ha
   ·rename_i hc
    split at ha
    ·rename_i m hm;cases ha;exact ⟨fun _=>rfl,env2,by simp [hc,hm],fun _=>rfl⟩
    ·cases ha
   ·cases ha
  ·cases ha
 case loadl n x=>
  simp only [AOp.quiet,Option.some.injEq,Prod.mk.injEq] at hq;obtain ⟨rfl,rfl⟩:=hq;simp only [aop] at ha ⊢;rw [←yA h (A x (by simp))]
  split at ha<;>first | (cases ha;done)|skip
  all_goals
   simp only [okv] at ha ⊢
   split at ha
   ·rename_i v hv;cases ha;exact ⟨fun _=>rfl,env2,by simp [P x (by simp) _ _ hv],fun _=>rfl⟩
   ·cases ha
 case load n x=>
  simp only [AOp.quiet,Option.some.injEq,Prod.mk.injEq] at hq;obtain ⟨rfl,rfl⟩:=hq;simp only [aop,okv] at ha ⊢
  split at ha
  ·rename_i v hv;cases ha;exact ⟨fun _=>rfl,env2,by simp [P x (by simp) _ _ hv],fun _=>rfl⟩
  ·cases ha
 case b2s x=>
  simp only [AOp.quiet,Option.some.injEq,Prod.mk.injEq] at hq;obtain ⟨rfl,rfl⟩:=hq;simp only [aop,okv] at ha ⊢
  split at ha
  ·rename_i a6 S;rw [a0 x (by simp) _ S];simp only []
   split at ha
   ·rename_i v hv;cases ha;exact ⟨fun _=>rfl,env2,by simp [hv],fun _=>rfl⟩
   ·cases ha
  ·cases ha
 case idx sz x i=>
  simp only [AOp.quiet,Option.some.injEq,Prod.mk.injEq] at hq;obtain ⟨rfl,rfl⟩:=hq;simp only [aop] at ha ⊢;rw [K i (by simp),R x (by simp),K x (by simp)]
  split at ha
  ·split at ha
   ·split at ha
    ·rename_i _ k hk _ tip t sz' es hl
     split at ha
     ·rename_i hc;cases ha;have a5:=h.own (k:=k) (e:=.own tip t sz' es) rfl hl;exact ⟨fun _=>rfl,env2,by simp [a5,hc],fun _=>rfl⟩
     ·cases ha
    ·cases ha
   ·(repeat' split at ha)<;>first | (cases ha;done) | (cases ha;exact ⟨fun _=>rfl,env2,by simp [*],fun _=>rfl⟩)
  ·cases ha
 case lenA n=>cases ha;exact ⟨fun _=>rfl,env2,rfl,fun _=>rfl⟩
 case len k x=>
  simp only [AOp.quiet,Option.some.injEq,Prod.mk.injEq] at hq;obtain ⟨rfl,rfl⟩:=hq
  match k with
  | 0=>
   simp only [aop] at ha ⊢
   split at ha
   ·rename_i a6 S;cases ha;exact ⟨fun _=>rfl,env2,by rw [a0 x (by simp) _ S],fun _=>rfl⟩
   ·split at ha
    ·rename_i l ver sz o m a1;cases ha
     have hn:elems glob env2 x=none:=by
      have Q:rd glob env2 x=some (.sk l ver sz o m):=(K x (by simp)).trans a1;unfold rd at Q;unfold elems
      split at Q
      ·rename_i a a3;rw [a3]
       cases a<;>first|rfl | (simp [AV.plain] at Q;done)
      ·cases Q
     exact ⟨fun _=>rfl,env2,by rw [hn,K x (by simp),a1],fun _=>rfl⟩
    ·cases ha
  | 1=>simp only [aop] at ha ⊢;rw [K x (by simp)];(repeat' split at ha)<;>first | (cases ha;done) | (cases ha;exact ⟨fun _=>rfl,env2,by simp [*],fun _=>rfl⟩)
  | 2=>simp only [aop] at ha ⊢;rw [K x (by simp)];(repeat' split at ha)<;>first | (cases ha;done) | (cases ha;exact ⟨fun _=>rfl,env2,by simp [*],fun _=>rfl⟩)
  | k+3=>simp only [aop] at ha;cases ha
 case slcs x lo hi=>
  simp only [AOp.quiet,Option.some.injEq,Prod.mk.injEq] at hq;obtain ⟨rfl,rfl⟩:=hq;simp only [aop] at ha ⊢;have b1:∀d,bound glob env2 d lo=bound glob env d lo:=fun d=>(Ik h (fun y hy=>A y (by simp [hy]))).symm;have b2:∀d,bound glob env2 d hi=bound glob env d hi:=fun d=>(Ik h (fun y hy=>A y (by simp [hy]))).symm;simp only [K x (by simp),b1,b2]
  (repeat' split at ha)<;>first | (cases ha;done) | (cases ha;exact ⟨fun _=>rfl,env2,by simp [*],fun _=>rfl⟩)
 case slc sz x lo hi=>
  simp only [AOp.quiet,Option.some.injEq,Prod.mk.injEq] at hq;obtain ⟨rfl,rfl⟩:=hq;simp only [List.all_cons,List.all_nil,Bool.and_true] at I;simp only [aop] at ha ⊢
  cases he:esc glob env x with
  | none=>rw [he] at ha;cases ha
  | some p=>
   obtain ⟨a,J⟩:=p;obtain ⟨q1,env3,q2,q3⟩:=QD h (A x (by simp)) I he;have h':Agr D J env3:=h.lk q1 q3;have b1:∀d,bound glob env3 d lo=bound glob J d lo:=fun d=>(Ik h' (fun y hy=>A y (by simp [hy]))).symm;have b2:∀d,bound glob env3 d hi=bound glob J d hi:=fun d=>(Ik h' (fun y hy=>A y (by simp [hy]))).symm;rw [he] at ha;rw [q2]
   cases a<;>simp only [reduceCtorEq] at ha ⊢<;>simp only [b1,b2] <;>
    ((repeat' split at ha)<;>first | (cases ha;done) | (cases ha;exact ⟨q1,env3,by simp [*],q3⟩))
 case cpy x=>
  simp only [AOp.quiet,Option.some.injEq,Prod.mk.injEq] at hq;obtain ⟨rfl,rfl⟩:=hq;simp only [List.all_cons,List.all_nil,Bool.and_true] at I;simp only [aop] at ha ⊢
  split at ha
  ·rename_i a J he;cases ha;obtain ⟨q1,env3,q2,q3⟩:=QD h (A x (by simp)) I he;exact ⟨q1,env3,by simp [q2],q3⟩
  ·cases ha
 case build zs ps=>
  simp only [AOp.quiet,Option.some.injEq,Prod.mk.injEq] at hq;obtain ⟨rfl,rfl⟩:=hq;simp only [aop,okv] at ha ⊢
  split at ha
  ·rename_i vs J he;obtain ⟨q1,env3,q2,q3⟩:=Eh _ h (fun y hy=>A y (by simpa using hy)) I he;rw [q2]
   (repeat' split at ha)<;>first | (cases ha;done) | (cases ha;exact ⟨q1,env3,by simp [*],q3⟩)
  ·cases ha
 case bsl own t sz len zs ps=>
  cases own
  ·simp only [AOp.quiet,Option.some.injEq,Prod.mk.injEq] at hq;obtain ⟨rfl,rfl⟩:=hq;simp only [aop] at ha ⊢
   split at ha
   ·rename_i vs J he;obtain ⟨q1,env3,q2,q3⟩:=Eh _ h (fun y hy=>A y (by simpa using hy)) I he;rw [q2];simp only [Bool.false_eq_true,if_false] at ha ⊢
    split at ha
    ·rename_i hc;cases ha;exact ⟨q1,env3,by rw [if_pos hc],q3⟩
    ·cases ha
   ·cases ha
  ·simp [AOp.quiet] at hq
 case mkfn f as cs=>
  simp only [AOp.quiet,Option.some.injEq,Prod.mk.injEq] at hq;obtain ⟨rfl,rfl⟩:=hq;simp only [List.all_append,Bool.and_eq_true] at I;simp only [aop] at ha ⊢
  split at ha
  ·rename_i vs J he;obtain ⟨q1,env3,q2,q3⟩:=Eh _ h (fun y hy=>A y (by simp [hy])) I.1 he;rw [q2]
   split at ha
   ·rename_i ws a4 a7;obtain ⟨p1,Z,p2,p3⟩:=Eh _ (h.lk q1 q3) (fun y hy=>A y (by simp [hy])) (by rw [←I.2];congr 1;funext y;exact YW q1 y) a7;cases ha;simp only [p2];exact ⟨fun k=>(p1 k).trans (q1 k),Z,rfl,fun k=>(p3 k).trans (q3 k)⟩
   ·cases ha
  ·cases ha
 case mkif t x=>
  simp only [AOp.quiet,Option.some.injEq,Prod.mk.injEq] at hq;obtain ⟨rfl,rfl⟩:=hq;simp only [List.all_cons,List.all_nil,Bool.and_true] at I;simp only [aop] at ha ⊢
  split at ha
  ·rename_i a J he;cases ha;obtain ⟨q1,env3,q2,q3⟩:=QD h (A x (by simp)) I he;exact ⟨q1,env3,by simp [q2],q3⟩
  ·cases ha
 case call f as=>
  simp only [AOp.quiet,Option.some.injEq,Prod.mk.injEq] at hq;obtain ⟨rfl,rfl⟩:=hq;simp only [aop] at ha ⊢;rw [K f (by simp)]
  split at ha
  ·rename_i fv vs J hf he;obtain ⟨q1,env3,q2,q3⟩:=Eh _ h (fun y hy=>A y (by simp [hy])) I he;simp only [hf,q2]
   split at ha
   ·rename_i r s2 hr;cases ha;exact ⟨q1,env3,rfl,q3⟩
   ·cases ha
   ·cases ha
  ·cases ha
 all_goals
  first
  | (simp [AOp.quiet] at hq;done)
  | (simp only [AOp.quiet,Option.some.injEq,Prod.mk.injEq] at hq
     obtain ⟨rfl,rfl⟩:=hq;simp only [List.append_nil,List.mem_cons,List.not_mem_nil,or_false,forall_eq_or_imp,forall_eq] at K a2 R;simp only [aop,okv,K,a2,R] at ha ⊢
     (repeat' split at ha)<;>first | (cases ha;done) | (cases ha;exact ⟨fun _=>rfl,env2,by simp [*],fun _=>rfl⟩))
end Go.Ai
namespace Go.Ai
variable {P:Program} {glob:Nat→Option (List AV)} {g:ai} {s:St} {B:Nat} {w:World} {env env2:Env} {a:Act} {call:AV→List AV→St→Ctx→CO} {cx:Ctx} {env':Env} {s':St} {D:Nat→Prop}
def EqE (env env2:Env):Prop:=∀k,lk env k=lk env2 k
theorem EqE.agr (h:EqE env env2):Agr (fun _=>False) env env2:=⟨fun k _=>h k,fun _ _ h=>h.elim⟩
theorem Fr.eqE {b0:Nat} {N:Wd} {ls:List Nat} (h:Fr P glob g s B w a env N b0 ls) (he:EqE env env'):Fr P glob g s B w a env' N b0 ls:=by
 refine ⟨⟨h.sim.base,⟨fun k e hk=>h.sim.env.rel k e (by rw [he];exact hk),fun k k' e e' hk p=>h.sim.env.apart k k' e e' (by rw [he];exact hk) (by rw [he];exact p),fun k e hk=>h.sim.env.off k e (by rw [he];exact hk),fun k e j hk hr=>?_⟩,h.sim.B⟩,h.sz,h.dl,h.df,h.nd,h.lo,h.pin⟩;obtain ⟨o,h1,h2⟩:=h.sim.env.refs k e j (by rw [he];exact hk) hr;exact ⟨o,by rw [←he];exact h1,h2⟩
def wu (env:Env) (dst:Option Nat) (e:EV):Env:=
 match dst with
 | some d=>(d,e)::env
 | none=>env
def okD (env:Env) (dst:Option Nat) (e:EV):Prop:=∀d,dst=some d→e.refers d=false∧sD env d=false
theorem Vk {o:aI} {e:EV} (h:xW glob call o env s=some e):e.owns=false:=by
 unfold xW at h
 split at h
 ·cases h
 ·cases h;rfl
 ·split at h
  ·split at h
   ·split at h
    ·rename_i hc;cases h;exact hc.2
    ·cases h
   ·cases h
  ·cases h
theorem jY {o:aI} {env1:Env} {s1:St}:BM glob call o env s=.norm env1 s1 ↔ s1=s∧∃e,xW glob call o env s=some e∧okD env o.dst e∧env1=wu env o.dst e:=by
 unfold BM
 cases hq:xW glob call o env s with
 | none=>simp
 | some e=>
  cases hd:o.dst with
  | none=>simp [okD,wu];constructor<;>(rintro ⟨rfl,rfl⟩;exact ⟨rfl,rfl⟩)
  | some d=>
   simp only [okD,wu];constructor
   ·intro h
    split at h
    ·rename_i hc;cases h;exact ⟨rfl,e,rfl,fun d' p=>by cases p;exact hc,rfl⟩
    ·cases h
   ·rintro ⟨rfl,e',he,h1,rfl⟩;cases he;rw [if_pos (h1 d rfl)]
theorem ZE (h:Agr D env env2) {gd:Option (Nat×Bool)} (hg:∀k b,gd=some (k,b)→¬D k):gW env gd=gW env2 gd:=by
 cases gd with
 | none=>rfl
 | some p=>simp only [gW,h.same p.1 (hg p.1 p.2 rfl)]
def agw (D:Nat→Prop) (o:aI):Prop:=∀k∈o.reads,¬D k
theorem Bj (h:Agr D env env2) {o:aI} (ho:agw D o) {e:EV} (hq:xW glob call o env s=some e):xW glob call o env2 s=some e:=by
 unfold xW at hq ⊢;rw [←ZE h (gd:=o.guard) (fun k b hk=>ho k (by simp [aI.reads,hk]))]
 split at hq
 ·cases hq
 ·exact hq
 ·split at hq
  ·rename_i p;unfold okQ at p
   split at p
   ·rename_i rs es J;simp only [Bool.and_eq_true] at p;have A:∀x∈rs++es,x.off D:=fun x hx k hk=>ho k (by simp only [aI.reads,J];exact List.mem_append_left _ (List.mem_flatMap.2 ⟨x,hx,hk⟩))
    split at hq
    ·rename_i e1 env1 s1 ha;obtain ⟨_,Q,O,_⟩:=abZ h J A p.1 p.2 ha
     have K:okQ glob env2 o.op=true:=by
      unfold okQ;rw [J];simp only [Bool.and_eq_true];constructor
      ·rw [←p.1];rw [Bool.eq_iff_iff];simp only [List.all_eq_true]
       have:∀x∈rs,UC glob env2 x=UC glob env x:=fun x hx=>by unfold UC;rw [yA h (A x (by simp [hx]))]
       exact ⟨fun hh x hx=>by rw [←this x hx];exact hh x hx,fun hh x hx=>by rw [this x hx];exact hh x hx⟩
      ·have I:=p.2;simp only [List.all_eq_true] at I ⊢;intro x hx;have h1:=I x hx;unfold Jh at h1 ⊢;rw [←yA h (A x (by simp [hx]))]
       split at h1
       ·rfl
       ·rename_i j hv
        split at h1
        ·rename_i tip t sz P hj;rw [h.own (k:=j) (e:=.own tip t sz P) rfl hj];exact h1
        ·cases h1
       ·exact h1
       ·cases h1
     rw [if_pos K,O];exact hq
    ·cases hq
   ·cases p
  ·cases hq
theorem Zw {dst:Option Nat} {e:EV} (he:e.owns=false):Agr (fun k=>dst=some k) (wu env dst e) env:=by
 cases dst with
 | none=>exact ⟨fun _ _=>rfl,fun k _ h=>(by cases h)⟩
 | some d=>
  refine ⟨fun k hk=>?_,fun k e' hk hl ho=>?_⟩
  ·have:d≠k:=fun h=>hk (by rw [h])
   show (if d=k then some e else lk env k)=_;rw [if_neg this]
  ·cases hk
   have:lk ((d,e)::env) d=some e:=by show (if d=d then some e else _)=_;rw [if_pos rfl]
   have hh:lk ((d,e)::env) d=some e':=hl;rw [this] at hh;cases hh;rw [he] at ho;cases ho
theorem ab1 {dst:Option Nat} {e:EV} (he:e.owns=false) (_:okD env dst e):Agr (fun k=>dst=some k) (wu env dst e) env:=Zw he
theorem Zx {dst:Option Nat} {e:EV} (hd:okD env dst e):Agr (fun k=>dst=some k) env (wu env dst e):=by
 cases dst with
 | none=>exact ⟨fun _ _=>rfl,fun k _ h=>(by cases h)⟩
 | some d=>
  have hn:=(hd d rfl).2;refine ⟨fun k hk=>?_,fun k e' hk hl ho=>?_⟩
  ·have:d≠k:=fun h=>hk (by rw [h])
   show _=(if d=k then some e else lk env k);rw [if_neg this]
  ·cases hk;unfold sD at hn;rw [hl] at hn;simp only [] at hn;rw [hn] at ho;cases ho
theorem dZ {dst:Option Nat} {e:EV} {k:Nat} (h:dst≠some k):lk (wu env dst e) k=lk env k:=by
 cases dst with
 | none=>rfl
 | some d=>show (if d=k then some e else lk env k)=_;rw [if_neg (fun hh=>h (by rw [hh]))]
theorem JO {d:Option Nat} {o:aI} (h:xJ d o.reads=true):agw (fun k=>d=some k) o:=by
 intro k hk hd;subst hd;simp [xJ] at h;exact h k hk rfl
theorem CY {o p:aI} (h:Ul o p=true):o.op.quiet.isSome=true∧p.op.quiet.isSome=true∧agw (fun k=>o.dst=some k) p∧agw (fun k=>p.dst=some k) o∧∀d,o.dst=some d→p.dst≠some d:=by
 simp only [Ul,Bool.and_eq_true] at h;obtain ⟨⟨⟨⟨h1,h2⟩,h3⟩,h4⟩,h5⟩:=h;refine ⟨h1,h2,JO h3,JO h4,fun d hd hp=>?_⟩;rw [hd,hp] at h5;simp at h5
theorem acs {o p:aI} (J:Ul o p=true) {env1 env2:Env} (h1:BM glob call o env s=.norm env1 s) (h2:BM glob call p env1 s=.norm env2 s):
  ∃env1' env2',BM glob call p env s=.norm env1' s∧BM glob call o env1' s=.norm env2' s∧EqE env2' env2:=by
 obtain ⟨_,_,a1,a2,a3⟩:=CY J;obtain ⟨_,eo,qo,ko,rfl⟩:=jY.1 h1;obtain ⟨_,ep,qp,kp,rfl⟩:=jY.1 h2;have I:=Bj (ab1 (Vk qo) ko) a1 qp
 have A:okD env p.dst ep:=fun d hd=>⟨(kp d hd).1,by
  have:=(kp d hd).2
  unfold sD at this ⊢;rw [dZ (fun hh=>a3 d hh hd)] at this
  exact this⟩
 refine ⟨wu env p.dst ep,wu (wu env p.dst ep) o.dst eo,jY.2 ⟨rfl,ep,I,A,rfl⟩,jY.2 ⟨rfl,eo,Bj (Zx A) a2 qo,fun d hd=>⟨(ko d hd).1, ?_⟩,rfl⟩,fun k=>?_⟩
 ·have:=(ko d hd).2
  unfold sD at this ⊢;rw [dZ (a3 d hd)];exact this
 ·by_cases hk:o.dst=some k
  ·have x:=a3 k hk;rw [dZ x,hk];show (if k=k then some eo else _)=(if k=k then some eo else _);rw [if_pos rfl,if_pos rfl]
  ·rw [dZ hk];by_cases x:p.dst=some k
   ·rw [x];show (if k=k then some ep else _)=(if k=k then some ep else _);rw [if_pos rfl,if_pos rfl]
   ·rw [dZ x,dZ x,dZ hk]
theorem NC {d1 d2:Option Nat} {e1 e2:EV} (x:∀d,d1=some d→d2≠some d):EqE (wu (wu env d2 e2) d1 e1) (wu (wu env d1 e1) d2 e2):=by
 intro k;by_cases hk:d1=some k
 ·have p:=x k hk;rw [dZ p,hk];show (if k=k then some e1 else _)=(if k=k then some e1 else _);rw [if_pos rfl,if_pos rfl]
 ·rw [dZ hk];by_cases p:d2=some k
  ·rw [p];show (if k=k then some e2 else _)=(if k=k then some e2 else _);rw [if_pos rfl,if_pos rfl]
  ·rw [dZ p,dZ p,dZ hk]
theorem EqE.put (h:EqE env env2) (dst:Option Nat) (e:EV):EqE (wu env dst e) (wu env2 dst e):=by
 intro k
 cases dst with
 | none=>exact h k
 | some d=>show (if d=k then some e else lk env k)=(if d=k then some e else lk env2 k);rw [h k]
theorem aei (h:EqE env env2) {o:aI} {env1:Env} (h1:BM glob call o env s=.norm env1 s):∃env1',BM glob call o env2 s=.norm env1' s∧EqE env1 env1':=by
 obtain ⟨_,e,q,k,rfl⟩:=jY.1 h1;exact ⟨_,jY.2 ⟨rfl,e,Bj h.agr (fun _ _ h=>h.elim) q,fun d hd=>⟨(k d hd).1,by have:=(k d hd).2;unfold sD at this ⊢;rw [←h d];exact this⟩,rfl⟩,h.put _ _⟩
end Go.Ai
namespace Go.Ai
variable {P:Program} {glob:Nat→Option (List AV)} {g:ai} {s:St} {B:Nat} {w:World} {env env2:Env} {a:Act} {call:AV→List AV→St→Ctx→CO} {cx:Ctx} {env':Env} {s':St} {ops:Array Oper} {aops:List aI}
inductive Reach (ops:Array Oper):Nat→Nat→Prop where
 | edge {i j:Nat}:j∈wS ops i→Reach ops i j
 | trans {i e j:Nat}:e∈wS ops i→Reach ops e j→Reach ops i j
def aaY (ops:Array Oper) (acc:List (Nat×Nat)):Prop:=∀e j,(JR acc e).testBit j=true→Reach ops e j
theorem OX {p:List (Nat×Nat)}:∀(es:List Nat) (j:Nat),(SA p es).testBit j=true→∃e∈es,j=e∨(JR p e).testBit j=true
 | [],j,h=>by simp [SA] at h
 | e::r,j,h=>by
  simp only [SA,Nat.testBit_or,Bool.or_eq_true,Nat.testBit_two_pow,decide_eq_true_eq] at h;rcases h with (h|h)|h
  ·exact ⟨e,by simp,.inl h.symm⟩
  ·exact ⟨e,by simp,.inr h⟩
  ·obtain ⟨e',h1,h2⟩:=OX r j h;exact ⟨e',by simp [h1],h2⟩
theorem Sz:∀(π:List Nat) (x:List (Nat×Nat)),aaY ops x→aaY ops (masks ops π x)
 | [],x,h=>h
 | i::r,x,h=>by
  refine Sz r _ (fun e j hj=>?_);simp only [JR] at hj
  split at hj
  ·rename_i p
   have:i=e:=by simpa using p
   subst this;obtain ⟨e',h1,h2⟩:=OX _ j hj;rcases h2 with rfl|h2
   ·exact .edge h1
   ·exact .trans h1 (h e' j h2)
  ·exact h e j hj
def Fz (aops:List aI) (j i:Nat):Prop:=∃o p,aops[j]?=some o∧aops[i]?=some p∧apart o p=true
theorem Jk {ms:List (Nat×Nat)} (x:aaY ops ms):∀(π:List Nat),MQ aops ms π=true→π.Pairwise fun j i=>Reach ops i j∨Fz aops j i
 | [],_=>.nil
 | j::r,h=>by
  simp only [MQ,Bool.and_eq_true,List.all_eq_true] at h;refine .cons (fun i hi=>?_) (Jk x r h.2);have h1:=h.1 i hi;simp only [abR,Bool.or_eq_true] at h1;rcases h1 with h1|h1
  ·exact .inl (x i j h1)
  ·split at h1
   ·rename_i o p ho hp;exact .inr ⟨o,p,ho,hp,h1⟩
   ·cases h1
structure Inv (ops:Array Oper) (aops:List aI) (listed:Array Bool) (rem:List Nat):Prop where
 sz:listed.size=ops.size
 mem:∀j,j<ops.size→(listed.getD j true=false ↔ j∈rem)
 lt:∀j∈rem,j<ops.size
 nd:rem.Nodup
 pairs:rem.Pairwise fun j i=>Reach ops i j∨Fz aops j i
 down:∀i,listed.getD i false=true→∀e∈wS ops i,listed.getD e false=true
 topo:∀p i q,rem=p++i::q→∀e∈wS ops i,listed.getD e false=true∨e∈p
variable {listed:Array Bool} {rem:List Nat}
theorem OQ {i:Nat} (h:i∈Region.ready .any ops listed):∀e∈wS ops i,listed.getD e false=true:=by
 obtain ⟨_,o,ho,p⟩:=mem_ready.1 h;intro e he;simp only [wS,ho,List.mem_map,List.mem_filter,Array.mem_toList_iff] at he;obtain ⟨x,⟨hx,hb⟩,rfl⟩:=he;exact p x hx hb
theorem ahq {j:Nat} (h:j<listed.size):listed.getD j true=listed.getD j false:=by
 simp [Array.getD_eq_getD_getElem?,h]
theorem Inv.reach (h:Inv ops aops listed rem) {i j:Nat} (hr:Reach ops i j) (hw:∀e∈wS ops i,listed.getD e false=true):listed.getD j false=true:=by
 induction hr with
 | edge he=>exact hw _ he
 | trans he _ ih=>exact ih (h.down _ (hw _ he))
theorem Inv.not_reach (h:Inv ops aops listed rem) {i j:Nat} (hi:i∈Region.ready .any ops listed) (hj:j∈rem):¬Reach ops i j:=by
 intro hr;have h1:=h.reach hr (OQ hi);have h2:=(h.mem j (h.lt j hj)).2 hj;rw [ahq (by rw [h.sz];exact h.lt j hj),h1] at h2;cases h2
theorem Inv.ready_mem (h:Inv ops aops listed rem) {i:Nat} (hi:i∈Region.ready .any ops listed):i∈rem:=by
 obtain ⟨h1,o,ho,_⟩:=mem_ready.1 hi;exact (h.mem i (Array.getElem?_eq_some_iff.1 ho).1).1 h1
theorem Inv.head_ready {i:Nat} {r:List Nat} (h:Inv ops aops listed (i::r)):i∈Region.ready .any ops listed:=by
 have p:=h.lt i (by simp);refine mem_ready.2 ⟨(h.mem i p).2 (by simp),ops[i],by simp [p],fun e he hb=>?_⟩
 have hw:e.on∈wS ops i:=by
  simp only [wS,Array.getElem?_eq_getElem p,List.mem_map,List.mem_filter,Array.mem_toList_iff];exact ⟨e,⟨he,hb⟩,rfl⟩
 rcases h.topo [] i r rfl e.on hw with h1|h1
 ·exact h1
 ·cases h1
theorem Inv.nil_ready (h:Inv ops aops listed []):Region.ready .any ops listed=[]:=by
 cases hr:Region.ready .any ops listed with
 | nil=>rfl
 | cons i r=>have:=h.ready_mem (i:=i) (by rw [hr];simp);cases this
theorem Inv.remove {p q:List Nat} {i:Nat} (h:Inv ops aops listed (p++i::q)) (hi:i∈Region.ready .any ops listed):Inv ops aops (listed.setIfInBounds i true) (p++q):=by
 have P:=h.lt i (by simp)
 have x:∀j b,(listed.setIfInBounds i true).getD j b=if j=i then true else listed.getD j b:=by
  intro j b;by_cases hj:j=i
  ·subst hj;simp [Array.getD_eq_getD_getElem?,h.sz,P]
  ·simp [Array.getD_eq_getD_getElem?,hj,Array.getElem?_setIfInBounds,Ne.symm hj]
 have I:=h.nd;have A:List.Sublist (p++q) (p++i::q):=List.Sublist.append (List.Sublist.refl p) (List.sublist_cons_self i q)
 have J:i ∉ p++q:=by
  have h1:=List.nodup_append.1 I;intro hh;rcases List.mem_append.1 hh with hh|hh
  ·exact h1.2.2 i hh i (by simp) rfl
  ·exact (List.nodup_cons.1 h1.2.1).1 hh
 refine ⟨by simpa using h.sz,fun j hj=>?_,fun j hj=>h.lt j (by simp at hj ⊢;rcases hj with hj|hj<;>simp [hj]), ?_, ?_,fun k hk e he=>?_,fun p' k q' O e he=>?_⟩
 ·rw [x];by_cases hji:j=i
  ·subst hji;simp only [if_true];exact ⟨fun hh=>absurd hh (by decide),fun hh=>absurd hh J⟩
  ·rw [if_neg hji,h.mem j hj];simp [hji]
 ·exact List.Nodup.sublist A I
 ·have:=h.pairs
  exact List.Pairwise.sublist A this
 ·rw [x] at hk ⊢;split
  ·rfl
  ·split at hk
   ·rename_i K;subst K;exact OQ hi e he
   ·exact h.down k hk e he
 ·rw [x];by_cases hei:e=i
  ·left;rw [if_pos hei]
  ·rw [if_neg hei];rcases List.append_eq_append_iff.1 O with ⟨c,h1,h2⟩|⟨c,h1,h2⟩
   ·-- k within q
    rcases h.topo (p++i::c) k q' (by rw [h2];simp) e he with h3|h3
    ·exact .inl h3
    ·right;rw [h1];simp at h3 ⊢;rcases h3 with h3|h3|h3
     ·exact .inl h3
     ·exact absurd h3 hei
     ·exact .inr h3
   ·cases c with
    | nil=>
     simp at h1 h2;subst h1;rcases h.topo (p++[i]) k q' (by rw [←h2];simp) e he with h3|h3
     ·exact .inl h3
     ·right;simp at h3;rcases h3 with h3|h3
      ·exact h3
      ·exact absurd h3 hei
    | cons c0 c=>
     simp at h2;obtain ⟨rfl,rfl⟩:=h2;exact h.topo p' k (c++i::q) (by rw [h1];simp) e he
end Go.Ai
namespace Go.Ai
variable {qt:Prop} {P:Program} {glob:Nat→Option (List AV)} {g:ai} {s:St} {B:Nat} {w:World} {env env2:Env} {a:Act} {call:AV→List AV→St→Ctx→CO} {cx:Ctx} {env':Env} {s':St} {ops:Array Oper} {aops:List aI}
theorem gB {o:aI} (h:o.op.quiet.isSome=true):iw glob call cx o env s=BM glob call o env s:=by
 unfold iw;rw [if_pos h]
theorem jV {o:aI} (h:o.op.quiet.isSome=false):iw glob call cx o env s=fK glob call cx o env s:=by
 unfold iw;rw [if_neg (by rw [h];simp)]
theorem Nz {d:Nat} {e:EV} (h:sD env d=false):put env d e=(d,e)::env:=by
 unfold put;unfold sD at h;split
 ·rename_i o ho;rw [ho] at h;simp [h]
 ·rfl
def Runs (glob:Nat→Option (List AV)) (call:AV→List AV→St→Ctx→CO) (cx:Ctx) (aops:List aI):List Nat→Env→St→Env→St→Prop
 | [],env,s,env',s'=>EqE env env'∧s'=s
 | i::r,env,s,env',s'=>∃o yB env1 s1,aops[i]?=some o∧EqE env yB∧iw glob call cx o yB s=.norm env1 s1∧Runs glob call cx aops r env1 s1 env' s'
theorem EqE.trans {p:Env} (h:EqE env env2) (h':EqE env2 p):EqE env p:=fun k=>(h k).trans (h' k)
theorem EqE.symm (h:EqE env env2):EqE env2 env:=fun k=>(h k).symm
theorem EqE.refl (env:Env):EqE env env:=fun _=>rfl
theorem Runs.eqE {l:List Nat} (h:Runs glob call cx aops l env s env' s') (he:EqE env2 env):Runs glob call cx aops l env2 s env' s':=by
 cases l with
 | nil=>exact ⟨he.trans h.1,h.2⟩
 | cons i r=>obtain ⟨o,e0,e1,s1,h1,h2,h3,h4⟩:=h;exact ⟨o,e0,e1,s1,h1,he.trans h2,h3,h4⟩
theorem Wy:∀(l:List Nat) {env:Env} {s:St},jC glob call cx aops l env s=.norm env' s'→Runs glob call cx aops l env s env' s'
 | [],env,s,h=>by simp only [jC,Out.norm.injEq] at h;exact ⟨by rw [h.1];exact .refl _,h.2.symm⟩
 | i::r,env,s,h=>by
  simp only [jC] at h
  split at h
  ·cases h
  ·rename_i o ho
   split at h
   ·rename_i env1 s1 hr;exact ⟨o,env,env1,s1,ho,.refl _,hr,Wy r h⟩
   ·rename_i p;exact absurd h (p _ _)
theorem aak {d:Nat} {e:EV} {k:Nat} (hk:k≠d):lk (put env d e) k=(if sD env d=true then (lk env k).map (fun x=>if x.refers d then .v .u else x) else lk env k):=by
 by_cases ho:sD env d=true
 ·rw [if_pos ho];unfold sD at ho;unfold put;split
  ·rename_i o p;rw [p] at ho;simp only [] at ho;rw [if_pos ho,gJ _ _ (Ne.symm hk),wG]
  ·rename_i p;rw [p] at ho;cases ho
 ·rw [if_neg ho,Nz (by simpa using ho),gJ _ _ (Ne.symm hk)]
theorem aer {d k:Nat} {e:EV} (he:e.owns=true) {x:AV} (hx:x≠.u) (h:lk (put env d e) k=some (.v x)):lk env k=some (.v x):=by
 have hk:k≠d:=fun hk=>by subst hk;rw [xM] at h;cases h;cases he
 rw [aak hk] at h
 split at h
 ·cases hl:lk env k with
  | none=>rw [hl] at h;cases h
  | some y=>
   rw [hl] at h;simp only [Option.map_some,Option.some.injEq] at h
   split at h
   ·cases h;exact absurd rfl hx
   ·rw [h]
 ·exact h
section
variable {d:Nat} {v:AV} (hd:lk env d=none)
include hd
end
theorem alj {o p:aI} (x:agh o p=true) {env1 env2:Env} {s1 s2:St} (h1:iw glob call cx o env s=.norm env1 s1) (h2:iw glob call cx p env1 s1=.norm env2 s2):
  s1=s∧s2=s∧∃f1 f2,iw glob call cx p env s=.norm f1 s∧iw glob call cx o f1 s=.norm f2 s∧EqE f2 env2:=absurd x Bool.false_ne_true
theorem DK {o:aI} (hq:o.op.quiet.isSome=true) {env1:Env} {s1:St} (h:iw glob call cx o env s=.norm env1 s1):s1=s:=by
 rw [gB hq] at h;exact (jY.1 h).1
theorem acy {o:aI} (hq:o.op.quiet.isSome=true) (he:EqE env env2) {env1:Env} {s1:St} (h:iw glob call cx o env s=.norm env1 s1):∃env3,iw glob call cx o env2 s=.norm env3 s∧EqE env1 env3:=by
 have hs:=DK hq h;subst hs;rw [gB hq] at h ⊢;exact aei he h
def Keeps (s1 s:St):Prop:=(∀(l:Nat) cs,s1[l]?=some (gq.cells cs)→s[l]?=some (gq.cells cs))∧(∀(l:Nat) es,s1[l]?=some (gq.map es)→s[l]?=some (gq.map es))∧∀(l:Nat) t sz ver cs,s1[l]?=some (gq.buf t sz ver cs)→s[l]?=some (gq.buf t sz ver cs)
theorem Ry {o o':gq} {l:Nat} (p:o'≠o) (h:(s++[o])[l]?=some o'):s[l]?=some o':=by
 by_cases hl:l<s.length
 ·rwa [List.getElem?_append_left hl] at h
 ·rw [List.getElem?_append_right (by omega)] at h
  cases hx:l - s.length with
  | zero=>rw [hx] at h;simp at h;exact absurd h.symm p
  | succ k=>rw [hx] at h;simp at h
theorem Wx {o o':gq} {l k:Nat} (hl:l<s.length) (p:o'≠o) (h:(s.set l o)[k]?=some o'):s[k]?=some o':=by
 by_cases hk:l=k
 ·subst hk;rw [List.getElem?_set_self hl] at h;simp at h;exact absurd h.symm p
 ·rwa [List.getElem?_set_ne hk] at h
theorem Keeps.push {t sz n:Nat}:Keeps (s++[.row t sz n]) s:=
 ⟨fun _ _ h=>Ry (by simp) h,fun _ _ h=>Ry (by simp) h,fun _ _ _ _ _ h=>Ry (by simp) h⟩
theorem Keeps.set {l t sz n:Nat} (hl:l<s.length):Keeps (s.set l (.row t sz n)) s:=
 ⟨fun _ _ h=>Wx hl (by simp) h,fun _ _ h=>Wx hl (by simp) h,fun _ _ _ _ _ h=>Wx hl (by simp) h⟩
theorem O0 {s1:St} (hk:Keeps s1 s) {n:Option Nat} {x:IX} {v:AV} (h:kV glob env s1 n x=some v):kV glob env s n x=some v:=by
 unfold kV at h ⊢
 split at h
 ·exact h
 ·exact h
 ·exact h
 ·exact h
 ·split at h
  ·rename_i cs hl;rw [hk.1 _ cs hl];exact h
  ·cases h
 ·split at h
  ·rename_i hl;rw [hk.2.2 _ _ _ _ _ hl];exact h
  ·cases h
 ·cases h
theorem ahG {s1:St} (hk:Keeps s1 s) {op:AOp} (hc:op.calm=true) (hq:op.quiet.isSome=true) {O cx2:Ctx} {e:EV} {env1:Env} {s2:St} (K:okQ glob env op=true) (h:aop glob call O env s1 op=.ok e env1 s2):aop glob call cx2 env s op=.ok e env1 s:=by
 cases op<;>first | (cases hc;done)|skip
 case mov x=>
  simp only [okQ,AOp.quiet,List.all_cons,List.all_nil,Bool.and_true] at K;rw [QL K] at h ⊢
  cases hm:LH glob env x with
  | none=>rw [hm] at h;cases h
  | some e1=>rw [hm] at h;cases h;rfl
 case load n x=>
  simp only [aop] at h ⊢;obtain ⟨r,hr,rfl,rfl,_⟩:=yX h;rw [O0 hk hr];rfl
 case loadp d n x=>
  simp only [aop] at h ⊢
  split at h
  ·obtain ⟨r,hr,rfl,rfl,_⟩:=yX h;rw [O0 hk hr];rfl
  ·cases h
 case look kk z ok m k=>
  simp only [aop] at h ⊢
  cases hkv:rd glob env k with
  | none=>rw [hkv] at h;cases h
  | some key=>
   rw [hkv] at h;simp only [] at h ⊢
   cases hm:rd glob env m with
   | none=>
    rw [hm] at h
    split at h
    ·cases h
    ·simp at h
   | some mv=>
    rw [hm] at h
    have I:∀r:Option AV,(match mv with | .im es=>find kk key es | .nm=>if uN kk key then some none else none | .mp l=>(match s1[l]? with|some (.map es)=>find kk key es | _=>none) | _=>none)=some r→
      (match mv with | .im es=>find kk key es | .nm=>if uN kk key then some none else none | .mp l=>(match s[l]? with|some (.map es)=>find kk key es | _=>none) | _=>none)=some r:=by
     intro r hr
     cases mv<;>first|exact hr|skip
     simp only [] at hr ⊢
     split at hr
     ·rename_i es hl;rw [hk.2.1 _ es hl];exact hr
     ·cases hr
    by_cases h3k:3≤kk∧uN kk key=false
    ·rw [if_pos h3k] at h;cases h
    rw [if_neg h3k] at h;rw [if_neg h3k]
    split at h
    ·rename_i r hr
     have:=I r (by cases mv<;>exact hr)
     split
     ·rename_i r' A
      have e1:r=r':=Option.some.inj (this.symm.trans (by cases mv<;>exact A))
      subst e1
      split at h
      ·rename_i p;cases h;simp [p]
      ·rename_i p;cases h;simp [p]
     ·rename_i A;exfalso
      have h3:=this.symm.trans (by cases mv<;>exact A)
      cases h3
    ·cases h
 case len k x=>
  match k with
  | 0=>
   simp only [aop] at h ⊢
   split at h
   ·cases h;rfl
   ·split at h
    ·cases h;rfl
    ·cases h
  | 1=>
   simp only [aop] at h ⊢
   split at h
   ·cases h;rfl
   ·cases h
  | 2=>cases hc
  | k+3=>cases hc
 case bsl own t sz len zs ps=>
  cases own with
  | true=>cases hc
  | false=>
   simp only [aop] at h ⊢
   split at h
   ·rename_i vs env1 he;simp only [Bool.false_eq_true,if_false] at h ⊢
    split at h
    ·rename_i J;cases h;rw [if_pos J]
    ·cases h
   ·cases h
 all_goals
  simp only [aop,okv] at h ⊢
  ((repeat' split at h)<;>first | (cases h;done) | (cases h;simp [*];done))
theorem PO {o p:aI} (h:Uh o p=true):(∃d t sz x y,o=⟨some d,none,.apprp d t sz x y⟩∧(∀dp,p.dst=some dp→dp ∉ x.slots∧dp ∉ y.slots∧dp≠d)∧agw (fun k=>k=d) p)∧p.op.calm=true∧p.op.quiet.isSome=true:=by
 obtain ⟨od,og,I⟩:=o;simp only [Uh,Bool.and_eq_true,Option.isNone_iff_eq_none] at h;obtain ⟨⟨⟨⟨⟨h1,h2⟩,h3⟩,h4⟩,h5⟩,h6⟩:=h;refine ⟨?_,h3,h4⟩;subst h2
 cases I<;>first | (cases od<;>cases h1;done)|skip
 rename_i d t sz x y
 cases od with
 | none=>cases h1
 | some d'=>
  simp only [Bool.and_eq_true,beq_iff_eq] at h1;obtain ⟨rfl,h1⟩:=h1;refine ⟨d,t,sz,x,y,rfl,fun dp J=>?_,fun k hk A=>?_⟩
  ·rw [J] at h1 h6;simp [xJ] at h1 h6;exact ⟨fun hm=>h1.1 dp hm rfl,fun hm=>h1.2 dp hm rfl,fun h=>h6 h.symm⟩
  ·subst A;simp [xJ] at h5;exact h5 k hk rfl
theorem X5 {d t sz:Nat} {x y:IX} {env1:Env} {s1:St} (h:fK glob call cx ⟨some d,none,.apprp d t sz x y⟩ env s=.norm env1 s1):
  ∃v,lk env d=none∧env1=(d,.v v)::env∧Keeps s1 s∧(∀env2,lk env2 d=none→(∀ys,elems glob env y=some ys→elems glob env2 y=some ys)→ev glob env2 x=ev glob env x→fK glob call cx ⟨some d,none,.apprp d t sz x y⟩ env2 s=.norm ((d,.v v)::env2) s1):=by
 simp only [fK,gW,aop] at h ⊢
 cases hd:lk env d with
 | some z=>rw [hd] at h;cases h
 | none=>
  rw [hd] at h;simp only [] at h;have p:∀(env2:Env) e,lk env2 d=none→put env2 d e=(d,e)::env2:=fun env2 e h2=>by unfold put;rw [h2]
  cases hy:elems glob env y with
  | none=>rw [hy] at h;cases h
  | some ys=>
   rw [hy] at h
   cases hx:ev glob env x with
   | none=>rw [hx] at h;cases h
   | some z=>
    rw [hx] at h
    cases z<;>first | (cases h;done)|skip
    rename_i a
    cases a<;>first | (cases h;done)|skip
    ·by_cases hc:0<sz∧0<ys.length∧(ys.all fun e=>e.cells.length == sz)=true∧ys.length≤aS
     ·simp only [if_pos hc,EV.refers,Bool.false_eq_true,if_false,Out.norm.injEq] at h;obtain ⟨rfl,rfl⟩:=h;refine ⟨_,rfl,p env _ hd,Keeps.push,fun env2 h2 I A=>?_⟩;rw [h2,I ys rfl,A];simp only [if_pos hc,EV.refers,Bool.false_eq_true,if_false,p env2 _ h2]
     ·simp only [if_neg hc] at h;by_cases h0:ys.length=0
      ·simp only [if_pos h0,EV.refers,Bool.false_eq_true,if_false,Out.norm.injEq] at h;obtain ⟨rfl,rfl⟩:=h;refine ⟨_,rfl,p env _ hd,⟨fun _ _ h=>h,fun _ _ h=>h,fun _ _ _ _ _ h=>h⟩,fun env2 h2 I A=>?_⟩;rw [h2,I ys rfl,A];simp only [if_neg hc,if_pos h0,EV.refers,Bool.false_eq_true,if_false,p env2 _ h2]
      ·simp only [if_neg h0] at h;cases h
    ·rename_i l es;simp only [] at h
     cases hl:s[l]? with
     | none=>simp only [hl] at h;cases h
     | some ob=>
      simp only [hl] at h
      cases ob<;>first | (cases h;done)|skip
      rename_i t' sz' k;by_cases hc:t=t'∧sz=sz'∧k=es.length∧0<sz∧0<ys.length∧(ys.all fun e=>e.cells.length == sz)=true∧(es.all fun e=>e.cells.length == sz)=true∧es.length+ys.length≤aS∧cx.lim≤l
      ·simp only [if_pos hc,EV.refers,Bool.false_eq_true,if_false,Out.norm.injEq] at h;obtain ⟨rfl,rfl⟩:=h;refine ⟨_,rfl,p env _ hd,Keeps.set (List.getElem?_eq_some_iff.1 hl).1,fun env2 h2 I A=>?_⟩;rw [h2,I ys rfl,A];simp only [hl,if_pos hc,EV.refers,Bool.false_eq_true,if_false,p env2 _ h2]
      ·simp only [if_neg hc] at h;by_cases h0:ys.length=0
       ·simp only [if_pos h0,EV.refers,Bool.false_eq_true,if_false,Out.norm.injEq] at h;obtain ⟨rfl,rfl⟩:=h;refine ⟨_,rfl,p env _ hd,⟨fun _ _ h=>h,fun _ _ h=>h,fun _ _ _ _ _ h=>h⟩,fun env2 h2 I A=>?_⟩;rw [h2,I ys rfl,A];simp only [hl,if_neg hc,if_pos h0,EV.refers,Bool.false_eq_true,if_false,p env2 _ h2]
       ·simp only [if_neg h0] at h;cases h
    ·by_cases hc:0<sz∧0<ys.length∧(ys.all fun e=>e.cells.length == sz)=true∧ys.length≤aS
     ·simp only [if_pos hc,EV.refers,Bool.false_eq_true,if_false,Out.norm.injEq] at h;obtain ⟨rfl,rfl⟩:=h;refine ⟨_,rfl,p env _ hd,Keeps.push,fun env2 h2 I A=>?_⟩;rw [h2,I ys rfl,A];simp only [if_pos hc,EV.refers,Bool.false_eq_true,if_false,p env2 _ h2]
     ·simp only [if_neg hc] at h;by_cases h0:ys.length=0
      ·simp only [if_pos h0,EV.refers,Bool.false_eq_true,if_false,Out.norm.injEq] at h;obtain ⟨rfl,rfl⟩:=h;refine ⟨_,rfl,p env _ hd,⟨fun _ _ h=>h,fun _ _ h=>h,fun _ _ _ _ _ h=>h⟩,fun env2 h2 I A=>?_⟩;rw [h2,I ys rfl,A];simp only [if_neg hc,if_pos h0,EV.refers,Bool.false_eq_true,if_false,p env2 _ h2]
      ·simp only [if_neg h0] at h;cases h
theorem ZY {s1:St} (hk:Keeps s1 s) {p:aI} (hc:p.op.calm=true) (hq:p.op.quiet.isSome=true) {e:EV} (h:xW glob call p env s1=some e):xW glob call p env s=some e:=by
 unfold xW at h ⊢
 split at h
 ·cases h
 ·exact h
 ·split at h
  ·rename_i A;rw [if_pos A]
   split at h
   ·rename_i e1 env1 s2 ha;rw [ahG (cx2:=⟨s.length,s.length⟩) hk hc hq A ha]
    split at h
    ·rename_i x;cases h;simp [x.2]
    ·cases h
   ·cases h
  ·cases h
theorem ali {o p:aI} (a2:Uh o p=true) {env1 env2:Env} {s1 s2:St} (h1:iw glob call cx o env s=.norm env1 s1) (h2:iw glob call cx p env1 s1=.norm env2 s2):
  s2=s1∧∃f1 f2,iw glob call cx p env s=.norm f1 s∧iw glob call cx o f1 s=.norm f2 s1∧EqE f2 env2:=by
 obtain ⟨⟨d,t,sz,x,y,rfl,I,W⟩,hcalm,hq⟩:=PO a2;have J:(AOp.apprp d t sz x y).quiet.isSome=false:=rfl;rw [jV J] at h1;rw [gB hq] at h2;obtain ⟨v,Z,rfl,hk,Y⟩:=X5 h1;obtain ⟨rfl,e,a1,P,rfl⟩:=jY.1 h2
 have S:Agr (fun k=>k=d) ((d,.v v)::env) env:=by
  refine ⟨fun k A=>gJ _ _ (fun h=>A h.symm),fun k e' A hl ho=>?_⟩;subst A;rw [kY] at hl;cases hl;cases ho
 have O:xW glob call p env s=some e:=ZY hk hcalm hq (Bj S W a1)
 have K:okD env p.dst e:=fun dp R=>⟨(P dp R).1,by
  have:=(P dp R).2
  unfold sD at this ⊢
  rwa [gJ _ _ (fun h=>(I dp R).2.2 h.symm)] at this⟩
 refine ⟨rfl,wu env p.dst e,(d,.v v)::wu env p.dst e,by rw [gB hq];exact jY.2 ⟨rfl,e,O,K,rfl⟩, ?_,fun k=>?_⟩
 ·rw [jV J];have Q:=ab1 (Vk O) K;refine Y _ ?_ ?_ ?_
  ·rw [dZ (fun h=>(I d h).2.2 rfl)];exact Z
  ·exact fun ys a0=>VR (Zx K) (fun k hk hd=>(I k hd).2.1 hk) a0
  ·exact yA Q (fun k hk hd=>(I k hd).1 hk)
 ·by_cases A:k=d
  ·subst A;rw [kY,dZ (fun h=>(I k h).2.2 rfl),kY]
  ·rw [gJ _ _ (Ne.symm A)]
   cases hp:p.dst with
   | none=>show lk env k=lk ((d,.v v)::env) k;rw [gJ _ _ (Ne.symm A)]
   | some dp=>
    show lk ((dp,e)::env) k=lk ((dp,e)::(d,.v v)::env) k;by_cases hkp:dp=k
    ·subst hkp;rw [kY,kY]
    ·rw [gJ _ _ hkp,gJ _ _ hkp,gJ _ _ (Ne.symm A)]
theorem vk {op:AOp} (h:op.free=true):op.quiet.isSome=true:=by cases op<;>first|rfl | (cases h;done)
theorem AO {op:AOp} (h:∀(cx:Ctx) (s:St),aop glob call cx env s op=match (match aop glob call ⟨0,0⟩ env [] op with | .ok e env1 _=>some (e,env1) | _=>none) with|some (e,env1)=>RO.ok e env1 s|none=>.fail):
  ∀(cx:Ctx) (s:St),aop glob call cx env s op=match (match aop glob call ⟨0,0⟩ env [] op with | .ok e env1 _=>some (e,env1) | _=>none) with|some (e,env1)=>RO.ok e env1 s|none=>.fail:=h
theorem agk {op:AOp} (ho:op.free=true) (p:okQ glob env op=true):∃r:Option (EV×Env),∀(cx:Ctx) (s:St),aop glob call cx env s op=match r with|some (e,env1)=>.ok e env1 s|none=>.fail:=by
 cases op<;>(try (cases ho;done))
 case mov x=>
  simp only [okQ,AOp.quiet,List.all_cons,List.all_nil,Bool.and_true] at p;refine ⟨(LH glob env x).map fun e=>(e,env),fun cx s=>?_⟩;rw [QL p]
  cases LH glob env x<;>rfl
 case ext x i=>
  refine ⟨_,fun cx s=>AO ?_ cx s⟩;intro cx s;simp only [aop,okv]
  (repeat' split)<;>first|rfl | (simp_all;done)
 case idxa len sz x i=>
  refine ⟨_,fun cx s=>AO ?_ cx s⟩;intro cx s;simp only [aop,okv]
  (repeat' split)<;>first|rfl | (simp_all;done)
 case fld off x=>
  refine ⟨_,fun cx s=>AO ?_ cx s⟩;intro cx s;simp only [aop,okv]
  (repeat' split)<;>first|rfl | (simp_all;done)
 case bin bop x y=>
  refine ⟨_,fun cx s=>AO ?_ cx s⟩;intro cx s;simp only [aop,okv]
  (repeat' split)<;>first|rfl | (simp_all;done)
 case build zs ps=>
  refine ⟨_,fun cx s=>AO ?_ cx s⟩;intro cx s;simp only [aop,okv]
  (repeat' split)<;>first|rfl | (simp_all;done)
 case idx sz x i=>
  refine ⟨_,fun cx s=>AO ?_ cx s⟩;intro cx s;simp only [aop,okv]
  (repeat' split)<;>first|rfl | (simp_all;done)
 case slc sz x lo hi=>
  refine ⟨_,fun cx s=>AO ?_ cx s⟩;intro cx s;simp only [aop,okv]
  (repeat' split)<;>first|rfl | (simp_all;done)
 case nilchk x=>
  refine ⟨_,fun cx s=>AO ?_ cx s⟩;intro cx s;simp only [aop,okv]
  (repeat' split)<;>first|rfl | (simp_all;done)
 case b2s x=>
  refine ⟨_,fun cx s=>AO ?_ cx s⟩;intro cx s;simp only [aop,okv]
  (repeat' split)<;>first|rfl | (simp_all;done)
 case loadl n x=>
  cases hx:ev glob env x with
  | none=>exact ⟨none,fun cx s=>by simp only [aop,hx]⟩
  | some y=>
   have good:(∀s s',kV glob env s n x=kV glob env s' n x)→(∀cx s,aop glob call cx env s (.loadl n x)=okv env s (kV glob env s n x))→∃r:Option (EV×Env),∀(cx:Ctx) (s:St),aop glob call cx env s (.loadl n x)=match r with|some (e,env1)=>.ok e env1 s|none=>.fail:=by
    intro k1 k2;refine ⟨(kV glob env [] n x).map fun v=>(.v v,env),fun cx s=>?_⟩;rw [k2,k1 s []]
    cases kV glob env [] n x<;>rfl
   cases y with
   | bx cs=>exact good (fun s s'=>by unfold kV;rw [hx]) (fun cx s=>by simp only [aop,hx])
   | lp k o=>exact good (fun s s'=>by unfold kV;rw [hx]) (fun cx s=>by simp only [aop,hx])
   | v a=>
    cases a with
    | ip cs=>exact good (fun s s'=>by unfold kV;rw [hx]) (fun cx s=>by simp only [aop,hx])
    | _=>exact ⟨none,fun cx s=>by simp only [aop,hx]⟩
   | _=>exact ⟨none,fun cx s=>by simp only [aop,hx]⟩
theorem H8 {o:aI} (ho:o.op.free=true) (s s':St):xW glob call o env s=xW glob call o env s':=by
 unfold xW;split
 ·rfl
 ·rfl
 ·split
  ·rename_i p;obtain ⟨r,hr⟩:=agk (call:=call) ho p;rw [hr,hr]
   cases r<;>simp
  ·rfl
theorem BX {od:Option Nat} {op:AOp} {l:List Nat} (hl:op.heapy=some l) (hd:Y0 op od=true) {env1:Env} {s1:St}
  (h:fK glob call cx ⟨od,none,op⟩ env s=.norm env1 s1):
  ∃e,env1=wu env od e∧e.owns=false∧(∀d,od=some d→lk env d=none)∧∀env2,(∀k∈l,lk env2 k=lk env k)→(∀d,od=some d→lk env2 d=none)→fK glob call cx ⟨od,none,op⟩ env2 s=.norm (wu env2 od e) s1:=by
 have I:∀(x:IX) (env2:Env),(∀k∈x.slots,lk env2 k=lk env k)→ev glob env2 x=ev glob env x:=by
  intro x env2 hx
  cases x with
  | t k=>exact hx k (by simp [IX.slots])
  | c a=>rfl
  | g k=>rfl
 cases op with
 | umap d=>
  cases od with
  | none=>cases hd
  | some d'=>
   have O:d=d':=by simpa [Y0] using hd
   subst O;simp only [fK,gW,aop] at h ⊢
   cases hk:lk env d with
   | some e=>rw [hk] at h;cases h
   | none=>
    rw [hk] at h;simp only [EV.refers,Bool.false_eq_true,if_false,Out.norm.injEq] at h;obtain ⟨rfl,rfl⟩:=h;have J:∀(env2:Env) e,lk env2 d=none→put env2 d e=(d,e)::env2:=fun env2 e h2=>by unfold put;rw [h2]
    refine ⟨.v (.mp s.length),by rw [J env _ hk];rfl,rfl,(fun _ h=>by cases h;exact hk),fun env2 _ h2=>?_⟩;rw [h2 d rfl];simp only [EV.refers,Bool.false_eq_true,if_false,J env2 _ (h2 d rfl)];rfl
 | uins m k v=>
  simp only [AOp.heapy,Option.some.injEq] at hl
  cases od with
  | some d=>cases hd
  | none=>
   subst hl;simp only [fK,gW] at h
   cases ha:aop glob call cx env s (.uins m k v) with
   | fail=>rw [ha] at h;cases h
   | pan _ _=>rw [ha] at h;cases h
   | ok e env' s'=>
    rw [ha] at h;simp only [Out.norm.injEq] at h;obtain ⟨rfl,rfl⟩:=h
    have p:env'=env:=by
     simp only [aop] at ha
     (repeat' split at ha)<;>first | (cases ha;done) | (cases ha;rfl)
    subst p;refine ⟨.v .u,rfl,rfl,(fun _ h=>by cases h),fun env2 h1 _=>?_⟩
    have:aop glob call cx env2 s (.uins m k v)=.ok e env2 s':=by
     simp only [aop] at ha ⊢;rw [I m env2 (fun j hj=>h1 j (by simp [hj])),I k env2 (fun j hj=>h1 j (by simp [hj])),I v env2 (fun j hj=>h1 j (by simp [hj]))]
     (repeat' split at ha)<;>first | (cases ha;done) | (cases ha;simp [*];done)
    simp only [fK,gW,this];rfl
 | storep n x y=>
  simp only [AOp.heapy,Option.some.injEq] at hl
  cases od with
  | some d=>cases hd
  | none=>
   subst hl;simp only [fK,gW] at h
   cases ha:aop glob call cx env s (.storep n x y) with
   | fail=>rw [ha] at h;cases h
   | pan _ _=>rw [ha] at h;cases h
   | ok e env' s'=>
    rw [ha] at h;simp only [Out.norm.injEq] at h;obtain ⟨rfl,rfl⟩:=h
    have p:env'=env:=by
     simp only [aop] at ha
     (repeat' split at ha)<;>first | (cases ha;done) | (cases ha;rfl)
    subst p;refine ⟨.v .u,rfl,rfl,(fun _ h=>by cases h),fun env2 h1 _=>?_⟩;have ex:=I x env2 (fun j hj=>h1 j (by simp [hj]));have ey:=I y env2 (fun j hj=>h1 j (by simp [hj]))
    have:aop glob call cx env2 s (.storep n x y)=.ok e env2 s':=by
     simp only [aop] at ha ⊢;rw [ex,ey]
     split at ha
     ·rename_i av xv hx hy
      have K:∀A:Env,ev glob A x=some (.v av)→(uo glob cx A s n x xv).map (·.2)=(uo glob cx env' s n x xv).map (·.2):=by
       intro A h3;unfold uo;rw [h3,hx];by_cases hc:xv.cells.length=n∧n≠0∧(xv.cells.all AV.one)=true
       ·rw [if_pos hc,if_pos hc]
        cases av<;>first|rfl | (simp only [];(repeat' split)<;>first|rfl | (simp_all;done))
       ·rw [if_neg hc,if_neg hc]
      have h4:=K env2 (ex.trans hx)
      split at ha
      ·rename_i q s1 hq;cases ha;rw [hq] at h4
       cases hq2:uo glob cx env2 s n x xv with
       | none=>rw [hq2] at h4;cases h4
       | some r=>
        rw [hq2] at h4;simp at h4;simp [h4]
      ·cases ha
     ·cases ha
    simp only [fK,gW,this];rfl
 | _=>simp [AOp.heapy] at hl
theorem xw {op:AOp} {l:List Nat} (h:op.heapy=some l):op.quiet.isSome=false:=by cases op<;>first|rfl | (simp [AOp.heapy] at h;done)
theorem aln {o p:aI} (S:Uj o p=true) {env1 env2:Env} {s1 s2:St} (h1:iw glob call cx o env s=.norm env1 s1) (h2:iw glob call cx p env1 s1=.norm env2 s2):
  s2=s1∧∃f1 f2,iw glob call cx p env s=.norm f1 s∧iw glob call cx o f1 s=.norm f2 s1∧EqE f2 env2:=by
 obtain ⟨od,og,W⟩:=o;simp only [Uj,Bool.and_eq_true,Option.isNone_iff_eq_none] at S;obtain ⟨⟨⟨⟨⟨a1,a2⟩,a3⟩,a4⟩,a5⟩,a6⟩:=S;subst a3
 cases hl:W.heapy with
 | none=>rw [hl] at a1;cases a1
 | some l=>
 rw [hl] at a1;simp only [] at a1;have hq:p.op.quiet.isSome=true:=vk a4;rw [jV (xw hl)] at h1;rw [gB hq] at h2;obtain ⟨eo,rfl,J,I,O⟩:=BX hl a2 h1;obtain ⟨rfl,e,R,x,rfl⟩:=jY.1 h2
 have A:∀d,od=some d→p.dst≠some d:=by
  intro d hd hp;subst hd;rw [hp] at a6;simp at a6
 have P:xW glob call p env s=some e:=by rw [H8 a4 s s2];exact Bj (Zw J) (JO a5) R
 have Q:okD env p.dst e:=fun dp K=>⟨(x dp K).1,by
  have:=(x dp K).2
  unfold sD at this ⊢
  rwa [dZ (fun h=>A dp h K)] at this⟩
 refine ⟨rfl,wu env p.dst e,wu (wu env p.dst e) od eo,by rw [gB hq];exact jY.2 ⟨rfl,e,P,Q,rfl⟩, ?_,NC A⟩;rw [jV (xw hl)];refine O _ (fun k hk=>dZ (fun hp=>?_)) (fun d hd=>?_)
 ·rw [hp] at a1;simp [xJ] at a1;exact a1 k hk rfl
 ·rw [dZ (A d hd)];exact I d hd
theorem alg {o p:aI} (x:agd o p=true) {env1 env2:Env} {s1 s2:St} (h1:iw glob call cx o env s=.norm env1 s1) (h2:iw glob call cx p env1 s1=.norm env2 s2):
  ∃f1 t1 f2,iw glob call cx p env s=.norm f1 t1∧iw glob call cx o f1 t1=.norm f2 s2∧EqE f2 env2:=absurd x Bool.false_ne_true
theorem O1 {d:Nat} {zs:List AV} {env1:Env} {s1:St}:iw glob call cx ⟨some d,none,.lallocp d zs⟩ env s=.norm env1 s1 ↔ lk env d=none∧env1=(d,.bx zs)::env∧s1=s:=by
 have hl:(AOp.lallocp d zs).quiet.isSome=false:=rfl;rw [jV hl];simp only [fK,gW,aop]
 cases hk:lk env d with
 | some e=>simp
 | none=>
  have p:put env d (.bx zs)=(d,.bx zs)::env:=by unfold put;rw [hk]
  simp only [EV.refers,Bool.false_eq_true,if_false,p,Out.norm.injEq,true_and];exact ⟨fun h=>⟨h.1.symm,h.2.symm⟩,fun h=>⟨h.1.symm,h.2.symm⟩⟩
theorem alk {o p:aI} (x:agi o p=true) {env1 env2:Env} {s1 s2:St} (h1:iw glob call cx o env s=.norm env1 s1) (h2:iw glob call cx p env1 s1=.norm env2 s2):
  ∃f1 t1 f2,iw glob call cx p env s=.norm f1 t1∧iw glob call cx o f1 t1=.norm f2 s2∧EqE f2 env2:=absurd x Bool.false_ne_true
theorem alm {o p:aI} (K:Ui o p=true) {env1 env2:Env} {s1 s2:St} (h1:iw glob call cx o env s=.norm env1 s1) (h2:iw glob call cx p env1 s1=.norm env2 s2):
  ∃f1 t1 f2,iw glob call cx p env s=.norm f1 t1∧iw glob call cx o f1 t1=.norm f2 s2∧EqE f2 env2:=by
 obtain ⟨pd,pg,J⟩:=p;simp only [Ui,Bool.and_eq_true,Option.isNone_iff_eq_none] at K;obtain ⟨⟨⟨⟨a1,a2⟩,a3⟩,a4⟩,a5⟩:=K;subst a3 a4
 cases hl:J.heapy with
 | none=>rw [hl] at a2;cases a2
 | some l=>
 rw [hl] at a2;simp only [] at a2;have hq:=vk a1;rw [gB hq] at h1;rw [jV (xw hl)] at h2;obtain ⟨rfl,e,I,x,rfl⟩:=jY.1 h1;obtain ⟨eo,rfl,_,_,A⟩:=BX hl a5 h2;refine ⟨env,s2,wu env o.dst e, ?_, ?_,.refl _⟩
 ·rw [jV (xw hl)];refine A env (fun j hj=>(dZ (fun hd=>?_)).symm) (fun d hd=>by cases hd);rw [hd] at a2;simp only [xJ,List.all_eq_true,bne_iff_ne] at a2;exact a2 j hj rfl
 ·rw [gB hq];exact jY.2 ⟨rfl,e,by rw [H8 a1 s2 s1];exact I,x,rfl⟩
theorem agb {l:Nat}:∀{bs:List Nat} {b:Nat},MZ env l bs=true→b∈bs→∃l' o',lk env b=some (.v (.pt l' o'))∧l'≠l:=by
 intro bs b h hb
 have:=List.all_eq_true.1 h b hb
 split at this
 ·rename_i l' o' hl;exact ⟨l',o',hl,by simpa using this⟩
 ·cases this
theorem acf {n b:Nat} {x:IX} {lb ob:Nat} (hb:lk env b=some (.v (.pt lb ob))) {env1:Env} {s1:St} (h:fK glob call cx ⟨none,none,.storep n (.t b) x⟩ env s=.norm env1 s1):∀l,lb≠l→s1[l]?=s[l]?:=by
 intro l hl;have p:ev glob env (.t b)=some (.v (.pt lb ob)):=hb;simp only [fK,gW,aop,p] at h
 cases hx:ev glob env x with
 | none=>rw [hx] at h;cases h
 | some y=>
  rw [hx] at h
  cases y with
  | v xv=>
   simp only [] at h
   cases hst:uo glob cx env s n (.t b) xv with
   | none=>rw [hst] at h;cases h
   | some r=>
    obtain ⟨A,s'⟩:=r;rw [hst] at h;simp only [Out.norm.injEq] at h;obtain ⟨_,rfl⟩:=h;unfold uo at hst;rw [p] at hst
    split at hst
    ·simp only [] at hst
     split at hst
     ·split at hst
      ·cases hst;exact List.getElem?_set_ne hl
      ·cases hst
     ·cases hst
    ·cases hst
  | _=>cases h
theorem ale {o p:aI} (Q:Ug o p=true) {env1 env2:Env} {s1 s2:St} (h1:iw glob call cx o env s=.norm env1 s1) (h2:iw glob call cx p env1 s1=.norm env2 s2):
  ∃f1 t1 f2,iw glob call cx p env s=.norm f1 t1∧iw glob call cx o f1 t1=.norm f2 s2∧EqE f2 env2:=by
 obtain ⟨pd,pg,Y⟩:=p;simp only [Ug,Bool.and_eq_true,Option.isNone_iff_eq_none] at Q;obtain ⟨⟨⟨a1,a2⟩,a3⟩,a4⟩:=Q;subst a3 a4
 split at a1
 case h_2=>cases a1
 rename_i n a bs m b x ho;simp only [Bool.and_eq_true,List.contains_eq_mem,decide_eq_true_eq] at a1;obtain ⟨hb,I⟩:=a1;have hq:o.op.quiet.isSome=true:=by rw [ho];rfl
 have hl:(AOp.storep m (.t b) x).heapy=some (IX.slots (.t b)++x.slots):=rfl;rw [gB hq] at h1;rw [jV (xw hl)] at h2;obtain ⟨rfl,e,A,J,rfl⟩:=jY.1 h1
 have O:∀k∈b::x.slots,o.dst≠some k:=by
  intro k hk hd;rw [hd] at I;simp only [xJ,List.all_eq_true,bne_iff_ne] at I;exact I k hk rfl
 obtain ⟨eo,rfl,_,_,K⟩:=BX hl rfl h2;refine ⟨env,s2,wu env o.dst e, ?_, ?_,.refl _⟩
 ·rw [jV (xw hl)];refine K env (fun j hj=>(dZ (O j ?_)).symm) (fun d hd=>by cases hd)
  simpa [IX.slots] using hj
 ·rw [gB hq];refine jY.2 ⟨rfl,e, ?_,J,rfl⟩;unfold xW at A ⊢;rw [a2] at A ⊢;simp only [gW] at A ⊢
  split at A
  ·rename_i R;rw [if_pos R];rw [ho] at A ⊢;simp only [aop] at A ⊢
   cases hx:ev glob env a with
   | none=>rw [hx] at A;cases A
   | some y=>
    rw [hx] at A
    cases y with
    | v ya=>
     cases ya with
     | pt l o1=>
      dsimp only at A ⊢;by_cases haw:MZ env l bs=true
      ·rw [if_pos haw] at A ⊢;obtain ⟨lb,ob,W,P⟩:=agb haw hb;have hk:s2[l]?=s1[l]?:=acf (by rw [dZ (O b (by simp))];exact W) h2 l P
       have S:kV glob env s2 n a=kV glob env s1 n a:=by
        unfold kV;rw [hx];simp only [hk]
       rw [S];simp only [okv] at A ⊢
       cases hv:kV glob env s1 n a with
       | none=>rw [hv] at A;cases A
       | some v=>rw [hv] at A;simpa using A
      ·rw [if_neg haw] at A;cases A
     | _=>cases A
    | _=>cases A
  ·cases A
theorem QZ {n k:Nat} {x:IX} {env1:Env} {s1:St}:iw glob call cx ⟨none,none,.storel n k x⟩ env s=.norm env1 s1 ↔
  s1=s∧∃cs xv,lk env k=some (.bx cs)∧ev glob env x=some (.v xv)∧(xv.cells.length=n∧n≠0∧xv.cells.all AV.one=true∧n≤cs.length)∧env1=(k,.bx (splice cs 0 xv.cells))::env:=by
 have hl:(AOp.storel n k x).quiet.isSome=false:=rfl;rw [jV hl];simp only [fK,gW,aop];constructor
 ·intro h
  split at h
  ·cases h
  ·cases h
  ·rename_i e env2 s2 ha;cases h
   split at ha
   ·rename_i cs xv hk hx
    split at ha
    ·rename_i hc;cases ha;exact ⟨rfl,cs,xv,hk,hx,hc,rfl⟩
    ·cases ha
   ·cases ha
 ·rintro ⟨rfl,cs,xv,hk,hx,hc,rfl⟩;rw [hk,hx];simp only [if_pos hc]
theorem abf {x:IX} (h:∀j∈x.slots,lk env2 j=lk env j):ev glob env2 x=ev glob env x:=by
 cases x with
 | t k=>exact h k (by simp [IX.slots])
 | c a=>rfl
 | g k=>rfl
theorem alh {o p:aI} (x:agf o p=true) {env1 env2:Env} {s1 s2:St} (h1:iw glob call cx o env s=.norm env1 s1) (h2:iw glob call cx p env1 s1=.norm env2 s2):
  ∃f1 t1 f2,iw glob call cx p env s=.norm f1 t1∧iw glob call cx o f1 t1=.norm f2 s2∧EqE f2 env2:=absurd x Bool.false_ne_true
theorem Fb {o:aI} {d:Nat} {l:List Nat} (h:o.callS=some (d,l)):∃f as kk,o=⟨some d,none,.callh d f as kk⟩∧l=(f.slots++as.flatMap IX.slots)++(kk.map (·.1)).toList:=by
 unfold aI.callS at h
 split at h
 ·split at h
  ·rename_i hd;cases h;subst hd;exact ⟨_,_,_,rfl,rfl⟩
  ·cases h
 ·cases h
theorem VE {env2:Env} {s1 s2:St}:∀{kk:Option (Nat×Nat)},(∀k∈(kk.map (·.1)).toList,lk env2 k=lk env k)→yj env2 s1 s2 kk=yj env s1 s2 kk
 | none,_=>rfl
 | some (k,off),h=>by
  have h1:=h k (by simp);simp only [yj,h1]
theorem KY {env2:Env} {x:IX} (h:∀k∈x.slots,lk env2 k=lk env k):rd glob env2 x=rd glob env x:=by
 unfold rd;rw [abf (env2:=env2) (env:=env) h]
theorem KZ {env2:Env}:∀{as:List IX},(∀k∈as.flatMap IX.slots,lk env2 k=lk env k)→rds glob env2 as=rds glob env as
 | [],_=>rfl
 | x::r,h=>by
  unfold rds;rw [KY (env2:=env2) (env:=env) (fun k hk=>h k (by simp [hk])),KZ (as:=r) (fun k hk=>h k (by simp at hk ⊢;exact .inr hk))]
theorem Ho {d:Nat} {f:IX} {as:List IX} {kk:Option (Nat×Nat)} {x:Out} (h:fK glob call cx ⟨some d,none,.callh d f as kk⟩ env s=x) (ho:x≠.fail):
  lk env d=none∧∃fv vs,rd glob env f=some fv∧rds glob env as=some vs∧((∃r s1,(call fv vs s cx=.ret r s1∧yj env s s1 kk=true)∧x=.norm ((d,.v r)::env) s1)∨∃v s1,call fv vs s cx=.pan v s1∧x=.pan v s1):=by
 simp only [fK,gW,aop] at h
 cases hk:lk env d with
 | some e=>rw [hk] at h;exact absurd h.symm ho
 | none=>
  rw [hk] at h;simp only [] at h
  cases hf:rd glob env f with
  | none=>rw [hf] at h;exact absurd h.symm ho
  | some fv=>
   cases hv:rds glob env as with
   | none=>rw [hf,hv] at h;exact absurd h.symm ho
   | some vs=>
    rw [hf,hv] at h;simp only [] at h;refine ⟨rfl,fv,vs,rfl,rfl, ?_⟩
    cases hc:call fv vs s cx with
    | fail=>rw [hc] at h;exact absurd h.symm ho
    | pan v s1=>rw [hc] at h;exact .inr ⟨v,s1,rfl,h.symm⟩
    | ret r s1=>
     rw [hc] at h;have p:put env d (.v r)=(d,.v r)::env:=by unfold put;rw [hk]
     by_cases hkp:yj env s s1 kk=true
     ·simp only [hkp,if_true,EV.refers,Bool.false_eq_true,if_false,p] at h;exact .inl ⟨r,s1,⟨rfl,hkp⟩,h.symm⟩
     ·simp only [hkp,if_false,Bool.false_eq_true] at h;exact absurd h.symm ho
theorem Hq {d:Nat} {f:IX} {as:List IX} {kk:Option (Nat×Nat)} {fv:AV} {vs:List AV} (hk:lk env d=none) (hf:rd glob env f=some fv) (hv:rds glob env as=some vs):
  fK glob call cx ⟨some d,none,.callh d f as kk⟩ env s=match call fv vs s cx with
   | .ret r s1=>if yj env s s1 kk=true then .norm ((d,.v r)::env) s1 else .fail
   | .pan v s1=>.pan v s1
   | .fail=>.fail:=by
 have p:∀e,put env d e=(d,e)::env:=fun e=>by unfold put;rw [hk]
 simp only [fK,gW,aop,hk,hf,hv]
 cases call fv vs s cx with
 | ret r s1=>by_cases hkp:yj env s s1 kk=true<;>simp [EV.refers,p,hkp]
 | _=>simp [EV.refers,p]
theorem Bz {d:Nat} {f:IX} {as:List IX} {kk:Option (Nat×Nat)}:(AOp.callh d f as kk).quiet.isSome=false:=rfl
theorem Oo {o:aI} {d:Nat} {f:IX} {as:List IX} {kk:Option (Nat×Nat)} {e:EV} {fv:AV} {vs:List AV} (p:∀k∈d::((f.slots++as.flatMap IX.slots)++(kk.map (·.1)).toList),o.dst≠some k):
  lk (wu env o.dst e) d=lk env d∧rd glob (wu env o.dst e) f=rd glob env f∧rds glob (wu env o.dst e) as=rds glob env as∧∀s1 s2,yj (wu env o.dst e) s1 s2 kk=yj env s1 s2 kk:=
 ⟨dZ (p d (by simp)),KY (fun k hk=>dZ (p k (by simp [hk]))),
  KZ (fun k hk=>dZ (p k (List.mem_cons_of_mem _ (List.mem_append_left _ (List.mem_append_right _ hk))))),
  fun _ _=>VE (fun k hk=>dZ (p k (List.mem_cons_of_mem _ (List.mem_append_right _ hk))))⟩
theorem aid {o:aI} {d:Nat} {f:IX} {as:List IX} {kk:Option (Nat×Nat)} (hq:o.op.quiet.isSome=true) (S:∀k∈d::((f.slots++as.flatMap IX.slots)++(kk.map (·.1)).toList),o.dst≠some k) (a3:∀k∈o.reads,¬k=d)
  {env1 env2:Env} {s1 s2:St} (h1:iw glob call cx o env s=.norm env1 s1) (h2:iw glob call cx ⟨some d,none,.callh d f as kk⟩ env1 s1=.norm env2 s2)
  (O:yj env s s2 kk=true→∀e,xW glob call o env s=some e→xW glob call o env s2=some e):
  ∃f1 t1 f2,iw glob call cx ⟨some d,none,.callh d f as kk⟩ env s=.norm f1 t1∧iw glob call cx o f1 t1=.norm f2 s2∧EqE f2 env2:=by
 rw [gB hq] at h1;rw [jV Bz] at h2;obtain ⟨rfl,e,Q,A,rfl⟩:=jY.1 h1;obtain ⟨hn,fv,vs,hf,hv,I⟩:=Ho h2 (by simp);have K:o.dst≠some d:=S d (by simp);obtain ⟨g1,g2,g3,g4⟩:=Oo (glob:=glob) (env:=env) (e:=e) (fv:=fv) (vs:=vs) S;rw [g1] at hn;rw [g2] at hf;rw [g3] at hv;rcases I with ⟨r,t,⟨hc,hk⟩,p⟩|⟨_,_,_,p⟩
 ·cases p;rw [g4] at hk;refine ⟨(d,.v r)::env,s2,wu ((d,.v r)::env) o.dst e,by rw [jV Bz,Hq hn hf hv,hc];simp only [hk,if_true], ?_, ?_⟩
  ·rw [gB hq];have P:Agr (fun k=>k=d) env ((d,.v r)::env):=⟨fun k hk=>(gJ _ _ (Ne.symm hk)).symm,fun k e hk he _=>by subst hk;rw [hn] at he;cases he⟩;refine jY.2 ⟨rfl,e,Bj P (fun k hk R=>a3 k hk R) (O hk e Q),fun dp J=>⟨(A dp J).1, ?_⟩,rfl⟩
   have:=(A dp J).2
   unfold sD at this ⊢
   rwa [gJ _ _ (fun h=>K (by rw [J,h]))]
  ·exact NC (d1:=o.dst) (d2:=some d) (e1:=e) (e2:=.v r) (fun x hx hd=>K (by rw [hx,hd]))
 ·cases p
theorem CV {o p:aI} (h:(match p.callS with|some (d,l)=>xJ o.dst (d::l) && o.reads.all (fun j=>j != d)|none=>false)=true):
  ∃d f as kk,p=⟨some d,none,.callh d f as kk⟩∧(∀k∈d::((f.slots++as.flatMap IX.slots)++(kk.map (·.1)).toList),o.dst≠some k)∧∀k∈o.reads,¬k=d:=by
 cases hcs:p.callS with
 | none=>rw [hcs] at h;cases h
 | some q=>
  obtain ⟨d,l⟩:=q;rw [hcs] at h;simp only [Bool.and_eq_true,List.all_eq_true,bne_iff_ne,ne_eq] at h;obtain ⟨a2,a3⟩:=h;obtain ⟨f,as,kk,rfl,rfl⟩:=Fb hcs;refine ⟨d,f,as,kk,rfl,fun k hk hd=>?_,a3⟩;rw [hd] at a2;simp only [xJ,List.all_eq_true,bne_iff_ne] at a2;exact a2 k hk rfl
theorem alp {o p:aI} (x:zY o p=true) {env1 env2:Env} {s1 s2:St} (h1:iw glob call cx o env s=.norm env1 s1) (h2:iw glob call cx p env1 s1=.norm env2 s2):
  ∃f1 t1 f2,iw glob call cx p env s=.norm f1 t1∧iw glob call cx o f1 t1=.norm f2 s2∧EqE f2 env2:=by
 simp only [zY,Bool.and_eq_true] at x;obtain ⟨a1,a2⟩:=x;obtain ⟨d,f,as,kk,rfl,A,a3⟩:=CV a2;exact aid (vk a1) A a3 h1 h2 (fun _ e he=>by rw [H8 a1 s2 s];exact he)
theorem WY {o p:aI} (x:BI o p=true):∃a k off d f as,o.op=.loadv a k off∧o.guard=none∧p=⟨some d,none,.callh d f as (some (k,off))⟩∧
  (∀k'∈d::((f.slots++as.flatMap IX.slots)++((some (k,off)).map (·.1)).toList),o.dst≠some k')∧∀k'∈o.reads,¬k'=d:=by
 simp only [BI,Bool.and_eq_true,Option.isNone_iff_eq_none] at x;obtain ⟨⟨a1,a2⟩,a3⟩:=x;obtain ⟨d,f,as,kk,rfl,A,hr⟩:=CV a3
 split at a1
 ·rename_i a k off d' f' J k' I ho hp;injection hp with e1 e2 e3 e4;subst e4;simp only [Bool.and_eq_true,beq_iff_eq] at a1;obtain ⟨rfl,rfl⟩:=a1;exact ⟨a,k,off,d,f,as,ho,a2,rfl,A,hr⟩
 ·cases a1
theorem alf {o p:aI} (J:BI o p=true) {env1 env2:Env} {s1 s2:St} (h1:iw glob call cx o env s=.norm env1 s1) (h2:iw glob call cx p env1 s1=.norm env2 s2):
  ∃f1 t1 f2,iw glob call cx p env s=.norm f1 t1∧iw glob call cx o f1 t1=.norm f2 s2∧EqE f2 env2:=by
 obtain ⟨a,k,off,d,f,as,ho,hg,rfl,I,a3⟩:=WY J;refine aid (by rw [ho];rfl) I a3 h1 h2 (fun hk e he=>?_);unfold xW at he ⊢;rw [hg] at he ⊢;simp only [gW] at he ⊢
 split at he
 ·rename_i A;rw [if_pos A];rw [ho] at he ⊢;simp only [aop] at he ⊢;unfold yj at hk;dsimp only at hk
  cases hl:lk env k with
  | none=>rw [hl] at hk;cases hk
  | some x=>
   rw [hl] at hk he;revert hk he
   cases ev glob env a with
   | none=>intro he hk;cases he
   | some y=>
    cases y with
    | v ya=>
     cases ya with
     | pt l o1=>
      cases x with
      | v xa=>
       cases xa with
       | pt l' o'=>
        intro he hk;dsimp only at hk he ⊢;by_cases hlo:l=l'∧o1=o'+off
        ·rw [if_pos hlo] at he ⊢;obtain ⟨rfl,rfl⟩:=hlo
         cases hm:NR s l (o'+off) with
         | none=>rw [hm] at hk;cases hk
         | some m=>
          cases hm2:NR s2 l (o'+off) with
          | none=>rw [hm,hm2] at hk;cases hk
          | some m2=>
           rw [hm,hm2] at hk;simp only [beq_iff_eq] at hk;subst hk;rw [hm] at he
           simpa using he
        ·rw [if_neg hlo] at he;cases he
       | _=>intro he hk;cases he
      | _=>intro he hk;cases he
     | _=>intro he hk;cases he
    | _=>intro he hk;cases he
 ·cases he
theorem Vo {o:aI} {d:Nat} {f:IX} {as:List IX} {kk:Option (Nat×Nat)} (hq:o.op.quiet.isSome=true) (J:∀k∈d::((f.slots++as.flatMap IX.slots)++(kk.map (·.1)).toList),o.dst≠some k)
  {env1:Env} {s1:St} (h1:iw glob call cx o env s=.norm env1 s1) {v:AV} (h2:fK glob call cx ⟨some d,none,.callh d f as kk⟩ env1 s1=.pan v s'):s1=s∧fK glob call cx ⟨some d,none,.callh d f as kk⟩ env s=.pan v s':=by
 rw [gB hq] at h1;obtain ⟨rfl,e,I,A,rfl⟩:=jY.1 h1;obtain ⟨hn,fv,vs,hf,hv,x⟩:=Ho h2 (by simp);obtain ⟨g1,g2,g3,g4⟩:=Oo (glob:=glob) (env:=env) (e:=e) (fv:=fv) (vs:=vs) J;rw [g1] at hn;rw [g2] at hf;rw [g3] at hv;rcases x with ⟨_,_,_,p⟩|⟨v',t,hc,p⟩
 ·cases p
 ·cases p;exact ⟨rfl,by rw [Hq hn hf hv,hc]⟩
theorem acF {o p:aI} (x:zY o p=true∨BI o p=true) {env1:Env} {s1:St} (h1:iw glob call cx o env s=.norm env1 s1) {v:AV} (h2:fK glob call cx p env1 s1=.pan v s'):s1=s∧fK glob call cx p env s=.pan v s':=by
 rcases x with x|x
 ·simp only [zY,Bool.and_eq_true] at x;obtain ⟨a1,a2⟩:=x;obtain ⟨d,f,as,kk,rfl,A,_⟩:=CV a2;exact Vo (vk a1) A h1 h2
 ·obtain ⟨a,k,off,d,f,as,ho,hg,rfl,A,a3⟩:=WY x;exact Vo (by rw [ho];rfl) A h1 h2
theorem alo {o p:aI} (S:Uk o p=true) {env1 env2:Env} {s1 s2:St} (h1:iw glob call cx o env s=.norm env1 s1) (h2:iw glob call cx p env1 s1=.norm env2 s2):
  s2=s1∧∃f1 f2,iw glob call cx p env s=.norm f1 s∧iw glob call cx o f1 s=.norm f2 s1∧EqE f2 env2:=by
 simp only [Uk,Bool.and_eq_true] at S;obtain ⟨a1,a2⟩:=S;obtain ⟨d,f,as,kk,rfl,R,a3⟩:=CV (o:=p) (p:=o) a2;have hq:=vk a1;rw [jV Bz] at h1;rw [gB hq] at h2;obtain ⟨hn,fv,vs,hf,hv,J⟩:=Ho h1 (by simp);rcases J with ⟨r,t,⟨hc,hk⟩,A⟩|⟨_,_,_,A⟩
 ·cases A;obtain ⟨rfl,e,Y,I,rfl⟩:=jY.1 h2;have Q:p.dst≠some d:=R d (by simp);have W:Agr (fun k=>k=d) ((d,.v r)::env) env:=⟨fun k hk=>gJ _ _ (Ne.symm hk),fun k e hk he ho=>by subst hk;rw [kY] at he;cases he;cases ho⟩;have O:xW glob call p env s=some e:=by rw [H8 a1 s s2];exact Bj W (fun k hk Z=>a3 k hk Z) Y
  have P:okD env p.dst e:=fun dp K=>⟨(I dp K).1,by
   have:=(I dp K).2
   unfold sD at this ⊢
   rwa [gJ _ _ (fun h=>Q (by rw [K,h]))] at this⟩
  obtain ⟨g1,g2,g3,g4⟩:=Oo (glob:=glob) (env:=env) (e:=e) (fv:=fv) (vs:=vs) R;refine ⟨rfl,wu env p.dst e,(d,.v r)::wu env p.dst e,by rw [gB hq];exact jY.2 ⟨rfl,e,O,P,rfl⟩, ?_,NC (d1:=some d) (d2:=p.dst) (e1:=.v r) (e2:=e) (fun x hx hd=>Q (by cases hx;exact hd))⟩;rw [jV Bz,Hq (by rw [g1];exact hn) (by rw [g2];exact hf) (by rw [g3];exact hv),hc];simp only [g4,hk,if_true]
 ·cases A
def XF (p:aI):Prop:=p.op.quiet.isSome=true∨(∃d zs,p=⟨some d,none,.lallocp d zs⟩)∨(∃op l,p=⟨none,none,op⟩∧op.heapy=some l∧Y0 op none=true)∨(∃n k x,p=⟨none,none,.storel n k x⟩)∨∃d f as kk,p=⟨some d,none,.callh d f as kk⟩
theorem OV {p:aI} (hp:XF p) (he:EqE env env2) {env1:Env} {s1:St} (h:iw glob call cx p env s=.norm env1 s1):∃env1',iw glob call cx p env2 s=.norm env1' s1∧EqE env1 env1':=by
 rcases hp with hq|⟨d,zs,rfl⟩|⟨op,l,rfl,hl,hd⟩|⟨n,k,x,rfl⟩|⟨d,f,as,kk,rfl⟩
 ·have hs:=DK hq h;subst hs;exact acy hq he h
 ·obtain ⟨h1,rfl,rfl⟩:=O1.1 h;exact ⟨_,O1.2 ⟨by rw [←he];exact h1,rfl,rfl⟩,fun j=>by rw [jO,jO,he j]⟩
 ·rw [jV (xw hl)] at h ⊢;obtain ⟨e,rfl,_,_,J⟩:=BX hl hd h;exact ⟨_,J env2 (fun j _=>(he j).symm) (fun d hd=>by cases hd),he⟩
 ·obtain ⟨rfl,cs,xv,c1,c2,c3,rfl⟩:=QZ.1 h;exact ⟨_,QZ.2 ⟨rfl,cs,xv,by rw [←he];exact c1,by rw [abf (env2:=env2) (env:=env) (fun j _=>(he j).symm)];exact c2,c3,rfl⟩,fun j=>by rw [jO,jO,he j]⟩
 ·rw [jV Bz] at h ⊢;obtain ⟨hn,fv,vs,hf,hv,I⟩:=Ho h (by simp);rcases I with ⟨r,t,⟨hc,hk⟩,A⟩|⟨_,_,_,A⟩
  ·cases A;refine ⟨(d,.v r)::env2, ?_,fun j=>by rw [jO,jO,he j]⟩;rw [Hq (by rw [←he];exact hn) (by rw [KY (env2:=env2) (env:=env) (fun j _=>(he j).symm)];exact hf) (by rw [KZ (env2:=env2) (env:=env) (fun j _=>(he j).symm)];exact hv),hc];simp only [VE (env2:=env2) (env:=env) (fun j _=>(he j).symm),hk,if_true]
  ·cases A
theorem XB {o p:aI} (h:apart o p=true):XF p:=by
 simp only [apart,Bool.or_eq_true] at h;rcases h with ((((((((((h|h)|h)|h)|h)|h)|h)|h)|h)|h)|h)|h
 ·exact .inl (CY h).2.1
 ·exact absurd h Bool.false_ne_true
 ·exact .inl (PO h).2.2
 ·simp only [Uj,Bool.and_eq_true] at h;have h4:=h.1.1.2;exact .inl (vk h4)
 ·exact absurd h Bool.false_ne_true
 ·exact absurd h Bool.false_ne_true
 ·obtain ⟨pd,pg,x⟩:=p;simp only [Ui,Bool.and_eq_true,Option.isNone_iff_eq_none] at h;obtain ⟨⟨⟨⟨_,a2⟩,a3⟩,a4⟩,a5⟩:=h;subst a3 a4
  cases hl:x.heapy with
  | none=>rw [hl] at a2;cases a2
  | some l=>exact .inr (.inr (.inl ⟨x,l,rfl,hl,a5⟩))
 ·exact absurd h Bool.false_ne_true
 ·simp only [zY,Bool.and_eq_true] at h
  cases hcs:p.callS with
  | none=>rw [hcs] at h;cases h.2
  | some q=>obtain ⟨f,as,kk,rfl,_⟩:=Fb hcs;exact .inr (.inr (.inr (.inr ⟨_,_,_,_,rfl⟩)))
 ·simp only [Uk,Bool.and_eq_true] at h;exact .inl (vk h.1)
 ·obtain ⟨a,k,off,d,f,as,ho,hg,rfl,A,a3⟩:=WY h;exact .inr (.inr (.inr (.inr ⟨_,_,_,_,rfl⟩)))
 ·obtain ⟨pd,pg,x⟩:=p;simp only [Ug,Bool.and_eq_true,Option.isNone_iff_eq_none] at h;obtain ⟨⟨⟨a1,a2⟩,a3⟩,a4⟩:=h;subst a3 a4
  split at a1
  ·exact .inr (.inr (.inl ⟨_,_,rfl,rfl,rfl⟩))
  ·cases a1
theorem swap {o p:aI} (x:apart o p=true) {env1 env2:Env} {s1 s2:St} (h1:iw glob call cx o env s=.norm env1 s1) (h2:iw glob call cx p env1 s1=.norm env2 s2):
  ∃f1 t1 f2,iw glob call cx p env s=.norm f1 t1∧iw glob call cx o f1 t1=.norm f2 s2∧EqE f2 env2:=by
 simp only [apart,Bool.or_eq_true] at x;rcases x with ((((((((((x|x)|x)|x)|x)|x)|x)|x)|x)|x)|x)|x
 ·have ho:=(CY x).1;have A:=(CY x).2.1;have e1:=DK ho h1;subst e1;have e2:=DK A h2;subst e2;rw [gB ho] at h1;rw [gB A] at h2;obtain ⟨f1,f2,q1,q2,q3⟩:=acs x h1 h2;exact ⟨f1,_,f2,by rw [gB A];exact q1,by rw [gB ho];exact q2,q3⟩
 ·obtain ⟨rfl,rfl,f1,f2,q⟩:=alj x h1 h2;exact ⟨f1,_,f2,q⟩
 ·obtain ⟨rfl,f1,f2,q⟩:=ali x h1 h2;exact ⟨f1,_,f2,q⟩
 ·obtain ⟨rfl,f1,f2,q⟩:=aln x h1 h2;exact ⟨f1,_,f2,q⟩
 ·exact alg x h1 h2
 ·exact alk x h1 h2
 ·exact alm x h1 h2
 ·exact alh x h1 h2
 ·exact alp x h1 h2
 ·obtain ⟨rfl,f1,f2,q⟩:=alo x h1 h2;exact ⟨f1,_,f2,q⟩
 ·exact alf x h1 h2
 ·exact ale x h1 h2
theorem bubble {i:Nat} {q:List Nat} {oi:aI} (I:aops[i]?=some oi) (A:XF oi):∀(p:List Nat),(∀j∈p,Fz aops j i)→∀{env:Env} {s:St},Runs glob call cx aops (p++i::q) env s env' s'→
  ∃env1 s1,iw glob call cx oi env s=.norm env1 s1∧Runs glob call cx aops (p++q) env1 s1 env' s'
 | [],_,env,s,h=>by
  obtain ⟨o,e0,e1,s1,ho,he,hr,h2⟩:=h;rw [I] at ho;cases ho;obtain ⟨e3,h3,h4⟩:=OV A he.symm hr;exact ⟨e3,s1,h3,h2.eqE h4.symm⟩
 | j::p,hap,env,s,h=>by
  obtain ⟨oj,e0,ej,sj,K,he,P,x⟩:=h;obtain ⟨ei,si,O,h4⟩:=bubble I A p (fun k hk=>hap k (by simp [hk])) x;obtain ⟨o1,o2,h1,h2,J⟩:=hap j (by simp);rw [K] at h1;cases h1;rw [I] at h2;cases h2;obtain ⟨f1,t1,f2,q1,q2,q3⟩:=swap J P O;obtain ⟨f3,q4,q5⟩:=OV A he.symm q1;exact ⟨f3,t1,q4,oj,f1,f2,_,K,q5.symm,q2,h4.eqE q3⟩
theorem OT {F:Fence} {n i b0:Nat} {N:Wd} {ls:List Nat} {o:Oper} {ao:aI} {Q:Exit→Act→World→Prop} {K:Act→World→Prop} (O:uw qt P glob call) (I:ji call) (hF:isF F) (h:Fr P glob g s B w a env N b0 ls)
  (hi:ops[i]?=some o) (hc:xk P N ops o ao=true) (hr:BM glob call ao env s=.norm env' s)
  (hK:∀g' w' a',Step qt g s.length B w g' s.length w'→Fr P glob g' s B w' a' env' N b0 ls→K a' w'):wpOpIn F n P ops Q i K a w:=by
 obtain ⟨_,e,hq,hd,rfl⟩:=jY.1 hr;have A:gy ⟨s.length,s.length⟩ s:=⟨Nat.le_refl _,Nat.le_refl _⟩
 have key:∃env1,fK glob call ⟨s.length,s.length⟩ ao env s=.norm env1 s∧EqE env1 (wu env ao.dst e):=by
  unfold xW at hq;unfold fK
  split at hq
  ·cases hq
  ·rename_i hw;cases hq
   try simp only [hw]
   cases hdst:ao.dst with
   | none=>exact ⟨env,rfl,fun _=>rfl⟩
   | some d=>exact ⟨_,rfl,fun k=>by rw [Nz (hd d hdst).2];rfl⟩
  ·rename_i hw
   try simp only [hw]
   split at hq
   ·rename_i p
    split at hq
    ·rename_i e1 env1 s1 ha
     split at hq
     ·rename_i S;cases hq;have hx:Ext ⟨s.length,s.length⟩ s s1:=XC I A ha
      have hs:s1=s:=by
       apply List.ext_getElem?;intro l;by_cases hl:l<s.length
       ·exact hx.lim l hl
       ·rw [List.getElem?_eq_none (by omega),List.getElem?_eq_none (by omega)]
      subst hs;unfold okQ at p
      split at p
      ·rename_i rs es R;simp only [Bool.and_eq_true] at p;obtain ⟨hl,_⟩:=abZ (Agr.refl env) R (fun x _ k _ hf=>hf) p.1 p.2 ha;rw [ha];simp only []
       cases hdst:ao.dst with
       | none=>exact ⟨env1,rfl,hl⟩
       | some d=>
        obtain ⟨d1,d2⟩:=hd d hdst;simp only [d1];refine ⟨_,rfl,fun k=>?_⟩;rw [Nz (by unfold sD at d2 ⊢;rw [hl d];exact d2)];exact (EqE.put (env:=env1) (env2:=env) hl (some d) e) k
      ·cases p
     ·cases hq
    ·cases hq
   ·cases hq
 obtain ⟨env1,J,he⟩:=key;exact Gm O I hF A h hi hc J (fun g' w' a' hs hf=>hK g' w' a' hs (hf.eqE he))
end Go.Ai
namespace Go.Ai
variable {qt:Prop} {P:Program} {glob:Nat→Option (List AV)} {g:ai} {s:St} {B:Nat} {w:World} {env env2:Env} {a:Act} {call:AV→List AV→St→Ctx→CO} {cx:Ctx} {env':Env} {s':St} {ops:Array Oper} {aops:List aI}
theorem Fa {N:Wd} {all:Array Oper}:∀(os:List Oper) (p:List aI),mV P N all os p=true→∀(i:Nat) (o:Oper),os[i]?=some o→∃ao,p[i]?=some ao∧xk P N all o ao=true
 | [],_,_,i,o,h=>by simp at h
 | o::os,[],hc,_,_,_=>by simp [mV] at hc
 | o::os,ao::p,hc,i,o',h=>by
  simp only [mV,Bool.and_eq_true] at hc
  cases i with
  | zero=>simp at h;subst h;exact ⟨ao,rfl,hc.1⟩
  | succ i=>simp at h;simpa using Fa os p hc.2 i o' h
theorem ahy {F:Fence} {n b0:Nat} {N:Wd} {ls:List Nat} {Q:Exit→Act→World→Prop} (a9:uw qt P glob call) (a6:ji call) (hF:isF F)
  (b8:∀(i:Nat) (o:Oper),ops[i]?=some o→∃ao,aops[i]?=some ao∧xk P N ops o ao=true):
  ∀(W:Nat) (K:Array Bool) (l:List Nat) {env:Env} {g:ai} {s:St} {w:World} {a:Act},l.length=W→Inv ops aops K l→
    Runs glob call cx aops l env s env' s'→gy cx s→Fr P glob g s B w a env N b0 ls→
    (∀g' w' a',Step qt g s.length B w g' s'.length w'→Fr P glob g' s' B w' a' env' N b0 ls→Q .normal a' w')→wpAnyIn F n P .any ops Q W K a w:=by
 intro W
 induction W with
 | zero=>
  intro K l env g s w a Y I R a0 a5 hQ;have b7:l=[]:=List.eq_nil_of_length_eq_zero Y;subst b7;obtain ⟨he,rfl⟩:=R;exact ⟨I.nil_ready,hQ g w a (.refl _ _ _ _) (a5.eqE he)⟩
 | succ W ih=>
  intro K l env g s w a Y I R a0 a5 hQ;refine ⟨fun h0=>?_,fun i hi=>?_⟩
  ·cases l with
   | nil=>cases Y
   | cons j t=>have:=I.head_ready;rw [h0] at this;cases this
  ·have b4:=I.ready_mem hi;obtain ⟨_,o,ho,_⟩:=mem_ready.1 hi;obtain ⟨ao,a4,a7⟩:=b8 i o ho;obtain ⟨p,q,rfl⟩:=List.append_of_mem b4
   have S:∀j∈p,Fz aops j i:=by
    intro j hj
    have:=(List.pairwise_append.1 I.pairs).2.2 j hj i (by simp)
    rcases this with h1|h1
    ·exact absurd h1 (I.not_reach hi (by simp [hj]))
    ·exact h1
   have Z:Inv ops aops (K.setIfInBounds i true) (p++q):=I.remove hi;have a3:(p++q).length=W:=by simp at Y ⊢;omega
   have J:∀{env1:Env} {s1:St},ao.op.quiet.isSome=false→(∃e0,EqE env e0∧fK glob call cx ao e0 s=.norm env1 s1)→Runs glob call cx aops (p++q) env1 s1 env' s'→wpOpIn F n P ops Q i (fun a' w'=>wpAnyIn F n P .any ops Q W (K.setIfInBounds i true) a' w') a w:=by
    intro env1 s1 O ⟨e0,he,A⟩ x;have hx:Ext cx s s1:=qP a6 a0 (o:=ao) (by rw [A];rfl);exact Gm a9 a6 hF a0 (a5.eqE he) ho a7 A (fun g1 w1 a1 b3 a8=>ih _ (p++q) a3 Z x (a0.ext hx) a8 (fun g2 w2 a2 b2 b1=>hQ g2 w2 a2 (b3.trans b2) b1))
   cases O:ao.op.quiet.isSome with
   | true=>
    obtain ⟨env1,s1,A,x⟩:=bubble a4 (.inl O) p S R;have hs:=DK O A;subst hs;rw [gB O] at A;exact OT a9 a6 hF a5 ho a7 A (fun g1 w1 a1 b3 a8=>ih _ (p++q) a3 Z x a0 a8 (fun g2 w2 a2 b2 b1=>hQ g2 w2 a2 (b3.trans b2) b1))
   | false=>
    cases p with
    | cons j p=>
     obtain ⟨o1,o2,h1,h2,b6⟩:=S j (by simp);rw [a4] at h2;cases h2;obtain ⟨env1,s1,A,x⟩:=bubble a4 (XB b6) (j::p) S R;rw [jV O] at A;exact J O ⟨env,.refl _,A⟩ x
    | nil=>
     obtain ⟨o',e0,env1,s1,b5,he,A,x⟩:=R;rw [a4] at b5;cases b5;rw [jV O] at A;exact J O ⟨e0,he,A⟩ x
theorem Jp {b0:Nat} {N:Wd} {ls:List Nat}:∀(ts:List Nat) {g:ai} {env:Env},Fr P glob g s B w a env N b0 ls→∃g',Step qt g s.length B w g' s.length w∧Fr P glob g' s B w a (Dz env ts) N b0 ls
 | [],g,env,h=>⟨g,.refl _ _ _ _,h⟩
 | k::ts,g,env,h=>by
  unfold Dz;split
  ·rename_i tip t sz es hk;obtain ⟨g1,p,A,_⟩:=Ig h.sim hk;obtain ⟨g2,x,h2⟩:=Jp ts (h.next A rfl rfl p.le (fun _ hh=>hh) (fun _ _=>rfl));exact ⟨g2,p.weak.trans x,h2⟩
  ·exact Jp ts h
theorem MP:∀(π seen:List Nat),QG ops π seen=true→(∀i∈π,i<ops.size)∧π.Nodup∧(∀i∈π,i ∉ seen)∧∀p i q,π=p++i::q→∀e∈wS ops i,e∈seen∨e∈p
 | [],seen,_=>⟨fun _ h=>(by cases h),List.nodup_nil,fun _ h=>(by cases h),fun p i q h=>by simp at h⟩
 | i::r,seen,h=>by
  simp only [QG,Bool.and_eq_true,decide_eq_true_eq,List.all_eq_true,Bool.not_eq_true',List.contains_eq_mem,decide_eq_false_iff_not] at h;obtain ⟨⟨⟨h1,h2⟩,h3⟩,h4⟩:=h;obtain ⟨a1,a2,a3,a4⟩:=MP r (i::seen) h4;refine ⟨fun j hj=>?_,List.nodup_cons.2 ⟨fun hh=>a3 i hh (by simp),a2⟩,fun j hj=>?_,fun p k q A e he=>?_⟩
  ·rcases List.mem_cons.1 hj with rfl|hj
   ·exact h1
   ·exact a1 j hj
  ·rcases List.mem_cons.1 hj with rfl|hj
   ·exact h2
   ·exact fun hh=>a3 j hj (by simp [hh])
  ·cases p with
   | nil=>simp at A;obtain ⟨rfl,rfl⟩:=A;exact .inl (h3 e he)
   | cons x p=>
    simp at A;obtain ⟨rfl,rfl⟩:=A;rcases a4 p k q rfl e he with h5|h5
    ·rcases List.mem_cons.1 h5 with rfl|h5
     ·exact .inr (by simp)
     ·exact .inl h5
    ·exact .inr (by simp [h5])
theorem NE:∀{π:List Nat} {c:Nat} {oc:aI},Z5 aops π=some (c,oc)→c∈π∧aops[c]?=some oc∧oc.callS.isSome=true
 | [],c,oc,h=>by cases h
 | i::r,c,oc,h=>by
  unfold Z5 at h
  split at h
  ·rename_i o ho
   split at h
   ·rename_i hc;cases h;exact ⟨by simp,ho,hc⟩
   ·obtain ⟨h1,h2⟩:=NE h;exact ⟨by simp [h1],h2⟩
  ·obtain ⟨h1,h2⟩:=NE h;exact ⟨by simp [h1],h2⟩
theorem Reach.tr {ops:Array Oper} {i j k:Nat} (h:Reach ops i j) (h2:Reach ops j k):Reach ops i k:=by
 induction h with
 | edge he=>exact .trans he h2
 | trans he _ ih=>exact .trans he (ih h2)
theorem Gi {c:Nat}:∀(l:List Nat) (ds:List aI),l.Pairwise (fun j i=>Reach ops i j∨Fz aops j i)→
  (∀d∈ds,∃j,aops[j]?=some d∧(j=c∨Reach ops j c)∧∀i∈l,Reach ops i j∨Fz aops j i)→(∀i∈l,∃o,aops[i]?=some o)→
  (zq aops c ds l).Sublist l∧∀i∈l,i∈zq aops c ds l∨i=c∨Reach ops i c
 | [],ds,_,_,_=>⟨.slnil,fun i h=>by cases h⟩
 | i::r,ds,hp,hs,ha=>by
  obtain ⟨P,O⟩:=List.pairwise_cons.1 hp;obtain ⟨o,ho⟩:=ha i (by simp)
  have I:∀d∈ds,∃j,aops[j]?=some d∧(j=c∨Reach ops j c)∧∀i∈r,Reach ops i j∨Fz aops j i:=fun d hd=>by
   obtain ⟨j,q1,q2,q3⟩:=hs d hd;exact ⟨j,q1,q2,fun k hk=>q3 k (by simp [hk])⟩
  have p:(i=c∨Reach ops i c)→(zq aops c (o::ds) r).Sublist (i::r)∧∀k∈i::r,k∈zq aops c (o::ds) r∨k=c∨Reach ops k c:=fun x=>by
   obtain ⟨h1,h2⟩:=Gi r (o::ds) O (fun d hd=>by
    rcases List.mem_cons.1 hd with rfl|hd
    ·exact ⟨i,ho,x,P⟩
    ·exact I d hd) (fun j hj=>ha j (by simp [hj]))
   refine ⟨h1.cons _,fun j hj=>?_⟩;rcases List.mem_cons.1 hj with rfl|hj
   ·exact .inr x
   ·exact h2 j hj
  unfold zq;rw [ho];simp only [];split
  ·rename_i x;exact p (.inl x)
  ·split
   ·rename_i A;obtain ⟨d,hd,J⟩:=List.any_eq_true.1 A;obtain ⟨j,q1,q2,q3⟩:=hs d hd;refine p (.inr ?_)
    have K:Reach ops i j:=by
     rcases q3 i (by simp) with h|⟨o1,o2,z1,z2,z3⟩
     ·exact h
     ·rw [q1] at z1;cases z1;rw [ho] at z2;cases z2;rw [z3] at J;cases J
    rcases q2 with rfl|q2
    ·exact K
    ·exact K.tr q2
   ·obtain ⟨h1,h2⟩:=Gi r ds O I (fun j hj=>ha j (by simp [hj]));refine ⟨h1.cons_cons _,fun j hj=>?_⟩;rcases List.mem_cons.1 hj with rfl|hj
    ·exact .inl (by simp)
    ·rcases h2 j hj with h|h
     ·exact .inl (by simp [h])
     ·exact .inr h
theorem Z4 {c:Nat} {oc:aI} (p:aops[c]?=some oc) (l:List Nat) (hp:l.Pairwise (fun j i=>Reach ops i j∨Fz aops j i)) (ha:∀i∈l,∃o,aops[i]?=some o):
  (Gj aops c oc false l).Sublist l∧∀i∈l,i∈Gj aops c oc false l∨i=c∨Reach ops i c:=
 Gi l [] hp (fun d hd=>by cases hd) ha
theorem aa7 {R:Nat→Nat→Prop} {c:Nat}:∀(π:List Nat),π.Pairwise R→c∈π→∀j∈π.takeWhile (fun x=>x != c),R j c
 | [],_,hc,_,_=>by cases hc
 | i::r,hp,hc,j,hj=>by
  obtain ⟨I,A⟩:=List.pairwise_cons.1 hp;by_cases hic:i=c
  ·subst hic;simp at hj
  ·rw [List.takeWhile_cons_of_pos (by simpa using hic)] at hj
   have p:c∈r:=by
    rcases List.mem_cons.1 hc with h|h
    ·exact absurd h.symm hic
    ·exact h
   rcases List.mem_cons.1 hj with rfl|hj
   ·exact I c p
   ·exact aa7 r A p j hj
theorem acz {op:AOp} (h:op.pre=true):op.quiet.isSome=true:=by
 cases op<;>first|rfl|exact vk h
theorem Zr {o p:aI} (h:apart o p=true) (x:p.callS.isSome=true):zY o p=true∨BI o p=true:=by
 obtain ⟨q,hq⟩:=Option.isSome_iff_exists.1 x;obtain ⟨f,as,kk,rfl,_⟩:=Fb (d:=q.1) (l:=q.2) hq;simp only [apart,Bool.or_eq_true] at h;rcases h with ((((((((((h|h)|h)|h)|h)|h)|h)|h)|h)|h)|h)|h
 ·simp [Ul,AOp.quiet] at h
 ·exact absurd h Bool.false_ne_true
 ·simp [Uh,AOp.quiet] at h
 ·simp [Uj,AOp.free] at h
 ·exact absurd h Bool.false_ne_true
 ·exact absurd h Bool.false_ne_true
 ·simp [Ui] at h
 ·exact absurd h Bool.false_ne_true
 ·exact .inl h
 ·simp [Uk,AOp.free] at h
 ·exact .inr h
 ·simp [Ug] at h
theorem VY {oc:aI} (A:oc.callS.isSome=true) (he:EqE env env2) {s1:St} {v:AV} (h:fK glob call cx oc env2 s=.pan v s1):fK glob call cx oc env s=.pan v s1:=by
 obtain ⟨q,hq⟩:=Option.isSome_iff_exists.1 A;obtain ⟨f,as,kk,rfl,_⟩:=Fb (d:=q.1) (l:=q.2) hq;obtain ⟨hn,fv,vs,hf,hv,x⟩:=Ho h (by simp);rcases x with ⟨_,_,⟨_,_⟩,p⟩|⟨v',t,hc,p⟩
 ·cases p
 ·cases p;rw [Hq (by rw [he];exact hn) (by rw [KY (env2:=env) (env:=env2) (fun j _=>he j)];exact hf) (by rw [KZ (env2:=env) (env:=env2) (fun j _=>he j)];exact hv),hc]
theorem X0 {oc:aI} (x:oc.callS.isSome=true) {v:AV} {env1:Env} {s1:St}:∀(pl:List Nat),(∀j∈pl,∃oj,aops[j]?=some oj∧oj.op.pre=true∧(zY oj oc=true∨BI oj oc=true))→∀{env:Env} {s:St},Runs glob call cx aops pl env s env1 s1→fK glob call cx oc env1 s1=.pan v s'→
  fK glob call cx oc env s=.pan v s'
 | [],_,env,s,hr,h=>by
  obtain ⟨he,rfl⟩:=hr;exact VY x he h
 | j::r,hf,env,s,hr,h=>by
  obtain ⟨o,e0,e1,s2,ho,he,A,p⟩:=hr;have h2:=X0 x r (fun k hk=>hf k (by simp [hk])) p h;obtain ⟨oj,q1,q2,q3⟩:=hf j (by simp);rw [ho] at q1;cases q1;obtain ⟨rfl,h3⟩:=acF q3 A h2;exact VY x he h3
theorem afL {F:Fence} {n b0:Nat} {N:Wd} {ls:List Nat} {Q:Exit→Act→World→Prop} (a6:uw qt P glob call) (b4:ji call) (hF:isF F)
  (c4:∀(i:Nat) (o:Oper),ops[i]?=some o→∃ao,aops[i]?=some ao∧xk P N ops o ao=true) {c:Nat} {oc:aI} {v:AV} {env1:Env} {s1:St} (c5:aops[c]?=some oc) (c6:oc.callS.isSome=true) (c3:fK glob call cx oc env1 s1=.pan v s'):
  ∀(a0:Nat) (W:Array Bool) (l pl:List Nat) {env:Env} {g:ai} {s:St} {w:World} {a:Act},l.length=a0→Inv ops aops W l→c∈l→pl.Sublist l→(∀i∈l,i∈pl∨i=c∨Reach ops i c)→(∀j∈pl,∃oj,aops[j]?=some oj∧oj.op.pre=true∧((zY oj oc=true∨BI oj oc=true)∨Reach ops c j))→
    Runs glob call cx aops pl env s env1 s1→gy cx s→Fr P glob g s B w a env N b0 ls→
    (∀u g' w' a',Step qt g s.length B w g' s'.length w'→Fr P glob g' s' B w' a' [] N b0 ls→Rep g' s'.length u v→Q (.panic [{ v:=u,recovered:=false }]) a' w')→wpAnyIn F n P .any ops Q a0 W a w:=by
 intro a0
 induction a0 with
 | zero=>
  intro W l pl env g s w a J x S A R I O b2 b3 hQ;have b5:l=[]:=List.eq_nil_of_length_eq_zero J;subst b5;cases S
 | succ a0 ih=>
  intro W l pl env g s w a J x S A R I O b2 b3 hQ;refine ⟨fun h0=>?_,fun i hi=>?_⟩
  ·cases l with
   | nil=>cases J
   | cons j t=>have:=x.head_ready;rw [h0] at this;cases this
  ·have a3:=x.ready_mem hi;obtain ⟨_,o,ho,_⟩:=mem_ready.1 hi;obtain ⟨ao,Y,a4⟩:=c4 i o ho;by_cases hic:i=c
   ·subst hic;rw [c5] at Y;cases Y
    exact aeC a6 b4 hF b2 b3 ho a4 (X0 c6 pl (fun j hj=>by
     obtain ⟨oj,q1,q2,q3⟩:=I j hj
     exact ⟨oj,q1,q2,q3.elim id (fun h=>absurd h (x.not_reach hi (A.subset hj)))⟩) O c3) hQ
   ·rcases R i a3 with hip|hip|hip
    ·obtain ⟨p,q,rfl⟩:=List.append_of_mem hip;obtain ⟨p0,q0,rfl⟩:=List.append_of_mem a3;obtain ⟨oi,q1,q2,q3⟩:=I i (by simp);rw [Y] at q1;cases q1;have a5:ao.op.quiet.isSome=true:=acz q2;have K:=x.nd
     have Z:i ∉ p0:=by
      rw [List.nodup_append] at K;exact fun h=>K.2.2 i h i (by simp) rfl
     have b8:i ∉ p:=by
      have h1:=A.nodup K;rw [List.nodup_append] at h1;exact fun h=>h1.2.2 i h i (by simp) rfl
     have a7:(p++q).Sublist (p0++q0):=by
      have:=A.erase i
      rwa [List.erase_append_right _ b8,List.erase_append_right _ Z,List.erase_cons_head,List.erase_cons_head] at this
     have b1:∀j∈p,Fz aops j i:=by
      intro j hj
      have:=(List.pairwise_append.1 (x.pairs.sublist A)).2.2 j hj i (by simp)
      rcases this with h1|h1
      ·exact absurd h1 (x.not_reach hi (A.subset (by simp [hj])))
      ·exact h1
     obtain ⟨env2,s2,a9,a8⟩:=bubble Y (.inl a5) p b1 O;have hs:=DK a5 a9;subst hs;rw [gB a5] at a9
     refine OT a6 b4 hF b3 ho a4 a9 (fun g1 w1 a1 c0 b6=>ih _ (p0++q0) (p++q) (by simp at J ⊢;omega) (x.remove hi) ?_ a7 (fun j hj=>?_) (fun j hj=>I j (by rcases List.mem_append.1 hj with h|h<;>simp [h])) a8 b2 b6 (fun u g2 w2 a2 b9 b7 c1=>hQ u g2 w2 a2 (c0.trans b9) b7 c1))
     ·rcases List.mem_append.1 S with h|h
      ·exact List.mem_append_left _ h
      ·rcases List.mem_cons.1 h with h|h
       ·exact absurd h.symm hic
       ·exact List.mem_append_right _ h
     ·have c2:j≠i:=fun h=>by
       subst h;rcases List.mem_append.1 hj with h|h
       ·exact Z h
       ·rw [List.nodup_append] at K;exact (List.nodup_cons.1 K.2.1).1 h
      rcases R j (by rcases List.mem_append.1 hj with h|h<;>simp [h]) with h|h
      ·rcases List.mem_append.1 h with h|h
       ·exact .inl (by simp [h])
       ·rcases List.mem_cons.1 h with h|h
        ·exact absurd h c2
        ·exact .inl (by simp [h])
      ·exact .inr h
    ·exact absurd hip hic
    ·exact absurd hip (x.not_reach hi S)
theorem Y1 {π:List Nat} (I:MR ops aops π=true):π.length=ops.size∧Inv ops aops (Array.replicate ops.size false) π:=by
 simp only [MR,Bool.and_eq_true,beq_iff_eq,List.all_eq_true,List.mem_range,List.contains_eq_mem,decide_eq_true_eq] at I;obtain ⟨⟨⟨x,A⟩,htopo⟩,hpairs⟩:=I;obtain ⟨t1,t2,_,t4⟩:=MP π [] htopo;have J:=Jk (ops:=ops) (Sz π [] (fun e j h=>by simp [JR] at h)) π hpairs;refine ⟨x,by simp,fun j hj=>?_,t1,t2,J,fun i hi=>?_,fun p i q K e he=>?_⟩
 ·simp [Array.getD_eq_getD_getElem?,hj];exact A j hj
 ·exfalso;rw [Array.getD_eq_getD_getElem?] at hi
  by_cases hlt:i<ops.size<;>simp [hlt] at hi
 ·rcases t4 p i q K e he with h|h
  ·cases h
  ·exact .inr h
theorem ahx (hM:P.follows .mixedOrders=true) (R:uw qt P glob call) (a6:ji call):Hy qt P glob call:=by
 have O:∀{g:ai} {s:St} {B:Nat} {w:World} {a:Act} {env:Env} {b0:Nat} {N:Wd} {ls ts:List Nat},Fr P glob g s B w a env N b0 ls→
   ∃g1,Step qt g s.length B w g1 s.length { w with drawn:=w.drawn+1 }∧Fr P glob g1 s B { w with drawn:=w.drawn+1 } a (Dz env ts) N b0 ls:=by
  intro g s B w a env b0 N ls ts x
  have Z:Fr P glob g s B { w with drawn:=w.drawn+1 } a env N b0 ls:=by
   refine x.next ⟨x.sim.base.grew (qt:=False) ⟨Nat.le_refl _,fun _ _=>rfl,rfl,rfl,fun h=>h.elim⟩,x.sim.env.next (.refl _ _) (fun k e hk ho b hb=>⟨rfl,rfl,rfl,fun ht=>ht⟩),x.sim.B⟩ rfl rfl (.refl _ _) (fun _ h=>h) (fun _ _=>rfl)
  have a0:Step qt g s.length B w g s.length { w with drawn:=w.drawn+1 }:=⟨.refl _ _,Nat.le_refl _,fun _ _ _=>rfl,fun _ _ _=>rfl,fun _ _=>rfl,fun b hb=>.inl hb,rfl,rfl,fun _=>⟨rfl,Nat.le_succ _⟩⟩;obtain ⟨g1,J,A⟩:=Jp ts Z;exact ⟨g1,a0.trans J,A⟩
 constructor
 ·intro F n id B b0 N ls ops aops π ts Q cx g s s' w a env env' hF hops hdr hcx x hrun hQ;obtain ⟨K,p⟩:=Y1 hdr;refine wpIn_region_any hM ?_;obtain ⟨g1,J,A⟩:=O (ts:=ts) x;simp only [rY] at hrun
  replace hrun:jC glob call cx aops π (Dz env ts) s=.norm env' s':=by
   cases hd:jC glob call cx aops π (Dz env ts) s with
   | pan v s1=>
    rw [hd] at hrun;obtain ⟨_,_,_,_,_,_,_,_,_,_,h3⟩:=Ci (show yV glob call cx aops π (Dz env ts) s=.norm env' s' from hrun) (by simp);cases h3
   | _=>rw [hd] at hrun;exact hrun
  exact ahy R a6 hF (fun i o ho=>Fa _ _ hops i o (by simpa using ho)) ops.size _ π K p (Wy π hrun) hcx A (fun g2 w2 a2 W S=>hQ g2 w2 a2 (J.trans W) S)
 ·intro F n id B b0 N ls ops aops π ts Q cx g s s' w a env v hF hops hdr hcx x hrun hQ;obtain ⟨K,p⟩:=Y1 hdr;refine wpIn_region_any hM ?_;obtain ⟨g1,J,A⟩:=O (ts:=ts) x;simp only [rY] at hrun
  replace hrun:yV glob call cx aops π (Dz env ts) s=.pan v s':=by
   cases hd:jC glob call cx aops π (Dz env ts) s with
   | pan v s1=>rw [hd] at hrun;exact hrun
   | _=>rw [hd] at hrun;cases hrun
  obtain ⟨c,oc,env1,s1,v',s2,b1,a3,b3,b4,h3⟩:=Ci hrun (by simp);cases h3;obtain ⟨a8,Y,a4⟩:=NE b1;have I:∀(i:Nat) (o:Oper),ops[i]?=some o→∃ao,aops[i]?=some ao∧xk P N ops o ao=true:=fun i o ho=>Fa _ _ hops i o (by simpa using ho)
  obtain ⟨a9,a7⟩:=Z4 (ops:=ops) Y π p.pairs (fun i hi=>by
   have a5:=p.lt i hi;obtain ⟨ao,h1,_⟩:=I i (ops[i]'a5) (by simp [a5])
   exact ⟨ao,h1⟩)
  refine afL R a6 hF I Y a4 b4 ops.size _ π _ K p a8 a9 a7 (fun j hj=>?_) (Wy _ b3) hcx A (fun u g2 w2 a2 W S b2=>hQ u g2 w2 a2 (J.trans W) S b2)
  have:=List.all_eq_true.1 a3 j hj
  split at this
  ·rename_i oj a1;simp only [Bool.and_eq_true,Bool.or_eq_true,List.contains_eq_mem,decide_eq_true_eq] at this;refine ⟨oj,a1,this.1, ?_⟩;rcases this.2 with (h|h)|h
   ·exact .inl (.inl h)
   ·exact .inl (.inr h)
   ·rcases aa7 π p.pairs a8 j h with h|⟨o1,o2,q1,q2,q3⟩
    ·exact .inr h
    ·rw [a1] at q1;cases q1;rw [Y] at q2;cases q2;exact .inl (Zr q3 a4)
  ·cases this
end Go.Ai
namespace Go.Ai
variable {qt:Prop} {P:Program} {glob:Nat→Option (List AV)} {g:ai} {s:St} {B:Nat} {w:World} {env:Env} {a:Act} {call:AV→List AV→St→Ctx→CO} {cx:Ctx} {env':Env} {s':St}
theorem Rep.under {n:Nat} {v:Value} {x:AV} (h:Rep g n v x):x.under n=true:=by
 induction h with
 | u _|i _ _|b _|s _|np|nm|ns|nf|ni|slNil|slE _|se _|sz _ _=>rfl
 | sl bk off cap sz es c hc hsz hm hr ih=>
  simp only [AV.under,dw];intro e he;obtain ⟨i,hi,rfl⟩:=List.getElem_of_mem he
  cases hel:es[i] with
  | ag cs=>
   simp only [AV.under,dw];intro c I;obtain ⟨j,hj,rfl⟩:=List.getElem_of_mem I;have A:j<(AV.cells es[i]).length:=by rw [hel];exact hj
   have:=ih i hi j A
   have e2:(AV.cells es[i])[j]=cs[j]:=by simp only [hel,AV.cells]
   rw [e2] at this;exact this
  | _=>
   all_goals
    have A:0<(AV.cells es[i]).length:=by rw [hel];simp [AV.cells]
    have:=ih i hi 0 A
    have e2:(AV.cells es[i])[0]=es[i]:=by simp only [hel,AV.cells,List.getElem_cons_zero]
    rw [e2,hel] at this;exact this
 | ag vs cs hl h1 hr ih=>
  simp only [AV.under,dw];intro c hc;obtain ⟨j,hj,rfl⟩:=List.getElem_of_mem hc;exact ih j (by omega) hj
 | tu vs cs hl hr ih=>
  simp only [AV.under,dw];intro c hc;obtain ⟨j,hj,rfl⟩:=List.getElem_of_mem hc;exact ih j (by omega) hj
 | ip bk off cs c hm hr ih=>
  simp only [AV.under,dw];intro c hc;obtain ⟨j,hj,rfl⟩:=List.getElem_of_mem hc;exact ih j hj
 | pt l off hl=>simpa [AV.under] using hl
 | im bk es vs hm hl hk hv ihk ihv=>
  simp only [AV.under,Bd];intro p hp;obtain ⟨j,hj,rfl⟩:=List.getElem_of_mem hp;exact ⟨ihk j (by omega) hj,ihv j (by omega) hj⟩
 | mp l hl=>simpa [AV.under] using hl
 | fn f vs ws as cs hl hl' hr hr' ih ih'=>
  simp only [AV.under,Bool.and_eq_true,dw];exact ⟨fun c hc=>by obtain ⟨j,hj,rfl⟩:=List.getElem_of_mem hc;exact ih j (by omega) hj,fun c hc=>by obtain ⟨j,hj,rfl⟩:=List.getElem_of_mem hc;exact ih' j (by omega) hj⟩
 | yl l hl=>simpa [AV.under] using hl
 | ifc t v a hr ih=>simpa [AV.under] using ih
 | kb bk c m hm hr ih=>simpa [AV.under] using ih
 | st l v es hl hh hr ih=>simp only [AV.under,Bool.and_eq_true,decide_eq_true_eq] at ih ⊢;exact ⟨hl,ih⟩
 | sk l ver sz o m b off len cap c hl hh ho hc hcc=>simpa [AV.under] using hl
 | skE l ver sz o ad hl=>simpa [AV.under] using hl
 | sp l ver o b off len cap hl hh=>simpa [AV.under] using hl
theorem XI {n:Nat} {e:AV} (h:e.under n=true):∀c∈e.cells,c.under n=true:=by
 cases e with
 | ag cs=>simpa only [AV.cells,AV.under,dw] using h
 | _=>all_goals (intro c hc;simp [AV.cells] at hc;subst hc;exact h)
theorem Rep.restrict {n n':Nat} {v:Value} {x:AV} (h:Rep g n v x) (hu:x.under n'=true):Rep g n' v x:=by
 induction h with
 | u v=>exact .u v
 | i k x=>exact .i k x
 | b x=>exact .b x
 | s l=>exact .s l
 | np=>exact .np
 | nm=>exact .nm
 | ns=>exact .ns
 | nf=>exact .nf
 | ni=>exact .ni
 | se ad=>exact .se ad
 | sz ad c=>exact .sz ad c
 | slNil=>exact .slNil
 | slE a=>exact .slE a
 | sl bk off cap sz es c hc hsz hm hr ih=>
  simp only [AV.under,dw] at hu;exact .sl bk off cap sz es c hc hsz hm (fun i hi j hj=>ih i hi j hj (XI (hu _ (List.getElem_mem hi)) _ (List.getElem_mem hj)))
 | ag vs cs hl h1 hr ih=>
  simp only [AV.under,dw] at hu;exact .ag vs cs hl h1 (fun i hi p=>ih i hi p (hu _ (List.getElem_mem p)))
 | tu vs cs hl hr ih=>
  simp only [AV.under,dw] at hu;exact .tu vs cs hl (fun i hi p=>ih i hi p (hu _ (List.getElem_mem p)))
 | ip bk off cs c hm hr ih=>
  simp only [AV.under,dw] at hu;exact .ip bk off cs c hm (fun j hj=>ih j hj (hu _ (List.getElem_mem hj)))
 | pt l off hl=>exact .pt l off (by simpa [AV.under] using hu)
 | im bk es vs hm hl hk hv ihk ihv=>
  simp only [AV.under,Bd] at hu;exact .im bk es vs hm hl (fun i hi p=>ihk i hi p (hu _ (List.getElem_mem p)).1) (fun i hi p=>ihv i hi p (hu _ (List.getElem_mem p)).2)
 | mp l hl=>exact .mp l (by simpa [AV.under] using hu)
 | fn f vs ws as cs hl hl' hr hr' ih ih'=>
  simp only [AV.under,Bool.and_eq_true,dw] at hu;exact .fn f vs ws as cs hl hl' (fun i hi p=>ih i hi p (hu.1 _ (List.getElem_mem p))) (fun i hi p=>ih' i hi p (hu.2 _ (List.getElem_mem p)))
 | yl l hl=>exact .yl l (by simpa [AV.under] using hu)
 | ifc t v a hr ih=>exact .ifc t v a (ih (by simpa [AV.under] using hu))
 | kb bk c m hm hr ih=>exact .kb bk c m hm (ih (by simpa [AV.under] using hu))
 | st l v es hl hh hr ih=>simp only [AV.under,Bool.and_eq_true,decide_eq_true_eq] at hu;exact .st l v es hu.1 hh (ih (by simpa [AV.under] using hu.2))
 | sk l ver sz o m b off len cap c hl hh ho hc hcc=>exact .sk l ver sz o m b off len cap c (by simpa [AV.under] using hu) hh ho hc hcc
 | skE l ver sz o ad hl=>exact .skE l ver sz o ad (by simpa [AV.under] using hu)
 | sp l ver o b off len cap hl hh=>exact .sp l ver o b off len cap (by simpa [AV.under] using hu) hh
theorem aX.under {n:Nat} {vs:List Value} {as:List AV} (h:aX g n vs as):bY n as=true:=by
 rw [dw];intro c hc;obtain ⟨j,hj,rfl⟩:=List.getElem_of_mem hc;exact (h.2 j (by rw [h.1];exact hj) hj).under
theorem aX.restrict {n n':Nat} {vs:List Value} {as:List AV} (h:aX g n vs as) (hu:bY n' as=true):aX g n' vs as:=
 ⟨h.1,fun i hi p=>(h.2 i hi p).restrict ((dw n' as).1 hu _ (List.getElem_mem p))⟩
theorem Base.jJ (h:Base P glob g s w) (l:Nat):Ai.jJ s.length s l:=by
 unfold Ai.jJ;split
 ·rename_i cs hs;obtain ⟨S,ty,_,h2,_⟩:=h.heap.cells l cs hs;exact h2.under
 ·rename_i es hs;obtain ⟨_,O,I,_,h2,h3,_⟩:=h.heap.obj l _ hs;refine (Bd _ es).2 fun p hp=>⟨(dw _ _).1 h2.under _ (List.mem_map.2 ⟨p,hp,rfl⟩),(dw _ _).1 h3.under _ (List.mem_map.2 ⟨p,hp,rfl⟩)⟩
 ·rename_i env ps K body A hs;obtain ⟨r,_,h2⟩:=h.heap.loop l env ps K body A hs;obtain ⟨_,_,_,h4,_⟩:=h2;intro k x hk;obtain ⟨y,hy,hr⟩:=h4 k _ hk;cases hy;exact hr.under
 ·rename_i cs hs;obtain ⟨b,off,len,cap,Q,h1,h2,h3,h4,h5,h6,h7,h8,h9,J,R⟩:=h.heap.obj l _ hs;exact J.under
 ·trivial
theorem Base.take (h:Base P glob g s w) {n:Nat} (hn:n≤s.length) (hu:∀l,l<n→Ai.jJ n s l):
  Base P glob g (s.take n) w:=by
 have A:(s.take n).length=n:=by simp;omega
 refine ⟨h.imm,⟨fun l l' b hl S h1 h2=>?_,fun l b hl hb=>?_,fun l o hs=>?_⟩,h.glob⟩
 ·rw [A] at hl S;exact h.heap.inj l l' b (by omega) (by omega) h1 h2
 ·rw [A] at hl;exact h.heap.lt l b (by omega) hb
 ·have hl:l<n:=by rw [←A];exact (List.getElem?_eq_some_iff.1 hs).1
  rw [List.getElem?_take_of_lt hl] at hs;rw [A];have I:=hu l hl;unfold Ai.jJ at I;rw [hs] at I;have ho:=h.heap.obj l o hs
  cases o with
  | cells cs=>obtain ⟨h0,W,ty,h1,h2,h3⟩:=ho;exact ⟨h0,W,ty,h1,h2.restrict I,h3⟩
  | loop env ps asg body pend=>
   obtain ⟨h0,r,h1,q1,q2,q3,q4,q5⟩:=ho;refine ⟨h0,r,h1,q1,q2,q3,fun k e hk=>?_,q5⟩;obtain ⟨v,rfl,hr⟩:=q4 k e hk;exact ⟨v,rfl,hr.restrict (I k v hk)⟩
  | dfr=>exact ho
  | dead=>trivial
  | umap es=>
   obtain ⟨h0,J,x,K,h1,h2,h3,h4,h5,h6,h7⟩:=ho;exact ⟨h0,J,x,K,h1,h2,h3,h4.restrict ((dw n _).2 fun a ha=>by obtain ⟨p,hp,rfl⟩:=List.mem_map.1 ha;exact EW n (h6 p hp)),h5,h6,h7⟩
  | row t sz k=>exact ho
  | buf t sz ver cs=>
   obtain ⟨b,off,len,cap,O,h1,h2,h3,h4,h5,h6,h7,h8,h9,R,Q⟩:=ho;exact ⟨b,off,len,cap,O,h1,h2,h3,h4,h5,h6,h7,h8,h9,R.restrict I,Q⟩
  | map es=>
   obtain ⟨h0,J,x,h1,h2,h3,h7⟩:=ho;have hm:=(Bd n es).1 I;exact ⟨h0,J,x,h1,h2.restrict ((dw n _).2 fun a ha=>by obtain ⟨p,hp,rfl⟩:=List.mem_map.1 ha;exact (hm p hp).1),h3.restrict ((dw n _).2 fun a ha=>by obtain ⟨p,hp,rfl⟩:=List.mem_map.1 ha;exact (hm p hp).2),h7⟩
def zk (P:Program):List ResultVar→List RV→Bool
 | [],[]=>true
 | .tmp t::r,.tmp t'::r'=>t == t' && zk P r r'
 | .cell a t::r,.cell a' n::r'=>a == a' && IU P t n && zk P r r'
 | _,_=>false
def Ro (tmps:Array Value):ResultVar→Sem Value
 | .tmp t=>pure (tmps.getD t undef)
 | .cell a t=>do loadVar t (←asAddr (tmps.getD a undef))
theorem SK {t:TypeId} {x u:Value} {w w':World} (h:(Instr.loadAt t x).run P w=.ok u w'):(do loadVar t (←asAddr x):Sem Value).run P w=.ok u w':=by
 unfold Instr.loadAt at h
 cases x with
 | pointer p=>
  cases p with
  | none=>simp [Instr.sureAddr,stuck,Sem.run,Sem.run_bind] at h
  | some ad=>simpa [Instr.sureAddr,asAddr,Sem.run_bind] using h
 | _=>simp [Instr.sureAddr,stuck,Sem.run,Sem.run_bind] at h
theorem H7 {J:List ResultVar}:∀{rs:List RV},zk P J rs=true→∀{g:ai} {env:Env},Sim P glob g s B w (Act.tm a) env→∀{vs:List AV},oG glob env s rs=some vs→
  ∃us g',(J.mapM (Ro a.tmps)).run P w=.ok us w∧Step qt g s.length B w g' s.length w∧Base P glob g' s w∧aX g' s.length us vs:=by
 induction J with
 | nil=>
  intro rs hc g env h vs hr
  cases rs with
  | nil=>simp [oG] at hr;subst hr;exact ⟨[],g,by simp,.refl _ _ _ _,h.base,.nil _ _⟩
  | cons x y=>simp [zk] at hc
 | cons rv J ih=>
  intro rs hc g env h vs hr
  cases rs with
  | nil=>cases rv<;>simp [zk] at hc
  | cons r rs=>
   cases rv with
   | tmp t=>
    cases r with
    | tmp t'=>
     simp only [zk,Bool.and_eq_true,beq_iff_eq] at hc;obtain ⟨rfl,hc⟩:=hc;simp only [oG] at hr
     split at hr
     ·rename_i v env1 he
      cases hr2:oG glob env1 s rs with
      | none=>simp [hr2] at hr
      | some vs'=>
       simp [hr2] at hr;subst hr;obtain ⟨g1,I,m1,r1⟩:=pq (x:=.tmp t) (by simp [dR]) h he;obtain ⟨us,g2,q1,q2,q3,q4⟩:=ih hc m1 hr2;refine ⟨a.tmps.getD t undef::us,g2, ?_,I.weak.trans q2,q3,.cons (r1.mono q2.le) q4⟩;simp only [List.mapM_cons,Ro];simp [q1]
     ·cases hr
    | cell a' n=>simp [zk] at hc
   | cell p t=>
    cases r with
    | tmp t'=>simp [zk] at hc
    | cell p' n=>
     simp only [zk,Bool.and_eq_true,beq_iff_eq] at hc;obtain ⟨⟨rfl,hN⟩,hc⟩:=hc;simp only [oG] at hr
     split at hr
     ·rename_i v hv
      cases hr2:oG glob env s rs with
      | none=>simp [hr2] at hr
      | some vs'=>
       simp [hr2] at hr;subst hr;obtain ⟨u,u1,u2⟩:=OZ (x:=.tmp p) hN (by simp [dR]) h hv;obtain ⟨us,g2,q1,q2,q3,q4⟩:=ih hc h hr2;refine ⟨u::us,g2, ?_,q2,q3,.cons ((u2.mono q2.le).plain) q4⟩;have A:=SK u1;have K:a.eval (.tmp p)=a.tmps.getD p undef:=rfl;rw [K] at A;simp only [List.mapM_cons,Ro];rw [Sem.run_bind,A];simp [q1]
     ·cases hr
def Vp:List Value→Value
 | [u]=>u
 | l=>.tuple l.toArray
theorem BZ {fn:Func} {us:List Value} (h:(fn.results.toList.mapM (Ro a.tmps)).run P w=.ok us w):(results fn a.tmps).run P w=.ok (Vp us) w:=by
 have e1:results fn a.tmps=(do let vs ←fn.results.mapM (Ro a.tmps);pure (if h:vs.size=1 then vs[0] else .tuple vs)):=by
  unfold results
  congr 1
 rw [e1,Array.mapM_eq_mapM_toList];simp only [map_eq_pure_bind,bind_assoc,pure_bind];rw [Sem.run_bind,h];simp only [Result.andThen,Sem.run_pure]
 match us with
 | []=>rfl
 | [u]=>rfl
 | u1::u2::us=>rfl
theorem EI {n:Nat} {us:List Value} {vs:List AV} (h:aX g n us vs):Rep g n (Vp us) (um vs):=by
 match us,vs,h with
 | [],[],_=>exact .tu _ _ rfl (fun i hi=>by simp at hi)
 | [u],[v],h=>exact h.head
 | u1::u2::us,v1::v2::vs,h=>
  refine .tu _ _ (by have:=h.1;simpa using this) (fun i hi p=>?_)
  have:=h.2 i (by simpa using hi) p
  simpa using this
 | [],_::_,h=>exact absurd h.1 (by simp)
 | _::_,[],h=>exact absurd h.1 (by simp)
 | [_],_::_::_,h=>exact absurd h.1 (by simp)
 | _::_::_,[_],h=>exact absurd h.1 (by simp)
def kills:List Nat→St→St
 | [],s=>s
 | l::ls,s=>kills ls (s.set l .dead)
theorem EQ:∀(ls:List Nat) (s:St),(kills ls s).length=s.length
 | [],s=>rfl
 | l::ls,s=>by simp [kills,EQ ls]
theorem Ib:∀(ls:List Nat) (s:St) (l:Nat),l ∉ ls→(kills ls s)[l]?=s[l]?
 | [],s,l,_=>rfl
 | k::ls,s,l,h=>by
  simp only [List.mem_cons,not_or] at h;rw [kills,Ib ls _ l h.2,List.getElem?_set_ne (Ne.symm h.1)]
theorem aai {n:Option Nat} {x:IX} {v:AV} (h:∀l:Nat,(∀cs,s[l]?=some (gq.cells cs)→s'[l]?=some (gq.cells cs))∧∀t sz ver cs,s[l]?=some (gq.buf t sz ver cs)→s'[l]?=some (gq.buf t sz ver cs)) (hl:kV glob env s n x=some v):kV glob env s' n x=some v:=by
 unfold kV at hl ⊢
 split at hl
 ·exact hl
 ·exact hl
 ·exact hl
 ·exact hl
 ·rename_i l o hv
  split at hl
  ·rename_i cs hs;rw [(h l).1 cs hs];exact hl
  ·cases hl
 ·rename_i l ver o hv
  split at hl
  ·rename_i t2 A p cs hs;rw [(h l).2 _ _ _ _ hs];exact hl
  ·cases hl
 ·exact hl
theorem Ju (h:∀l:Nat,(∀cs,s[l]?=some (gq.cells cs)→s'[l]?=some (gq.cells cs))∧∀t sz ver cs,s[l]?=some (gq.buf t sz ver cs)→s'[l]?=some (gq.buf t sz ver cs)):∀(rs:List RV) {env:Env} {vs:List AV},oG glob env s rs=some vs→oG glob env s' rs=some vs
 | [],env,vs,hr=>hr
 | .tmp t::r,env,vs,hr=>by
  simp only [oG] at hr ⊢
  split at hr
  ·rename_i v env1 he
   cases hr2:oG glob env1 s r with
   | none=>simp [hr2] at hr
   | some vs'=>simp [hr2] at hr;subst hr;rw [Ju h r hr2];rfl
  ·cases hr
 | .cell p n::r,env,vs,hr=>by
  simp only [oG] at hr ⊢
  split at hr
  ·rename_i v hv;rw [aai h hv]
   cases hr2:oG glob env s r with
   | none=>simp [hr2] at hr
   | some vs'=>simp [hr2] at hr;subst hr;simp only [];rw [Ju h r hr2];rfl
  ·cases hr
theorem LP {fn:Func} {R:Ending→World→Prop} {m:Nat} (hw:Fence.wide.round=none):∀(ls:List Nat) {s:St} {w:World},Sim P glob g s B w (Act.tm a) env→(∀l∈ls,s[l]?=some .dfr)→ls.Nodup→
  (∀w',Sim P glob g (kills ls s) B w' (Act.tm a) env→Step qt g s.length B w g s.length w'→∃v,(results fn a.tmps).run P w'=.ok v w'∧R (.returned v) w')→
  LeavesInM Fence.wide m P fn a.tmps R (ls.map fun l=>{ target:=.collected (g.L l),args:=#[] }) .returning w
 | [],s,w,h,_,_,hR=>hR w h (.refl _ _ _ _)
 | l::ls,s,w,h,hd,hnd,hR=>by
  simp only [List.map_cons,LeavesInM];have hl:=hd l (by simp);have J:l<s.length:=(List.getElem?_eq_some_iff.1 hl).1;have hb:=h.base.heap.dfr l hl;obtain ⟨Z,K⟩:=List.nodup_cons.1 hnd;refine ⟨by simp,.inl ⟨g.L l,{ w with heap:=w.heap.setIfInBounds (g.L l) (.deferred none) },rfl, ?_, ?_⟩⟩
  ·simp [Instr.takeDeferred,Sem.run_bind,getObj,setObj,Sem.run,hb]
  ·have hk:=h.base.kill J (h.base.heap.obj _ _ hl).1 (.deferred none);have S:∀k e,lk env k=some e→e.owns=true→∀b,dn (Act.tm a k)=some b→b≠g.L l:=fun k e I ho b A x=>h.env.off k e I ho b A (by rw [x];exact .L J)
   have Q:Sim P glob g (s.set l .dead) B { w with heap:=w.heap.setIfInBounds (g.L l) (.deferred none) } (Act.tm a) env:=by
    refine ⟨hk, ?_,by simpa using h.B⟩;simp only [List.length_set];exact h.env.next (.refl _ _) (fun k e I ho b A=>⟨dL (S k e I ho b A),rfl,rfl,fun ht=>ht⟩)
   have Y:Step qt g s.length B w g s.length { w with heap:=w.heap.setIfInBounds (g.L l) (.deferred none) }:=
    ⟨.refl _ _,by simp,fun b hb W=>dL (fun x=>W (by rw [x];exact .L J)),fun _ _ _=>rfl,fun _ _=>rfl,fun b hb=>.inl hb,rfl,rfl,fun _=>⟨rfl,Nat.le_refl _⟩⟩
   refine LP hw ls Q (fun l' O=>?_) K (fun w' a0 p=>hR w' a0 ?_)
   ·rw [List.getElem?_set_ne (fun he=>by subst he;exact Z O)];exact hd l' (by simp [O])
   ·simp only [List.length_set] at p;exact Y.trans p
theorem LQ {fn:Func} {R:Ending→World→Prop} {m:Nat} {a1:List PanicEntry} (hw:Fence.wide.round=none):∀(ls:List Nat) {s:St} {w:World},Sim P glob g s B w (Act.tm a) env→(∀l∈ls,s[l]?=some .dfr)→ls.Nodup→
  (∀w',Sim P glob g (kills ls s) B w' (Act.tm a) env→Step qt g s.length B w g s.length w'→R (.panicked a1) w')→
  LeavesInM Fence.wide m P fn a.tmps R (ls.map fun l=>{ target:=.collected (g.L l),args:=#[] }) (.panicking a1) w
 | [],s,w,h,_,_,hR=>hR w h (.refl _ _ _ _)
 | l::ls,s,w,h,hd,hnd,hR=>by
  simp only [List.map_cons,LeavesInM];have hl:=hd l (by simp);have J:l<s.length:=(List.getElem?_eq_some_iff.1 hl).1;have hb:=h.base.heap.dfr l hl;obtain ⟨Z,K⟩:=List.nodup_cons.1 hnd;refine ⟨by simp,.inl ⟨g.L l,{ w with heap:=w.heap.setIfInBounds (g.L l) (.deferred none) },rfl, ?_, ?_⟩⟩
  ·simp [Instr.takeDeferred,Sem.run_bind,getObj,setObj,Sem.run,hb]
  ·have hk:=h.base.kill J (h.base.heap.obj _ _ hl).1 (.deferred none);have S:∀k e,lk env k=some e→e.owns=true→∀b,dn (Act.tm a k)=some b→b≠g.L l:=fun k e I ho b A x=>h.env.off k e I ho b A (by rw [x];exact .L J)
   have Q:Sim P glob g (s.set l .dead) B { w with heap:=w.heap.setIfInBounds (g.L l) (.deferred none) } (Act.tm a) env:=by
    refine ⟨hk, ?_,by simpa using h.B⟩;simp only [List.length_set];exact h.env.next (.refl _ _) (fun k e I ho b A=>⟨dL (S k e I ho b A),rfl,rfl,fun ht=>ht⟩)
   have Y:Step qt g s.length B w g s.length { w with heap:=w.heap.setIfInBounds (g.L l) (.deferred none) }:=
    ⟨.refl _ _,by simp,fun b hb W=>dL (fun x=>W (by rw [x];exact .L J)),fun _ _ _=>rfl,fun _ _=>rfl,fun b hb=>.inl hb,rfl,rfl,fun _=>⟨rfl,Nat.le_refl _⟩⟩
   refine LQ hw ls Q (fun l' O=>?_) K (fun w' a0 p=>hR w' a0 ?_)
   ·rw [List.getElem?_set_ne (fun he=>by subst he;exact Z O)];exact hd l' (by simp [O])
   ·simp only [List.length_set] at p;exact Y.trans p
end Go.Ai
namespace Go.Ai
variable {qt:Prop} {P:Program} {glob:Nat→Option (List AV)} {g:ai} {s:St} {B:Nat} {w:World} {env:Env} {a:Act} {call:AV→List AV→St→Ctx→CO} {cx:Ctx} {env':Env} {s':St}
open Classical in
noncomputable def ai.claimAll (g:ai) (n n1:Nat) (w:World):ai:={ g with
 m:=fun b o=>if ∃l,n≤l∧l<n1∧g.bl l b then w.cell? ⟨b,o,none⟩ else g.m b o
 mm:=fun b=>if ∃l,n≤l∧l<n1∧g.bl l b then (match w.heap[b]? with|some (.map ents clock)=>if Born ents clock then some (.inl (ents.toList.map fun e=>(e.key,e.val))) else g.mm b | _=>g.mm b) else g.mm b }
theorem zQ {n:Nat} (h:Base P glob g s w):g.le s.length (g.claimAll n s.length w) s.length:=by
 refine ⟨fun b o v hm=>?_,fun b es hm=>?_,fun _ _=>rfl,fun _ _ _ _ h=>h,Nat.le_refl _⟩
 ·unfold ai.claimAll;dsimp only;split
  ·exact h.imm.m b o v hm
  ·exact hm
 ·unfold ai.claimAll;dsimp only;split
  ·have hh:=h.imm.mm b es hm
   cases es with
   | inl es=>
    obtain ⟨x,p,h1,h2,hb⟩:=hh;rw [h1];simp only [h2,hb,if_true]
   | inr arr=>
    obtain ⟨t,f,h1⟩:=hh;rw [h1];exact hm
  ·exact hm
theorem UL {n:Nat} (h:Base P glob g s w) (hn:n≤s.length) (hb:Base P glob g (s.take n) w):Base P glob (g.claimAll n s.length w) (s.take n) w:=by
 have A:(s.take n).length=n:=by simp;omega
 have I:=zQ (n:=n) h
 have J:∀b,g.taken (s.take n).length b→¬∃l,n≤l∧l<s.length∧g.bl l b:=by
  intro b p;rw [A] at p;obtain ⟨l,hl,O⟩:=p;rintro ⟨l',h1,h2,h3⟩
  have:=h.heap.inj l' l b h2 (by omega) h3 O
  omega
 refine hb.fix ⟨I.m,I.mm,fun _ _=>rfl,fun _ _ _ _ h=>h,Nat.le_refl _⟩ ⟨fun b o v hm=>?_,fun b es hm=>?_⟩ rfl (fun b p=>⟨?_, ?_⟩)
 ·unfold ai.claimAll at hm;dsimp only at hm
  split at hm
  ·exact hm
  ·exact h.imm.m b o v hm
 ·unfold ai.claimAll at hm;dsimp only at hm
  split at hm
  ·split at hm
   ·rename_i K x hh
    split at hm
    ·rename_i Q;cases hm;exact ⟨K,x,hh,rfl,Q⟩
    ·exact h.imm.mm b es hm
   ·exact h.imm.mm b es hm
  ·exact h.imm.mm b es hm
 ·funext o
  unfold ai.claimAll;dsimp only;rw [if_neg (J b p)]
 ·unfold ai.claimAll;dsimp only;rw [if_neg (J b p)]
def Nc (s1 s:St):Prop:=∀l:Nat,(∀cs,s1[l]?=some (gq.cells cs)→s[l]?=some (gq.cells cs))∧(∀es,s1[l]?=some (gq.map es)→s[l]?=some (gq.map es))∧∀t sz ver cs,s1[l]?=some (gq.buf t sz ver cs)→s[l]?=some (gq.buf t sz ver cs)
theorem Yr {g':ai} {N n:Nat} {F:AV→Option AV} (hF:∀(v:Value) (x y:AV),Rep g N v x→F x=some y→Rep g' n v y):∀(xs:List AV) (vs:List Value) {ys:List AV},aX g N vs xs→xs.mapM F=some ys→aX g' n vs ys
 | [],vs,ys,hr,hf=>by
  simp at hf;subst hf
  have:vs=[]:=List.eq_nil_of_length_eq_zero hr.1
  subst this;exact .nil _ _
 | x::xs,vs,ys,hr,hf=>by
  cases vs with
  | nil=>exact absurd hr.1 (by simp)
  | cons v vs=>
   simp only [List.mapM_cons,Option.bind_eq_bind,Option.pure_def] at hf
   cases h1:F x with
   | none=>simp [h1] at hf
   | some y=>
    cases h2:xs.mapM F with
    | none=>simp [h1,h2] at hf
    | some ys'=>
     simp [h1,h2] at hf;subst hf;exact .cons (hF v x y hr.head h1) (Yr hF xs vs hr.tail h2)
theorem SG {F:AV→Option AV}:∀(es:List (AV×AV)) {x:List (AV×AV)},es.mapM (ads F)=some x→(es.map (·.1)).mapM F=some (x.map (·.1))∧(es.map (·.2)).mapM F=some (x.map (·.2))
 | [],x,h=>by simp at h;subst h;simp
 | p::es,x,h=>by
  simp only [List.mapM_cons,Option.bind_eq_bind,Option.pure_def] at h
  cases h1:ads F p with
  | none=>simp [h1] at h
  | some q=>
   cases h2:es.mapM (ads F) with
   | none=>simp [h1,h2] at h
   | some r=>
    simp [h1,h2] at h;subst h;obtain ⟨q1,q2⟩:=SG es h2;unfold ads at h1
    split at h1
    ·rename_i k v hk hv;cases h1;simp [hk,hv,q1,q2]
    ·cases h1
theorem E8 (sz:Nat):∀(n:Nat) (cs:List AV),(chunk sz n cs).length=n
 | 0,_=>rfl
 | n+1,cs=>by simp [chunk,E8 sz n]
theorem acI {c:AV} (h:c.one=true):c.cells=[c]:=by cases c<;>first|rfl | (simp [AV.one] at h;done)
theorem TV {sz:Nat} (A:0<sz):∀(n:Nat) (cs:List AV),cs.length=n * sz→cs.all AV.one=true→(chunk sz n cs).flatMap AV.cells=cs∧∀e∈chunk sz n cs,e.cells.length=sz
 | 0,cs,h,_=>by
  have:cs=[]:=List.eq_nil_of_length_eq_zero (by simpa using h)
  subst this;exact ⟨rfl,fun e he=>by simp [chunk] at he⟩
 | n+1,cs,h,hall=>by
  rw [Nat.succ_mul] at h;obtain ⟨x,p⟩:=TV A n (cs.drop sz) (by simp;omega) (List.all_eq_true.2 fun a ha=>List.all_eq_true.1 hall a (List.mem_of_mem_drop ha));simp only [chunk,List.flatMap_cons,List.mem_cons];rw [x];by_cases h1:sz=1
  ·subst h1
   cases cs with
   | nil=>simp at h
   | cons c cs=>
    have:=acI (List.all_eq_true.1 hall c (by simp))
    simp only [if_true,List.headD_cons,this];refine ⟨rfl, ?_⟩;rintro e (rfl|he)
    ·simp [this]
    ·exact p e he
  ·simp only [if_neg h1,AV.cells];refine ⟨List.take_append_drop sz cs, ?_⟩;rintro e (rfl|he)
   ·simp [AV.cells];omega
   ·exact p e he
theorem Hg (e:AV):e.plain.cells=e.cells.map AV.plain1:=by cases e<;>rfl
theorem ZT {N:Nat} {v:Value} {es:List AV} (h:Rep g N v (.sl es)):Rep g N v (.sl (es.map AV.plain)):=by
 cases h with
 | slNil=>exact .slNil
 | slE a=>exact .slE a
 | sl bk off cap sz _ c hc hsz hm hr=>
  have key:=Rep.sl (g:=g) (n:=N) bk off cap sz (es.map AV.plain) c (by simpa using hc) (fun i hi=>by
   have:=hsz i (by simpa using hi)
   simp only [List.getElem_map,Hg,List.length_map];exact this) (fun i j hi hj=>hm i j (by simpa using hi) hj) (fun i hi j hj=>by
   have p:i<es.length:=by simpa using hi
   simp only [List.getElem_map,Hg,List.length_map] at hj
   have:=(hr i p j hj).plain1
   simp only [List.getElem_map,Hg]
   exact this)
  rw [List.length_map] at key;exact key
theorem aaz {n:Nat} (h:Base P glob g s w) {s1:St} (hs:Nc s1 s) (hn:n≤s.length):∀(f:Nat) (v:Value) (x y:AV),Rep g s.length v x→AL s1 n f x=some y→Rep (g.claimAll n s.length w) n v y:=by
 have O:=zQ (n:=n) h;intro f
 induction f with
 | zero=>
  intro v x y hr hf;simp only [AL] at hf
  split at hf
  ·rename_i hu;cases hf;exact (hr.mono O).restrict hu
  ·cases hf
 | succ f ih=>
  intro v x y hr hf;have hM:=fun xs vs ys=>Yr (F:=AL s1 n f) (g:=g) (g':=g.claimAll n s.length w) (N:=s.length) (n:=n) ih xs vs (ys:=ys);simp only [AL] at hf
  split at hf
  ·rename_i hu;cases hf;exact (hr.mono O).restrict hu
  ·rename_i hu
   split at hf
   ·rename_i l o
    split at hf
    ·rename_i cs hl
     cases hcs:cs.mapM (AL s1 n f) with
     | none=>simp [hcs] at hf
     | some cs'=>
      simp [hcs] at hf;subst hf
      cases hr with
      | pt _ _ hlt=>
       have K:n≤l:=by
        simp only [AV.under,decide_eq_true_eq] at hu;omega
       obtain ⟨A,ty,q1,q2,q3⟩:=h.heap.cells l cs ((hs l).1 cs hl);have a0:=hM cs A.toList cs' q2 hcs;have b4:A.size=cs'.length:=by have:=a0.1;simpa using this
       refine .ip (g.L l) o _ (fun j=>A.getD (o+j) undef) (fun j hj=>?_) (fun j hj=>?_)
       ·simp at hj;have I:o+j<A.size:=by omega
        have e1:A.getD (o+j) undef=A[o+j]:=by simp [Array.getD_eq_getD_getElem?,I]
        rw [e1];refine ⟨?_,q3 _ (by simp)⟩;unfold ai.claimAll;dsimp only;rw [if_pos ⟨l,K,hlt,.inl rfl⟩,cell_of_row w (g.L l) (o+j) A ty (0,0) q1];simp [I]
       ·simp at hj;have I:o+j<A.size:=by omega
        have e1:A.getD (o+j) undef=A[o+j]:=by simp [Array.getD_eq_getD_getElem?,I]
        rw [e1,List.getElem_drop]
        have:=a0.2 (o+j) (by simpa using I) (by omega)
        rwa [Array.getElem_toList] at this
    ·cases hf
   ·rename_i l
    split at hf
    ·rename_i es hl
     cases hes:es.mapM (ads (AL s1 n f)) with
     | none=>simp [hes] at hf
     | some es'=>
      simp [hes] at hf;subst hf
      cases hr with
      | mp _ hlt=>
       have K:n≤l:=by
        simp only [AV.under,decide_eq_true_eq] at hu;omega
       obtain ⟨_,Q,a7,q1,q2,q3,a6⟩:=h.heap.obj l _ ((hs l).2.1 es hl);obtain ⟨m1,m2⟩:=SG es hes;have r1:=hM _ _ _ q2 m1;have r2:=hM _ _ _ q3 m2;have a1:Q.toList.length=es'.length:=by have:=r1.1;simpa using this
       refine .im (g.L l) es' (Q.toList.map fun e=>(e.key,e.val)) ?_ (by simpa using a1) (fun i hi p=>?_) (fun i hi p=>?_)
       ·unfold ai.claimAll;dsimp only;rw [if_pos ⟨l,K,hlt,.inl rfl⟩,q1];simp only [a6,if_true]
       ·have:=r1.2 i (by simpa using hi) (by simpa using p);simpa using this
       ·have:=r2.2 i (by simpa using hi) (by simpa using p);simpa using this
    ·cases hf
   ·rename_i l ver sz o m
    split at hf
    ·rename_i t2 b2 b1 cs hl
     split at hf
     ·rename_i S;obtain ⟨rfl,rfl,b0⟩:=S
      cases hcs:((cs.drop o).take (m * sz)).mapM (AL s1 n f) with
      | none=>simp [hcs] at hf
      | some cs'=>
       simp only [hcs,Option.bind_some] at hf
       split at hf
       ·rename_i a4;obtain ⟨a3,Z⟩:=a4;cases hf;obtain ⟨b,off,len,cap,R,h1,h2,h3,h4,h5,h6,h7,h8,h9,a9,a8⟩:=h.heap.obj l _ ((hs l).2.2 _ _ _ _ hl);have J:=hM _ _ _ ((a9.drop o).take (m * sz)) hcs;have b3:=Nat.mul_le_mul_right sz h5;have W:cs'.length=m * sz:=by rw [←J.1];simp;omega
        obtain ⟨c1,c2⟩:=TV a3 m cs' W Z
        cases hr with
        | skE _ _ _ _ ad hk=>simpa [chunk] using Rep.slE ad
        | sk _ _ _ _ _ b' off' len' cap' c hk hh ho hc hcc=>
         rw [h1] at hh;cases hh
         have K:n≤l:=by
          simp only [AV.under,decide_eq_true_eq] at hu;omega
         have key:=F9 (g:=g.claimAll n s.length w) (n:=n) (b:=b) (off:=off+o) (cap:=c) (sz:=sz) (es:=chunk sz m cs') (xs:=(((R.toList.drop off).take cs.length).drop o).take (m * sz)) (by rw [E8];exact hc) c2 (by rw [c1];exact J) ((a8.drop o).take _) (fun j hj=>?_)
         ·rw [E8] at key;exact key
         ·have b5:j<m * sz:=by simp at hj;omega
          unfold ai.claimAll;dsimp only;rw [if_pos ⟨l,K,hk,.inr ⟨ver,_,h1,rfl⟩⟩,cell_of_row w b (off+o+j) R t2 (0,0) h8]
          have a5:off+o+j<R.size:=by
           have:=Nat.mul_le_mul_right sz h5
           omega
          simp [a5,Nat.add_assoc]
       ·cases hf
     ·cases hf
    ·cases hf
   ·rename_i cs
    cases hcs:cs.mapM (AL s1 n f) with
    | none=>simp [hcs] at hf
    | some cs'=>
     simp [hcs] at hf;subst hf
     cases hr with
     | ag vs _ hl h1 hr1=>
      have q1:=hM cs vs.toList cs' ⟨by simpa using hl,fun i hi p=>by rw [Array.getElem_toList];exact hr1 i (by simpa using hi) p⟩ hcs;refine .ag vs cs' (by have:=q1.1;simpa using this) h1 (fun i hi p=>?_)
      have:=q1.2 i (by simpa using hi) p;rwa [Array.getElem_toList] at this
   ·rename_i cs
    cases hcs:cs.mapM (AL s1 n f) with
    | none=>simp [hcs] at hf
    | some cs'=>
     simp [hcs] at hf;subst hf
     cases hr with
     | tu vs _ hl hr1=>
      have q1:=hM cs vs.toList cs' ⟨by simpa using hl,fun i hi p=>by rw [Array.getElem_toList];exact hr1 i (by simpa using hi) p⟩ hcs;refine .tu vs cs' (by have:=q1.1;simpa using this) (fun i hi p=>?_)
      have:=q1.2 i (by simpa using hi) p;rwa [Array.getElem_toList] at this
   ·rename_i l es
    split at hf
    ·rename_i Y;cases hf
     cases hr with
     | st _ _ _ hl hh hr1=>exact (hr1.mono O).restrict (by simpa [AV.under] using Y)
    ·cases hf
   ·rename_i es
    split at hf
    ·rename_i Y;cases hf;exact ((ZT hr).mono O).restrict (by simpa [AV.under] using Y)
    ·cases hf
   ·rename_i fn as cs
    split at hf
    ·rename_i a2 cs' h1 h2;cases hf
     cases hr with
     | fn _ vs ws _ _ hl hl' hr1 hr2=>
      have q1:=hM as vs.toList a2 ⟨by simpa using hl,fun i hi p=>by rw [Array.getElem_toList];exact hr1 i (by simpa using hi) p⟩ h1;have q2:=hM cs ws.toList cs' ⟨by simpa using hl',fun i hi p=>by rw [Array.getElem_toList];exact hr2 i (by simpa using hi) p⟩ h2;refine .fn fn vs ws a2 cs' (by have:=q1.1;simpa using this) (by have:=q2.1;simpa using this) (fun i hi p=>?_) (fun i hi p=>?_)
      ·have:=q1.2 i (by simpa using hi) p;rwa [Array.getElem_toList] at this
      ·have:=q2.2 i (by simpa using hi) p;rwa [Array.getElem_toList] at this
    ·cases hf
   ·cases hf
theorem adr {n:Nat} (h:Base P glob g s w) {s1:St} (hs:Nc s1 s) (hn:n≤s.length) {v:Value} {x y:AV} (hr:Rep g s.length v x) (hf:frz s1 n x=some y):
  Rep (g.claimAll n s.length w) n v y:=by
 unfold frz at hf
 split at hf
 ·rename_i hu;cases hf;exact (hr.mono (zQ (n:=n) h)).restrict hu
 ·exact aaz h hs hn 6 v x y hr hf
theorem EP:∀(args:List AV) (i k:Nat) {e:EV},lk (yB args i) k=some e→∃(h:k - i<args.length),i≤k∧e=.v args[k - i]
 | [],i,k,e,h=>by simp [yB,lk] at h
 | x::args,i,k,e,h=>by
  simp only [yB,jO] at h
  split at h
  ·rename_i p;subst p;cases h;exact ⟨by simp,Nat.le_refl _,by simp⟩
  ·obtain ⟨h1,h2,h3⟩:=EP args (i+1) k h;refine ⟨by simp;omega,by omega, ?_⟩;rw [h3]
   have:k - i=(k - (i+1))+1:=by omega
   simp only [this,List.getElem_cons_succ]
def aZ (P:Program) (f:FuncId) (fn:bM):Prop:=
 ∃rf c,P.funcs[f]?=some rf∧(rf.name == "runtime.NumGoroutine")=false∧rf.body=some c∧xE P (.std rf.ntmps) c fn.code=true∧fn.np≤rf.ntmps∧zk P rf.results.toList fn.res=true
theorem yw {fn:bM} {r r0:AV} {g2:ai} {s1:St} {w2:World} {ls:List Nat} {u:Value} (hb:Base P glob g s w) (he:Ext (fn.inner s cx) s s1) (b1:∀l∈ls,s1[l]?=some gq.dfr) (b5:∀l∈ls,(if fn.keep then s1.length else s.length)≤l)
  (q3:Base P glob g2 (kills ls s1) w2) (p:Step qt g s.length w.heap.size w g2 s1.length w2) (K:Rep g2 s1.length u r0) (hh:finish fn.pure fn.keep s s1 r0=.ret r s'):
  ∃g',Step qt g s.length w.heap.size w g' s'.length w2∧Base P glob g' s' w2∧Rep g' s'.length u r:=by
 have a3:(kills ls s1).length=s1.length:=EQ ls s1
 have a1:∀(l:Nat) (ob:gq),ob≠.dfr→s1[l]?=some ob→(kills ls s1)[l]?=some ob:=by
  intro l ob b0 hl;rw [Ib ls s1 l (fun hm=>by rw [b1 l hm] at hl;cases hl;exact b0 rfl)];exact hl
 have a0:Nc s1 (kills ls s1):=fun l=>⟨fun _=>a1 l _ (by simp),fun _=>a1 l _ (by simp),fun _ _ _ _=>a1 l _ (by simp)⟩;by_cases hkeep:fn.keep=true
 ·have b3:ls=[]:=by
   cases ls with
   | nil=>rfl
   | cons l ls=>
    have h1:=b5 l (by simp);have h2:=(List.getElem?_eq_some_iff.1 (b1 l (by simp))).1;rw [if_pos hkeep] at h1;omega
  subst b3;unfold finish at hh;rw [if_pos hkeep] at hh;cases hh;exact ⟨g2,p,q3,K⟩
 have S:(fn.inner s cx).base=s.length:=by simp only [bM.inner];rw [if_neg hkeep]
 have hn:s.length≤(kills ls s1).length:=by rw [a3];exact he.len
 have I:∀l,l<s.length→(kills ls s1)[l]?=s1[l]?:=fun l hl=>Ib ls s1 l (fun hm=>by have:=b5 l hm;rw [if_neg hkeep] at this;omega)
 have A:(kills ls s1).take s.length=s1.take s.length:=by
  apply List.ext_getElem?;intro l;by_cases hl:l<s.length
  ·rw [List.getElem?_take_of_lt hl,List.getElem?_take_of_lt hl,I l hl]
  ·rw [List.getElem?_eq_none (by simp;omega),List.getElem?_eq_none (by simp;omega)]
 have Q:Base P glob g2 (s1.take s.length) w2:=by
  rw [←A];refine q3.take hn (fun l hl=>?_);have h1:=hb.jJ l;have h2:=he.base s.length (by rw [S];exact Nat.le_refl _) l hl h1;unfold Ai.jJ at h2 ⊢;rw [I l hl];exact h2
 have R:fn.pure=true→s1.take s.length=s:=by
  intro hp;apply List.ext_getElem?;intro l;by_cases hl:l<s.length
  ·rw [List.getElem?_take_of_lt hl];exact he.lim l (by simp only [bM.inner,hp,if_true];exact hl)
  ·rw [List.getElem?_eq_none (by simp;omega),List.getElem?_eq_none (by omega)]
 have W:Step qt g s.length w.heap.size w g2 s.length w2:=by
  refine ⟨⟨p.le.m,p.le.mm,p.le.L,p.le.hist,Nat.le_refl _⟩,p.size,p.keep,p.m,p.mm,fun b x=>p.new b ?_,p.io⟩;obtain ⟨l,hl,O⟩:=x;exact ⟨l,Nat.lt_of_lt_of_le hl he.len,O⟩
 unfold finish at hh;rw [if_neg hkeep] at hh
 split at hh
 ·rename_i a9;have b2:s1.take s.length=s1:=by rw [←a9,List.take_length]
  cases hp:fn.pure with
  | true=>
   rw [hp] at hh;simp only [if_true] at hh;cases hh;rw [R hp] at Q;exact ⟨g2,W,Q,by rw [a9] at K;exact K⟩
  | false=>
   rw [hp] at hh;simp only [Bool.false_eq_true,if_false] at hh;cases hh;rw [b2] at Q;exact ⟨g2,p,Q,K⟩
 ·split at hh
  ·rename_i y hy;have a4:Rep g2 (kills ls s1).length u (r0):=by rw [a3];exact K
   have a8:=adr (n:=s.length) q3 a0 hn a4 hy;have J:=UL q3 hn (by rw [A];exact Q);rw [A] at J
   have Y:∀b,b<w.heap.size→¬∃l,s.length≤l∧l<(kills ls s1).length∧g2.bl l b:=by
    intro b O;rintro ⟨l,h1,h2,h3⟩;rcases p.new b ⟨l,by rw [←a3];exact h2,h3⟩ with ⟨l0,b4,a7⟩|a7
    ·have:=q3.heap.inj l l0 b h2 (by omega) h3 (p.le.bl b4 a7)
     omega
    ·omega
   have a6:∀b,b<w.heap.size→(g2.claimAll s.length (kills ls s1).length w2).m b=g2.m b:=by
    intro b O
    funext j
    unfold ai.claimAll;dsimp only;rw [if_neg (Y b O)]
   have a2:∀b,b<w.heap.size→(g2.claimAll s.length (kills ls s1).length w2).mm b=g2.mm b:=by
    intro b O;unfold ai.claimAll;dsimp only;rw [if_neg (Y b O)]
   have Z:Step qt g s.length w.heap.size w (g2.claimAll s.length (kills ls s1).length w2) s.length w2:=by
    refine W.trans ⟨⟨(zQ (n:=s.length) q3).m,(zQ (n:=s.length) q3).mm,fun _ _=>rfl,fun _ _ _ _ h=>h,Nat.le_refl _⟩,Nat.le_refl _,fun _ _ _=>rfl,fun b x _=>a6 b x,fun b x=>a2 b x,fun b x=>.inl x,rfl,rfl,fun _=>⟨rfl,Nat.le_refl _⟩⟩
   cases hp:fn.pure with
   | true=>
    rw [hp] at hh;simp only [if_true] at hh;cases hh;rw [R hp] at J;exact ⟨_,Z,J,a8⟩
   | false=>
    rw [hp] at hh;simp only [Bool.false_eq_true,if_false] at hh;cases hh;have a5:(s1.take s.length).length=s.length:=by simp;have:=he.len;omega
    exact ⟨_,by rw [a5];exact Z,J,by rw [a5];exact a8⟩
  ·cases hh
theorem PD (b1:uw qt P glob call) (a6:ji call) (b2:Hy qt P glob call) (hM:P.follows .mixedOrders=true) {f:FuncId} {fn:bM} (c2:aZ P f fn) {N m:Nat} {args:List AV} {r:AV} (c1:gy cx s)
  (hb:Base P glob g s w) {vs:Array Value} (hv:aX g s.length vs.toList args):(xG glob call N fn args s cx=.ret r s'→CallsIn Fence.wide m P f vs w (Ret qt P glob g s w r s'))∧(xG glob call N fn args s cx=.pan r s'→CallsIn Fence.wide m P f vs w (Pan qt P glob g s w r s')):=by
 obtain ⟨rf,c,hf,a8,K,a7,b9,a4⟩:=c2;by_cases hlen:args.length=fn.np
 case neg=>unfold xG;rw [if_neg hlen];exact ⟨fun h=>(by cases h),fun h=>(by cases h)⟩
 ·rw [xG,if_pos hlen];have c0:vs.size=fn.np:=by have:=hv.1;simp at this;omega
  have Y:gy (fn.inner s cx) s:=bM.cxOK c1
  let a0:Act:={ tmps:=vs++Array.replicate (rf.ntmps - vs.size) undef,defers:=[] }
  have b3:a0.tmps.size=rf.ntmps:=by simp [a0];omega
  have b6:∀k (hk:k<args.length) (J:k<vs.size),Act.tm a0 k=vs[k]:=by
   intro k hk J;simp only [Act.tm,a0,Array.getD_eq_getD_getElem?];rw [Array.getElem?_append_left J];simp [J]
  have b7:∀b0,Fr P glob g s w.heap.size w a0 (yB args 0) (.std rf.ntmps) b0 []:=by
   intro b0
   have Z:∀k e,lk (yB args 0) k=some e→e.owns=false:=by
    intro k e hk;obtain ⟨_,_,rfl⟩:=EP args 0 k hk;rfl
   refine ⟨⟨hb,⟨fun k e hk=>?_,fun k k' e e' hk _ ho=>?_,fun k e hk ho=>?_,fun k e j hk hr=>?_⟩,Nat.le_refl _⟩,b3,rfl,fun l hl=>by simp at hl,List.nodup_nil,fun l hl=>by simp at hl,fun p hp=>by simp at hp⟩
   ·obtain ⟨h1,_,rfl⟩:=EP args 0 k hk;simp only [Nat.sub_zero] at h1;have J:k<vs.size:=by omega
    show Rep g s.length (Act.tm a0 k) args[k - 0];rw [b6 k h1 J]
    have:=hv.2 k (by simpa using J) h1
    rwa [Array.getElem_toList] at this
   ·rw [Z k e hk] at ho;cases ho
   ·rw [Z k e hk] at ho;cases ho
   ·obtain ⟨_,_,rfl⟩:=EP args 0 k hk;simp [EV.refers] at hr
  -- how the call is left
  have S:∀env1 s1,Ext (fn.inner s cx) s s1→(match oG glob env1 s1 fn.res with|some rs=>finish fn.pure fn.keep s s1 (um rs)|none=>.fail)=.ret r s'→
    ∀g1 ls w1 a1,Step qt g s.length w.heap.size w g1 s1.length w1→Fr P glob g1 s1 w.heap.size w1 a1 env1 (.std rf.ntmps) (if fn.keep then s1.length else s.length) ls→LeavesInM Fence.wide m P rf a1.tmps (Ret qt P glob g s w r s') a1.defers .returning w1:=by
   intro env1 s1 he hh g1 ls w1 a1 A x;rw [x.dl,Wd.std_dd,List.append_nil];refine LP (qt:=qt) rfl ls x.sim x.df x.nd (fun w2 a3 O=>?_)
   have a2:∀(l:Nat) (ob:gq),ob≠.dfr→s1[l]?=some ob→(kills ls s1)[l]?=some ob:=by
    intro l ob a9 hl;rw [Ib ls s1 l (fun hm=>by rw [x.df l hm] at hl;cases hl;exact a9 rfl)];exact hl
   have Q:Nc s1 (kills ls s1):=fun l=>⟨fun _=>a2 l _ (by simp),fun _=>a2 l _ (by simp),fun _ _ _ _=>a2 l _ (by simp)⟩
   split at hh
   ·rename_i rs b4;obtain ⟨us,g2,q1,q2,q3,q4⟩:=H7 (a:=a1) a4 a3 (Ju (fun l=>⟨(Q l).1,(Q l).2.2⟩) fn.res b4);refine ⟨Vp us,BZ q1, ?_⟩;have b5:(kills ls s1).length=s1.length:=EQ ls s1;rw [b5] at q2 q4;have R:=EI q4;have a5:Step qt g s.length w.heap.size w g2 s1.length w2:=(A.trans O).trans q2;obtain ⟨g',f1,f2,f3⟩:=yw hb he x.df x.lo q3 a5 R hh;exact ⟨_,g',rfl,f1,f2,f3⟩
   ·cases hh
  have W:∀v s1,Ext (fn.inner s cx) s s1→finish fn.pure fn.keep s s1 v=.ret r s'→
    ∀u g1 ls w1 a1,Step qt g s.length w.heap.size w g1 s1.length w1→Fr P glob g1 s1 w.heap.size w1 a1 [] (.std rf.ntmps) (if fn.keep then s1.length else s.length) ls→Rep g1 s1.length u v→LeavesInM Fence.wide m P rf a1.tmps (Pan qt P glob g s w r s') a1.defers (.panicking [{ v:=u,recovered:=false }]) w1:=by
   intro v s1 he hh u g1 ls w1 a1 A x R;rw [x.dl,Wd.std_dd,List.append_nil];refine LQ (qt:=qt) rfl ls x.sim x.df x.nd (fun w2 a3 O=>?_);obtain ⟨g',f1,f2,f3⟩:=yw hb he x.df x.lo a3.base (A.trans O) R hh;exact ⟨u,g',rfl,f1,f2,f3⟩
  have wp:=fun {out:Out} (I:bG glob call ⟨if fn.pure then s.length else cx.lim,if fn.keep then cx.base else s.length⟩ fn.keep N fn.code (yB args 0) s=out) {s1:St} (A:out.st=some s1)=>
   eG (F:=Fence.wide) (n:=m) b1 a6 b2 (.inl rfl) (fun _=>rfl) hM fn.code c a7 Y (b0:=if fn.keep then s1.length else s.length) (fun hk=>by rw [hk];exact Nat.le_refl _) (b7 _) I (by rw [A];rfl)
  have hx:=fun {out:Out} (I:bG glob call ⟨if fn.pure then s.length else cx.lim,if fn.keep then cx.base else s.length⟩ fn.keep N fn.code (yB args 0) s=out) {s1:St} (A:out.st=some s1)=>
   dN a6 fn.code Y (ro:=fn.keep) (N:=N) (env:=yB args 0) (s':=s1) ((congrArg Out.st I).trans A)
  refine ⟨fun h=>?_,fun h=>?_⟩
  ·refine callsIn_of_wp_marks hf K trivial ?_
   split at h
   ·rename_i env1 s1 I;refine wpIn_mono (wp I (s1:=s1) rfl) (fun e a1 w1 hq=>?_);obtain ⟨rfl,g1,ls,A,x⟩:=hq;exact S env1 s1 (hx I rfl) h g1 ls w1 a1 A x
   ·rename_i env1 s1 I;refine wpIn_mono (wp I (s1:=s1) rfl) (fun e a1 w1 hq=>?_);obtain ⟨rfl,g1,ls,A,x⟩:=hq;exact S env1 s1 (hx I rfl) h g1 ls w1 a1 A x
   ·exact (XM h).elim
   ·cases h
  ·refine callsIn_of_wp_marks hf K trivial ?_
   split at h
   ·exfalso;(repeat' split at h)<;>first | (cases h;done) | (unfold finish at h;(repeat' split at h)<;>cases h)
   ·exfalso;(repeat' split at h)<;>first | (cases h;done) | (unfold finish at h;(repeat' split at h)<;>cases h)
   ·rename_i v s1 I;refine wpIn_mono (wp I (s1:=s1) rfl) (fun e a1 w1 hq=>?_);obtain ⟨u,rfl,g1,ls,A,x,b8⟩:=hq;exact W v s1 (hx I rfl) (U7 h) u g1 ls w1 a1 A x b8
   ·cases h
theorem Xr (p:uw qt P glob call) (A:ji call) (x:Hy qt P glob call) (hM:P.follows .mixedOrders=true) {f:FuncId} {fn:bM} (I:aZ P f fn) {N m:Nat} {args:List AV} {r:AV} (J:gy cx s)
  (h:xG glob call N fn args s cx=.ret r s') (hb:Base P glob g s w) {vs:Array Value} (hv:aX g s.length vs.toList args):CallsIn Fence.wide m P f vs w (Ret qt P glob g s w r s'):=
 (PD p A x hM I J hb hv).1 h
theorem aaN (p:uw qt P glob call) (A:ji call) (x:Hy qt P glob call) (hM:P.follows .mixedOrders=true) {f:FuncId} {fn:bM} (I:aZ P f fn) {N m:Nat} {args:List AV} {r:AV} (J:gy cx s)
  (h:xG glob call N fn args s cx=.pan r s') (hb:Base P glob g s w) {vs:Array Value} (hv:aX g s.length vs.toList args):CallsIn Fence.wide m P f vs w (Pan qt P glob g s w r s'):=
 (PD p A x hM I J hb hv).2 h
end Go.Ai
