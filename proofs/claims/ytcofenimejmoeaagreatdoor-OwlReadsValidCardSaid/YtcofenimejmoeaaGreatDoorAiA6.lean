/-
 One operation of a region.
-/
import Derived.Test.YtcofenimejmoeaaGreatDoorAiA5
import Derived.RangeFuncLeaves
set_option maxRecDepth 100000
set_option linter.unusedSimpArgs false
set_option linter.unusedVariables false
set_option linter.unusedSectionVars false
namespace Go.Ai
variable {qt:Prop} {P:Program} {glob:Nat→Option (List AV)} {g:ai} {s:St} {B:Nat} {w:World} {env:Env} {a:Act} {o:Oper} {call:AV→List AV→St→Ctx→CO} {cx:Ctx} {e:EV} {env':Env} {s':St}
theorem P8:∀{args:List IX} {as:List AV},rds glob env args=some as→zo glob env args=some (as,env)
 | [],as,h=>by simp only [rds,Option.some.injEq] at h;subst h;rfl
 | x::r,as,h=>by
  unfold rds at h
  split at h
  ·cases h
  ·rename_i a ha
   split at h
   ·cases h
   ·rename_i as' has;cases h
    have hx:esc glob env x=some (a,env):=by
     unfold rd at ha;unfold esc
     split at ha
     ·rename_i a' he;rw [he];cases ha;rfl
     ·cases ha
    simp only [zo,hx,P8 has]
theorem Za {d:Nat} {f:IX} {args:List IX} {k:Option (Nat×Nat)} {o:RO} (h:aop glob call cx env s (.callh d f args k)=o) (ho:o≠.fail):aop glob call cx env s (.call f args)=o:=by
 simp only [aop] at h ⊢
 split at h
 ·exact absurd h.symm ho
 ·split at h
  ·rename_i fv as hf ha;rw [hf,P8 ha];dsimp only
   split at h
   ·split at h
    ·exact h
    ·exact absurd h.symm ho
   ·exact h
   ·exact absurd h.symm ho
  ·exact absurd h.symm ho
theorem aeI {ao:AOp} (h:Sim P glob g s B w (Act.tm a) env) (hc:aT P o.op ao=true) (hn:∀f as,ao≠.call f as∧ao≠.callp f as∧∀d k,ao≠.callh d f as k) (hr:aop glob call cx env s ao=.ok e env' s'):Good P glob g s B w a (execOp a.eval o) e env' s':=by
 cases ao with
 | mov x=>exact adS h hc hr
 | asg x=>exact ad4 h hc hr
 | cpy x=>exact adY h hc hr
 | nbuf t sz=>exact abm h hc hr
 | pick c x y=>exact abl h hc hr
 | lbox x=>exact abr h hc hr
 | lalloc zs=>exact NU h hc hr
 | hbox x=>exact aby h hc hr
 | halloc zs=>exact Xp h hc hr
 | load n x=>exact Dc h hc hr
 | loadp d n x=>
  have hc':aT P o.op (.load n x)=true:=by simpa only [aT] using hc
  have hr':aop glob call cx env s (.load n x)=.ok e env' s':=by
   simp only [aop] at hr ⊢
   split at hr
   ·exact hr
   ·cases hr
  exact Dc h hc' hr'
 | store n x y=>exact Ja h hc hr
 | fld off x=>exact adV h hc hr
 | idx sz x i=>exact adU h hc hr
 | idxa len sz x i=>exact abu h hc hr
 | getf off n x=>exact abz h hc hr
 | idxv len sz n x i=>exact absurd hc Bool.false_ne_true
 | idxs x i=>exact abt h hc hr
 | bin op x y=>exact ad1 h hc hr
 | beq neg x y=>exact ad2 h hc hr
 | ieq neg n x y=>exact absurd hc Bool.false_ne_true
 | nileq neg k x=>exact YV h hc hr
 | un op x=>exact afJ h hc hr
 | toInt k x=>exact absurd hc Bool.false_ne_true
 | s2b x=>exact adP h hc hr
 | b2s x=>exact ad3 h hc hr
 | same x=>exact absurd hc Bool.false_ne_true
 | mark x=>exact abp h hc hr
 | markk x=>exact absurd hc Bool.false_ne_true
 | build zs ps=>exact YW h hc hr
 | bsl own t sz len zs ps=>exact adZ h hc hr
 | app t sz x y=>exact ad5 h hc hr
 | apps t x y=>exact absurd hc Bool.false_ne_true
 | appr t sz x y=>exact Ug h hc hr
 | apprp d t sz x y=>
  have hc':aT P o.op (.appr t sz x y)=true:=by simpa only [aT] using hc
  rcases Oi hr with hr' | ⟨v,hy,hxv,hvk,rfl,rfl,rfl⟩
  ·exact Ug h hc' hr'
  ·simp only [aT] at hc
   split at hc
   case h_2=>cases hc
   rename_i c hop
   split at hc
   case h_2=>cases hc
   rename_i ts x' y' hcal hargs
   split at hc
   case h_2=>cases hc
   rename_i t1 t2 htys;simp only [Bool.and_eq_true,beq_iff_eq] at hc;obtain ⟨⟨⟨⟨rfl,hx⟩,hyy⟩,hsl⟩,hinf⟩:=hc;obtain ⟨hu,hsz⟩:=oQ hsl;obtain ⟨i,hi,hisz⟩:=oU hsz;have hnone:∀z∈([]:List AV),z.cells.length=sz:=fun z hm=>absurd hm List.not_mem_nil;obtain ⟨news,q1,q2⟩:=qF hyy h hy hnone;have hrep:=nR (a:=a) hx h.env h.base.glob hxv;refine ⟨a.eval x',w,g,.inl ?_,.refl _ _ _ _,h,.v hrep⟩;refine jY hop hcal hargs htys ?_;generalize a.eval x'=ax at hrep;rcases hvk with rfl|rfl|⟨l,es,rfl⟩
   ·cases hrep with
    | ns=>exact yY hu hi hisz (Nat.le_refl _) q1
   ·cases hrep with
    | se=>exact yY hu hi hisz (Nat.le_refl _) q1
   ·cases hrep with
    | st _ _ _ hl hh hr2=>
     cases hr2 with
     | slNil=>exact yY hu hi hisz (Nat.le_refl _) q1
     | slE=>exact yY hu hi hisz (Nat.le_refl _) q1
     | sl _ _ _ _ _ _ hcc=>exact yY hu hi hisz hcc q1
 | appk t sz x y=>exact MB h hc hr
 | mks t sz zs x=>exact absurd hc Bool.false_ne_true
 | appz t sz zs x y=>exact abG h hc hr
 | appe t sz x y=>exact abH h hc hr
 | appv t sz x y=>exact absurd hc Bool.false_ne_true
 | appks t x y=>exact absurd hc Bool.false_ne_true
 | capn x=>exact abE h hc hr
 | asgk t sz x=>exact absurd hc Bool.false_ne_true
 | lallocp d zs=>
  have hc':aT P o.op (.lalloc zs)=true:=by simpa only [aT] using hc
  have hr':aop glob call cx env s (.lalloc zs)=.ok e env' s':=by
   simp only [aop] at hr ⊢
   split at hr
   ·cases hr
   ·exact hr
  exact NU h hc' hr'
 | storep n x y=>exact Xn h hc hr
 | loadl n x=>
  have hc':aT P o.op (.load n x)=true:=by simpa only [aT] using hc
  have hr':aop glob call cx env s (.load n x)=.ok e env' s':=by
   simp only [aop] at hr ⊢
   split at hr<;>first|exact hr|cases hr
  exact Dc h hc' hr'
 | storel n k x=>
  have hc':aT P o.op (.store n (.t k) x)=true:=by simpa only [aT] using hc
  have hr':aop glob call cx env s (.store n (.t k) x)=.ok e env' s':=by
   simp only [aop] at hr ⊢
   split at hr
   ·rename_i cs xv hk hx
    split at hr
    ·rename_i hcd;obtain ⟨q1,q2,q3,q4⟩:=hcd;have he:KR glob env x=some (xv,env):=by unfold KR;rw [hx]
     have hs:tq glob cx env s n (.t k) xv=some ((k,.bx (splice cs 0 xv.cells))::env,s):=by
      unfold tq;have hev:ev glob env (.t k)=some (.bx cs):=hk;rw [if_pos ⟨q1,q2,q3⟩,hev];simp only [if_pos q4]
     rw [he];simp only [hs];exact hr
    ·cases hr
   ·cases hr
  exact Ja h hc' hr'
 | umap d=>exact absurd hc Bool.false_ne_true
 | uins m k v=>exact absurd hc Bool.false_ne_true
 | bse=>exact absurd hc Bool.false_ne_true
 | clrk zs x=>exact abD h hc hr
 | len k x=>exact adT h hc hr
 | lenA n=>exact absurd hc Bool.false_ne_true
 | minmax isMin x y=>exact absurd hc Bool.false_ne_true
 | slc sz x lo hi=>exact adO h hc hr
 | slcs x lo hi=>exact abk h hc hr
 | slc3 sz x hi mx=>exact absurd hc Bool.false_ne_true
 | ext x i=>exact adW h hc hr
 | mkfn f as cs=>exact abo h hc hr
 | mkif t x=>exact abn h hc hr
 | look kk z ok m k=>exact abq h hc hr
 | mkmap=>exact absurd hc Bool.false_ne_true
 | ins kk m k v=>exact absurd hc Bool.false_ne_true
 | hmap=>exact abv h hc hr
 | hins kk m k v=>exact abw h hc hr
 | hdel kk m k=>exact abx h hc hr
 | call f as=>exact absurd rfl (hn f as).1
 | callp f as=>exact absurd rfl (hn f as).2.1
 | callh d f as k=>exact absurd rfl ((hn f as).2.2 d k)
 | loadw n x bs=>
  have hc':aT P o.op (.load n x)=true:=by simpa only [aT] using hc
  have hr':aop glob call cx env s (.load n x)=.ok e env' s':=by
   simp only [aop] at hr ⊢
   split at hr
   ·split at hr
    ·exact hr
    ·cases hr
   ·cases hr
  exact Dc h hc' hr'
 | loadv x k off=>
  have hc':aT P o.op (.load none x)=true:=by simpa only [aT] using hc
  have hr':aop glob call cx env s (.load none x)=.ok e env' s':=by
   simp only [aop] at hr ⊢
   split at hr
   ·rename_i l o l' o' hx hk
    split at hr
    ·split at hr
     ·rename_i m hm;unfold LZ at hm;unfold kT;rw [hx];dsimp only
      cases hs:s[l]? with
      | none=>rw [hs] at hm;cases hm
      | some ob=>
       rw [hs] at hm
       cases ob with
       | cells cs=>
        dsimp only at hm ⊢
        cases hcs:cs[o]? with
        | none=>rw [hcs] at hm;cases hm
        | some v=>
         rw [hcs] at hm
         cases v<;>(try (cases hm;done))
         cases hm
         simpa [okv,part,hcs] using hr
       | _=>cases hm
     ·cases hr
    ·cases hr
   ·cases hr
  exact Dc h hc' hr'
 | nilchk x=>exact Xo h hc hr
 | panic x=>simp only [aop] at hr;split at hr<;>cases hr
theorem Step.lower {g g':ai} {n n' B B':Nat} {w w':World} (h:Step qt g n B' w g' n' w') (hB:B≤B'):Step qt g n B w g' n' w':=
 ⟨h.le,h.size,fun b hb=>h.keep b (by omega),fun b hb=>h.m b (by omega),fun b hb=>h.mm b (by omega),fun b hb=>(h.new b hb).imp id (fun hh=>by omega),h.io⟩
def Ret (qt:Prop) (P:Program) (glob:Nat→Option (List AV)) (g:ai) (s:St) (w:World) (r:AV) (s':St):Ending→World→Prop:=
 fun e w'=>∃v g',e=.returned v∧Step qt g s.length w.heap.size w g' s'.length w'∧Base P glob g' s' w'∧Rep g' s'.length v r
def callOf (f:Value) (args:Array Value):Sem Next:=do let d ←Deferred.ofValue f args;invoke d.target d.args
def Pan (qt:Prop) (P:Program) (glob:Nat→Option (List AV)) (g:ai) (s:St) (w:World) (r:AV) (s':St):Ending→World→Prop:=
 fun e w'=>∃u g',e=.panicked [{ v:=u,recovered:=false }]∧Step qt g s.length w.heap.size w g' s'.length w'∧Base P glob g' s' w'∧Rep g' s'.length u r
structure tH (qt:Prop) (P:Program) (glob:Nat→Option (List AV)) (call:AV→List AV→St→Ctx→CO):Prop where
 fn:∀fv args s cx r s',gq cx s→(∀l,fv≠.yl l)→call fv args s cx=.ret r s'→∀g w f vs,Base P glob g s w→Rep g s.length f fv→aW g s.length vs.toList args→
  ∃fid args',(callOf f vs).run P w=.ok (.enter fid args') w∧∀m,CallsIn Fence.wide m P fid args' w (Ret qt P glob g s w r s')
 yl:∀l args s cx r s',gq cx s→call (.yl l) args s cx=.ret r s'→∀g w f vs,Base P glob g s w→Rep g s.length f (.yl l)→aW g s.length vs.toList args→
  ∃l' fid tmps asg body,(callOf f vs).run P w=.ok (.round l' fid tmps asg body) w∧∀m,RoundIn Fence.wide m P l' fid tmps asg body w (Ret qt P glob g s w r s')
 pan:∀fv args s cx r s',gq cx s→call fv args s cx=.pan r s'→∀g w f vs,Base P glob g s w→Rep g s.length f fv→aW g s.length vs.toList args→
  ∃fid args',(callOf f vs).run P w=.ok (.enter fid args') w∧∀m,CallsIn Fence.wide m P fid args' w (Pan qt P glob g s w r s')
def isF (F:Fence):Prop:=F=Fence.wide∨∃l,F=Fence.wide.inRound l
theorem isF.fn {F:Fence} (h:isF F) (f:FuncId):F.fn f:=by rcases h with rfl|⟨l,rfl⟩<;>trivial
theorem isF.depth {F:Fence} (h:isF F):F.depth=none:=by rcases h with rfl|⟨l,rfl⟩<;>rfl
theorem isF.calls {F:Fence} (h:isF F) {m:Nat} {f:FuncId} {args:Array Value} {R:Ending→World→Prop} (hc:CallsIn Fence.wide m P f args w R):CallsIn F m P f args w R:=by
 rcases h with rfl|⟨l,rfl⟩
 ·exact hc
 ·exact hc
theorem isF.rounds {F:Fence} (h:isF F) {m l:Nat} {f:FuncId} {tmps:Array Value} {asg body:Code} {R:Ending→World→Prop} (hc:RoundIn Fence.wide m P l f tmps asg body w R):RoundIn F m P l f tmps asg body w R:=by
 rcases h with rfl|⟨l,rfl⟩
 ·exact hc
 ·exact hc
structure Fr (P:Program) (glob:Nat→Option (List AV)) (g:ai) (s:St) (B:Nat) (w:World) (a:Act) (env:Env) (N:Wd) (b0:Nat) (ls:List Nat):Prop where
 sim:Sim P glob g s B w (Act.tm a) env
 sz:a.tmps.size=N.n
 dl:a.defers=(ls.map fun l=>{ target:=.collected (g.L l),args:=#[] })++N.dd
 df:∀l∈ls,s[l]?=some .dfr
 nd:ls.Nodup
 lo:∀l∈ls,b0≤l
 pin:∀p∈N.pn,p.1<N.lo∧p.2<s.length∧Act.tm a p.1=.pointer (some ⟨g.L p.2,0,none⟩)
theorem Yj {a:Act} {d:Nat} {v:Value} (h:d<a.tmps.size):Act.tm (a.put (some d) v)=upd (Act.tm a) d v:=by
 funext k
 simp only [Act.put,Act.tm,upd];by_cases hk:k=d
 ·subst hk;simp [Array.getD_eq_getD_getElem?,h]
 ·rw [if_neg hk];simp [Array.getD_eq_getD_getElem?,Array.getElem?_setIfInBounds,Ne.symm hk]
theorem put_defers {a:Act} {d:Option Nat} {v:Value}:(a.put d v).defers=a.defers:=by cases d<;>rfl
theorem acQ {a:Act} {d:Option Nat} {v:Value}:(a.put d v).tmps.size=a.tmps.size:=by cases d<;>simp [Act.put]
theorem Fr.next {b0:Nat} {N:Wd} {ls:List Nat} {g':ai} {w':World} {a':Act} (h:Fr P glob g s B w a env N b0 ls) (hs:Sim P glob g' s' B w' (Act.tm a') env') (hsz:a'.tmps.size=a.tmps.size) (hd:a'.defers=a.defers)
  (hle:g.le s.length g' s'.length) (he:∀l:Nat,s[l]?=some fZ.dfr→s'[l]?=some fZ.dfr) (hp:∀k,k<N.lo→Act.tm a' k=Act.tm a k):Fr P glob g' s' B w' a' env' N b0 ls:=by
 refine ⟨hs,hsz.trans h.sz,hd.trans (h.dl.trans (congrArg (·++N.dd) (List.map_congr_left fun l hl=>?_))),fun l hl=>he l (h.df l hl),h.nd,h.lo,fun p hpn=>?_⟩
 ·rw [hle.L l (List.getElem?_eq_some_iff.1 (h.df l hl)).1]
 ·obtain ⟨q1,q2,q3⟩:=h.pin p hpn;exact ⟨q1,Nat.lt_of_lt_of_le q2 hle.n,by rw [hp _ q1,q3,hle.L _ q2]⟩
theorem Fr.put {b0:Nat} {N:Wd} {ls:List Nat} {g':ai} {w':World} {v:Value} {dst:Option Nat} (h:Fr P glob g s B w a env N b0 ls) (hd:∀d,dst=some d→d<N.n∧N.lo≤d) (hs:Sim P glob g' s' B w' (Act.tm a) env') (hn:New g' s'.length B w' (Act.tm a) env' e v)
  (href:∀d,dst=some d→e.refers d=false) (hle:g.le s.length g' s'.length) (he:∀l:Nat,s[l]?=some fZ.dfr→s'[l]?=some fZ.dfr):
  Fr P glob g' s' B w' (a.put dst v) (match dst with|some d=>put env' d e|none=>env') N b0 ls:=by
 cases dst with
 | none=>exact h.next hs rfl rfl hle he (fun _ _=>rfl)
 | some d=>
  refine h.next ?_ acQ put_defers hle he (fun k hk=>?_)
  ·rw [Yj (by rw [h.sz];exact (hd d rfl).1)];exact hs.put hn d (href d rfl)
  ·rw [Yj (by rw [h.sz];exact (hd d rfl).1)];exact if_neg (by have:=(hd d rfl).2;omega)
theorem getD_some {tmps:Array Value} {k:Nat} {v:Value} (h:tmps.getD k undef=v) (hv:v≠undef):tmps[k]?=some v:=by
 rw [Array.getD_eq_getD_getElem?] at h
 cases hk:tmps[k]? with
 | none=>rw [hk] at h;simp at h;exact absurd h.symm hv
 | some u=>rw [hk] at h;simp at h;rw [h]
theorem Dx {ops:Array Oper} {gd:Option (Nat×Bool)} (hg:FI ops o.guard gd=true) (h:iU g s.length B w (Act.tm a) env) {b:Bool} (hw:gU env gd=some b):Region.wanted o (yielded ops a.tmps)=b:=by
 unfold Region.wanted
 cases hog:o.guard with
 | none=>
  cases gd with
  | none=>simp [gU] at hw;subst hw;rfl
  | some p=>simp [FI,hog] at hg
 | some p=>
  obtain ⟨j,want⟩:=p
  cases gd with
  | none=>simp [FI,hog] at hg
  | some q=>
  obtain ⟨k,want'⟩:=q;simp only [FI,hog] at hg;simp only [];simp only [Bool.and_eq_true,beq_iff_eq] at hg;obtain ⟨rfl,hd⟩:=hg;simp only [gU] at hw
  split at hw
  ·rename_i x hk;cases hw;have hr:=h.rel k _ hk;have ht:Act.tm a k=.bool x:=vJ hr
   have:=getD_some (tmps:=a.tmps) (k:=k) ht (by simp [undef])
   simp only [yielded,hd,Option.bind_some,this]
   cases x<;>cases want<;>rfl
  ·rename_i hk;cases hw;have hr:Rep g s.length (Act.tm a k) (.tu []):=h.rel k _ hk
   have ht:Act.tm a k=undef:=by
    generalize Act.tm a k=t at hr
    cases hr with
    | tu vs _ hl _=>
     have:vs=#[]:=Array.eq_empty_of_size_eq_zero (by simpa using hl)
     subst this;rfl
   have hy:yielded ops a.tmps j=none:=by
    simp only [yielded,hd,Option.bind_some]
    cases hk2:a.tmps[k]? with
    | none=>rfl
    | some u=>
     have:u=undef:=by
      rw [←ht];simp [Act.tm,Array.getD_eq_getD_getElem?,hk2]
     subst this;rfl
   simp only [hy]
   cases want<;>rfl
  ·cases hw
theorem TT {ao:AOp} (hc:aT P o.op ao=true):∀c,o.op≠.defer c:=by
 intro c hd;rw [hd] at hc
 cases ao<;>simp [aT] at hc
theorem EZ {F:Fence} {n i b0:Nat} {N:Wd} {ls:List Nat} {ops:Array Oper} {ao:aI} {Q:Exit→Act→World→Prop} {K:Act→World→Prop} (hcall:tH qt P glob call) (hext:jh call) (hF:isF F) (hcx:gq cx s) (h:Fr P glob g s B w a env N b0 ls)
  (hi:ops[i]?=some o) (hc:wE P N ops o ao=true) (hr:fK glob call cx ao env s=.norm env' s')
  (hK:∀g' w' a',Step qt g s.length B w g' s'.length w'→Fr P glob g' s' B w' a' env' N b0 ls→K a' w'):wpOpIn F n P ops Q i K a w:=by
 have hext2:Ext cx s s':=qj hext hcx (o:=ao) (by rw [hr];rfl);simp only [wE,Bool.and_eq_true,beq_iff_eq] at hc;obtain ⟨⟨⟨hdst,hdN⟩,hguard⟩,hop⟩:=hc;have hdN':∀d,o.dst=some d→d<N.n∧N.lo≤d:=fun d hd=>by rw [hd] at hdN;simpa using hdN
 unfold wpOpIn;rw [hi];simp only [];unfold fK at hr
 split at hr
 ·cases hr
 ·rename_i hw;have hwant:=Dx hguard h.sim.env hw;rw [hwant];simp only [Bool.false_eq_true,if_false];refine ⟨fun f _=>hF.fn f, ?_⟩;have hnew:New g s.length B w (Act.tm a) env (.v (.tu [])) undef:=.v (.tu #[] [] rfl (fun i hi=>by simp at hi));rw [←hdst] at hr
  cases hd:o.dst with
  | none=>rw [hd] at hr;simp at hr;obtain ⟨rfl,rfl⟩:=hr;exact hK g w _ (.refl _ _ _ _) h
  | some d=>
   rw [hd] at hr;simp at hr;obtain ⟨rfl,rfl⟩:=hr
   have:=h.put (dst:=some d) (fun d' hd'=>by cases hd';exact hdN' d hd) h.sim hnew (fun d' _=>by simp [EV.refers]) (.refl _ _) (fun _ hl=>hl)
   exact hK g w _ (.refl _ _ _ _) this
 ·rename_i hw;have hwant:=Dx hguard h.sim.env hw;rw [hwant];simp only [if_true];refine ⟨fun f _=>hF.fn f, ?_⟩;rw [Oper.semAt_eq _ _ _ (TT hop)]
  split at hr
  ·cases hr
  ·cases hr
  ·rename_i e1 env1 s1 ha
   -- the entry that is set
   have hfin:∀g' w' v,Step qt g s.length B w g' s1.length w'→Sim P glob g' s1 B w' (Act.tm a) env1→New g' s1.length B w' (Act.tm a) env1 e1 v→K (a.put o.dst v) w':=by
    intro g' w' v hs hsim hnew;rw [←hdst] at hr
    cases hd:o.dst with
    | none=>
     rw [hd] at hr;simp at hr;obtain ⟨rfl,rfl⟩:=hr
     have:=h.put (dst:=none) (fun d' hd'=>by cases hd') hsim hnew (fun d' hd'=>by cases hd') hs.le hext2.dfr
     exact hK g' w' _ hs this
    | some d=>
     rw [hd] at hr;simp only [] at hr
     split at hr
     ·cases hr
     ·rename_i href;simp at hr;obtain ⟨rfl,rfl⟩:=hr
      have:=h.put (dst:=some d) (fun d' hd'=>by cases hd';exact hdN' d hd) hsim hnew (fun d' hd'=>by cases hd';simpa using href) hs.le hext2.dfr
      exact hK g' w' _ hs this
   by_cases hcl:∃f as,ao.op=.call f as∨ao.op=.callp f as∨∃d k,ao.op=.callh d f as k
   ·obtain ⟨f,as,hcop⟩:=hcl
    replace ha:aop glob call cx env s (.call f as)=.ok e1 env1 s1:=by
     rcases hcop with hcop|hcop|⟨d,k,hcop⟩<;>rw [hcop] at ha
     ·exact ha
     ·exact ha
     ·exact Za ha (by simp)
    replace hop:aT P o.op (.call f as)=true:=by rcases hcop with hcop|hcop|⟨d,k,hcop⟩<;>(rw [hcop] at hop;exact hop)
    simp only [aop] at ha
    split at ha
    ·rename_i fv args env2 hfv hargs
     split at ha
     ·rename_i r s2 hcr;cases ha;simp only [aT] at hop
      split at hop
      ·rename_i c hoc
       split at hop
       ·rename_i f' hcal;simp only [Bool.and_eq_true] at hop;obtain ⟨g1,s1',m1,r1⟩:=wK hop.2 h.sim hargs;have hfr:Rep g1 s.length (a.eval f') fv:=(aJ (a:=a) hop.1 h.sim.env h.sim.base.glob hfv).mono s1'.le
        have hex:execOp a.eval o=callOf (a.eval f') (c.args.map a.eval):=by
         simp only [execOp,hoc,resolve,hcal,callOf]
        have r1':aW g1 s.length (c.args.map a.eval).toList args:=by simpa using r1
        have hback:∀v w',(∃v' g',Ending.returned v=.returned v'∧Step qt g1 s.length w.heap.size w g' s1.length w'∧Base P glob g' s1 w'∧Rep g' s1.length v' r)→K (a.put o.dst v) w':=by
         rintro v w' ⟨v',g',hv,hst,hb,hrep⟩;cases hv;have hB:=m1.B;have hst':Step qt g1 s.length B w g' s1.length w':=hst.lower hB;refine hfin g' w' v (s1'.weak.trans hst') ⟨hb, ?_,by have:=hst.size;omega⟩ (.v hrep);refine m1.env.next hst.le (fun k e hk ho b hbk=>?_);have hlt:=Az m1.env hk ho hbk;have hoff:=m1.env.off k e hk ho b hbk;exact ⟨hst.keep b hlt hoff,hst.m b hlt hoff,hst.mm b hlt,fun ht=>(hst.new b ht).elim id (fun hh=>by omega)⟩
        rw [hex]
        cases hyl:fv with
        | yl l=>
         rw [hyl] at hcr hfr;obtain ⟨l',fid,tmps,asg,body,q1,q2⟩:=hcall.yl l args s cx r _ hcx hcr g1 w _ _ m1.base hfr r1';rw [q1,Oper.uponIn_round];refine ⟨fun hd=>by rw [hF.depth] at hd;simp at hd,hF.rounds ((q2 (n - 1)).mono fun e w' he=>?_)⟩;obtain ⟨v,g',rfl,hrest⟩:=he;exact hback v w' ⟨v,g',rfl,hrest⟩
        | _=>
         all_goals
          obtain ⟨fid,args',q1,q2⟩:=hcall.fn fv args s cx r _ hcx (by rw [hyl];intro l hl;cases hl) hcr g1 w _ _ m1.base hfr r1';rw [q1,Oper.uponIn_enter];refine ⟨fun hd=>by rw [hF.depth] at hd;simp at hd,hF.calls ((q2 (n - 1)).mono fun e w' he=>?_)⟩;obtain ⟨v,g',rfl,hrest⟩:=he;exact hback v w' ⟨v,g',rfl,hrest⟩
       ·cases hop
      ·cases hop
     ·cases ha
     ·cases ha
    ·cases ha
   ·obtain ⟨v,w',g',hx,hst,hsim,hnew⟩:=aeI (o:=o) h.sim hop (fun f as=>⟨fun hfa=>hcl ⟨f,as,.inl hfa⟩,fun hfa=>hcl ⟨f,as,.inr (.inl hfa)⟩,fun d k hfa=>hcl ⟨f,as,.inr (.inr ⟨d,k,hfa⟩)⟩⟩) ha;rcases hx with hx|⟨hx,rfl⟩
    ·rw [hx,Oper.uponIn_value];exact hfin g' w' v hst.weak hsim hnew
    ·rw [hx,Oper.uponIn_skip];exact hfin g' w' _ hst.weak hsim hnew
theorem agi {op:AOp} {v:AV} (h:aop glob call cx env s op=.pan v s'):(∃f as fv args env2,(op=.call f as∨op=.callp f as∨∃d k,op=.callh d f as k)∧rd glob env f=some fv∧zo glob env as=some (args,env2)∧call fv args s cx=.pan v s')∨
  ∃x t a env2,op=.panic x∧esc glob env x=some (.ifc t a,env2)∧v=.ifc t a∧s'=s:=by
 cases op with
 | call f args=>
  simp only [aop] at h
  split at h
  ·rename_i h1 h2
   split at h
   ·cases h
   ·rename_i hc;cases h;exact .inl ⟨_,_,_,_,_,.inl rfl,h1,h2,hc⟩
   ·cases h
  ·cases h
 | callp f args=>
  simp only [aop] at h
  split at h
  ·rename_i h1 h2
   split at h
   ·cases h
   ·rename_i hc;cases h;exact .inl ⟨_,_,_,_,_,.inr (.inl rfl),h1,h2,hc⟩
   ·cases h
  ·cases h
 | loadw n a bs=>
  exfalso;simp only [aop,okv] at h
  (repeat' split at h)<;>cases h
 | loadv a k off=>
  exfalso;simp only [aop] at h
  (repeat' split at h)<;>cases h
 | callh d f args k=>
  simp only [aop] at h
  split at h
  ·cases h
  ·split at h
   ·rename_i h1 h2
    split at h
    ·split at h<;>cases h
    ·rename_i hc;cases h;exact .inl ⟨_,_,_,_,_,.inr (.inr ⟨_,_,rfl⟩),h1,P8 h2,hc⟩
    ·cases h
   ·cases h
 | panic x=>
  simp only [aop] at h
  split at h
  ·rename_i h1;cases h;exact .inr ⟨_,_,_,_,rfl,h1,rfl,rfl⟩
  ·cases h
 | len k x=>
  exfalso
  match k with
  | 0=>simp only [aop] at h;(repeat' split at h)<;>cases h
  | 1=>simp only [aop] at h;(repeat' split at h)<;>cases h
  | 2=>simp only [aop] at h;(repeat' split at h)<;>cases h
  | k+3=>simp only [aop] at h;cases h
 | _=>
  exfalso;simp only [aop,okv] at h
  (repeat' split at h)<;>cases h
theorem Fr.bare {b0:Nat} {N:Wd} {ls:List Nat} (h:Fr P glob g s B w a env N b0 ls):Fr P glob g s B w a [] N b0 ls:=
 ⟨⟨h.sim.base,h.sim.env.keep [],h.sim.B⟩,h.sz,h.dl,h.df,h.nd,h.lo,h.pin⟩
theorem ac1 {F:Fence} {n i b0:Nat} {N:Wd} {ls:List Nat} {ops:Array Oper} {ao:aI} {v:AV} {Q:Exit→Act→World→Prop} {K:Act→World→Prop} (hcall:tH qt P glob call) (hext:jh call) (hF:isF F) (hcx:gq cx s) (h:Fr P glob g s B w a env N b0 ls)
  (hi:ops[i]?=some o) (hc:wE P N ops o ao=true) (hr:fK glob call cx ao env s=.pan v s')
  (hQ:∀u g' w' a',Step qt g s.length B w g' s'.length w'→Fr P glob g' s' B w' a' [] N b0 ls→Rep g' s'.length u v→Q (.panic [{ v:=u,recovered:=false }]) a' w'):wpOpIn F n P ops Q i K a w:=by
 have hext2:Ext cx s s':=qj hext hcx (o:=ao) (by rw [hr];rfl);simp only [wE,Bool.and_eq_true,beq_iff_eq] at hc;obtain ⟨⟨⟨hdst,hdN⟩,hguard⟩,hop⟩:=hc;unfold wpOpIn;rw [hi];simp only [];unfold fK at hr
 split at hr
 ·cases hr
 ·split at hr<;>cases hr
 ·rename_i hw;have hwant:=Dx hguard h.sim.env hw;rw [hwant];simp only [if_true];refine ⟨fun f _=>hF.fn f, ?_⟩;rw [Oper.semAt_eq _ _ _ (TT hop)]
  split at hr
  ·cases hr
  ·rename_i v1 s1 ha;cases hr;rcases agi ha with ⟨f,as,fv,args,env2,hcop,hfv,hargs,hcr⟩|⟨x,t,av,env2,hpo,hx,rfl,rfl⟩
   ·replace hop:aT P o.op (.call f as)=true:=by rcases hcop with hcop|hcop|⟨d,k,hcop⟩<;>(rw [hcop] at hop;exact hop)
    simp only [aT] at hop
    split at hop
    ·rename_i c hoc
     split at hop
     ·rename_i f' hcal;simp only [Bool.and_eq_true] at hop;obtain ⟨g1,s1',m1,r1⟩:=wK hop.2 h.sim hargs;have hfr:Rep g1 s.length (a.eval f') fv:=(aJ (a:=a) hop.1 h.sim.env h.sim.base.glob hfv).mono s1'.le
      have hex:execOp a.eval o=callOf (a.eval f') (c.args.map a.eval):=by
       simp only [execOp,hoc,resolve,hcal,callOf]
      have r1':aW g1 s.length (c.args.map a.eval).toList args:=by simpa using r1
      obtain ⟨fid,args',q1,q2⟩:=hcall.pan fv args s cx v s' hcx hcr g1 w _ _ m1.base hfr r1';rw [hex,q1,Oper.uponIn_enter];refine ⟨fun hd=>by rw [hF.depth] at hd;simp at hd,hF.calls ((q2 (n - 1)).mono fun e w' he=>?_)⟩;obtain ⟨u,g',rfl,hst,hb,hrep⟩:=he;have hB:=m1.B;have hst':Step qt g1 s.length B w g' s'.length w':=hst.lower hB;have hst2:Step qt g s.length B w g' s'.length w':=s1'.weak.trans hst';have hf0:=h.bare;refine hQ u g' w' a hst2 ?_ hrep;refine hf0.next ⟨hb, ?_,by have:=hst.size;omega⟩ rfl rfl hst2.le hext2.dfr (fun _ _=>rfl);exact ⟨fun k e hk=>by simp [lk] at hk,fun k k' e e' hk=>by simp [lk] at hk,fun k e hk=>by simp [lk] at hk,fun k e j hk=>by simp [lk] at hk⟩
     ·cases hop
    ·cases hop
   ·rw [hpo] at hop;simp only [aT] at hop
    split at hop
    ·rename_i x' hox
     have hex:execOp a.eval o=(do pure (.value (←Instr.panic (a.eval x')))):=by simp only [execOp,hox]
     obtain ⟨g1,s1',m1,r1⟩:=qE hop h.sim hx
     obtain ⟨vv,hvv,hrv⟩:∃vv,a.eval x'=.iface t vv∧Rep g1 s'.length vv av:=by
      generalize a.eval x'=z at r1
      cases r1 with
      | ifc _ vv _ hr=>exact ⟨vv,rfl,hr⟩
     have hrun:(execOp a.eval o).run P w=.halt (.panic (.iface t vv)) w:=by rw [hex,hvv];rfl
     rw [hrun,Oper.uponIn_panic];have hst2:Step qt g s'.length B w g1 s'.length w:=s1'.weak;have hf0:=h.bare;refine hQ _ g1 w a hst2 ?_ (.ifc t vv av hrv);refine hf0.next ⟨m1.base, ?_,m1.B⟩ rfl rfl hst2.le (fun _ hl=>hl) (fun _ _=>rfl);exact ⟨fun k e hk=>by simp [lk] at hk,fun k k' e e' hk=>by simp [lk] at hk,fun k e hk=>by simp [lk] at hk,fun k e j hk=>by simp [lk] at hk⟩
    ·cases hop
  ·split at hr
   ·split at hr<;>cases hr
   ·cases hr
end Go.Ai
namespace Go.Ai
variable {qt:Prop} {P:Program} {glob:Nat→Option (List AV)} {g:ai} {s:St} {B:Nat} {w:World} {env:Env} {a:Act} {call:AV→List AV→St→Ctx→CO} {cx:Ctx} {env':Env} {s':St}
theorem CP {F:Fence} {n b0:Nat} {N:Wd} {ls:List Nat} {ops:Array Oper} {Q:Exit→Act→World→Prop} (hcall:tH qt P glob call) (hext:jh call) (hF:isF F):
  ∀(os:List Oper) (aos:List aI) (i:Nat) {g:ai} {s:St} {w:World} {a:Act} {env:Env},ops.toList.drop i=os→mJ P N ops os aos=true→gq cx s→Fr P glob g s B w a env N b0 ls→
    mD glob call cx aos env s=.norm env' s'→(∀g' w' a',Step qt g s.length B w g' s'.length w'→Fr P glob g' s' B w' a' env' N b0 ls→Q .normal a' w')→wpOpsIn F n P ops Q (List.range' i os.length) a w
 | [],aos,i,g,s,w,a,env,hos,hc,hcx,h,hr,hQ=>by
  cases aos with
  | nil=>simp [mD] at hr;obtain ⟨rfl,rfl⟩:=hr;exact hQ g w a (.refl _ _ _ _) h
  | cons x r=>simp [mJ] at hc
 | o::os,aos,i,g,s,w,a,env,hos,hc,hcx,h,hr,hQ=>by
  cases aos with
  | nil=>simp [mJ] at hc
  | cons ao aos=>
   simp only [mJ,Bool.and_eq_true] at hc
   have hi:ops[i]?=some o:=by
    have:(ops.toList.drop i)[0]?=some o:=by rw [hos];rfl
    simpa using this
   have hos':ops.toList.drop (i+1)=os:=by
    have:=congrArg List.tail hos
    simpa using this
   unfold mD at hr
   split at hr
   ·rename_i env1 s1 hr1;simp only [List.length_cons,List.range'_succ];rw [wpOpsIn_cons];have he:Ext cx s s1:=qj hext hcx (o:=ao) (by rw [hr1];rfl);refine EZ hcall hext hF hcx h hi hc.1 hr1 (fun g1 w1 a1 st1 h1=>?_);exact CP hcall hext hF os aos (i+1) hos' hc.2 (hcx.ext he) h1 hr (fun g2 w2 a2 st2 h2=>hQ g2 w2 a2 (st1.trans st2) h2)
   ·rename_i hne;exact absurd hr (by intro hh;exact hne _ _ hh)
theorem ZK {F:Fence} {n b0:Nat} {N:Wd} {ls:List Nat} {ops:Array Oper} {v:AV} {Q:Exit→Act→World→Prop} (hcall:tH qt P glob call) (hext:jh call) (hF:isF F):
  ∀(os:List Oper) (aos:List aI) (i:Nat) {g:ai} {s:St} {w:World} {a:Act} {env:Env},ops.toList.drop i=os→mJ P N ops os aos=true→gq cx s→Fr P glob g s B w a env N b0 ls→
    mD glob call cx aos env s=.pan v s'→(∀u g' w' a',Step qt g s.length B w g' s'.length w'→Fr P glob g' s' B w' a' [] N b0 ls→Rep g' s'.length u v→Q (.panic [{ v:=u,recovered:=false }]) a' w')→wpOpsIn F n P ops Q (List.range' i os.length) a w
 | [],aos,i,g,s,w,a,env,hos,hc,hcx,h,hr,hQ=>by
  cases aos with
  | nil=>simp [mD] at hr
  | cons x r=>simp [mJ] at hc
 | o::os,aos,i,g,s,w,a,env,hos,hc,hcx,h,hr,hQ=>by
  cases aos with
  | nil=>simp [mJ] at hc
  | cons ao aos=>
   simp only [mJ,Bool.and_eq_true] at hc
   have hi:ops[i]?=some o:=by
    have:(ops.toList.drop i)[0]?=some o:=by rw [hos];rfl
    simpa using this
   have hos':ops.toList.drop (i+1)=os:=by
    have:=congrArg List.tail hos
    simpa using this
   simp only [List.length_cons,List.range'_succ];rw [wpOpsIn_cons];unfold mD at hr
   split at hr
   ·rename_i env1 s1 hr1;have he:Ext cx s s1:=qj hext hcx (o:=ao) (by rw [hr1];rfl);refine EZ hcall hext hF hcx h hi hc.1 hr1 (fun g1 w1 a1 st1 h1=>?_);exact ZK hcall hext hF os aos (i+1) hos' hc.2 (hcx.ext he) h1 hr (fun u g2 w2 a2 st2 h2 hv=>hQ u g2 w2 a2 (st1.trans st2) h2 hv)
   ·exact ac1 hcall hext hF hcx h hi hc.1 hr hQ
theorem PX {o:aI} {out:Out} (h:fK glob call cx o env s=out):out=.fail∨(∃v s1,out=.pan v s1)∨∃e1 s1,out=.norm e1 s1:=by
 unfold fK at h
 split at h
 ·exact .inl h.symm
 ·split at h<;>exact .inr (.inr ⟨_,_,h.symm⟩)
 ·split at h
  ·exact .inl h.symm
  ·exact .inr (.inl ⟨_,_,h.symm⟩)
  ·split at h
   ·split at h
    ·exact .inl h.symm
    ·exact .inr (.inr ⟨_,_,h.symm⟩)
   ·exact .inr (.inr ⟨_,_,h.symm⟩)
theorem Nu:∀(l:List aI) {env:Env} {s:St} {out:Out},mD glob call cx l env s=out→out=.fail∨(∃v s1,out=.pan v s1)∨∃e1 s1,out=.norm e1 s1
 | [],env,s,out,h=>by simp [mD] at h;exact .inr (.inr ⟨_,_,h.symm⟩)
 | o::r,env,s,out,h=>by
  unfold mD at h
  split at h
  ·exact Nu r h
  ·exact PX h
theorem aaP {o:aI} {out:Out} (h:gZ glob call cx o env s=out):out=.fail∨(∃v s1,out=.pan v s1)∨∃e1 s1,out=.norm e1 s1:=by
 unfold gZ at h
 split at h
 ·unfold AZ at h
  split at h
  ·exact .inl h.symm
  ·split at h
   ·exact .inr (.inr ⟨_,_,h.symm⟩)
   ·split at h
    ·exact .inr (.inr ⟨_,_,h.symm⟩)
    ·exact .inl h.symm
 ·exact PX h
theorem JL {aops:List aI}:∀(l:List Nat) {env:Env} {s:St} {out:Out},jw glob call cx aops l env s=out→out=.fail∨(∃v s1,out=.pan v s1)∨∃e1 s1,out=.norm e1 s1
 | [],env,s,out,h=>by simp [jw] at h;exact .inr (.inr ⟨_,_,h.symm⟩)
 | o::r,env,s,out,h=>by
  unfold jw at h
  split at h
  ·exact .inl h.symm
  ·split at h
   ·exact JL r h
   ·exact aaP h
theorem Wp {aops:List aI} {ord:Option (List Nat×List Nat)} {out:Out} (h:rC glob call cx aops env s ord=out):out=.fail∨(∃v s1,out=.pan v s1)∨∃e1 s1,out=.norm e1 s1:=by
 cases ord with
 | none=>exact Nu _ h
 | some p=>
  simp only [rC] at h;rcases JL (glob:=glob) (call:=call) (cx:=cx) (aops:=aops) p.1 (env:=Ce env p.2) (s:=s) rfl with hd|⟨v,s1,hd⟩|⟨e1,s1,hd⟩
  ·rw [hd] at h;exact .inl h.symm
  ·rw [hd] at h
   replace h:yx glob call cx aops p.1 (Ce env p.2) s=out:=h
   by_cases hf:out=.fail
   ·exact .inl hf
   ·obtain ⟨_,_,_,_,v',s2,_,_,_,_,h3⟩:=Bo h hf;exact .inr (.inl ⟨v',s2,h3⟩)
  ·rw [hd] at h;exact .inr (.inr ⟨e1,s1,h.symm⟩)
def Gi (qt:Prop) (P:Program) (glob:Nat→Option (List AV)) (call:AV→List AV→St→Ctx→CO):Prop:=
 (∀{F:Fence} {n id B b0:Nat} {N:Wd} {ls:List Nat} {ops:Array Oper} {aops:List aI} {π ts:List Nat} {Q:Exit→Act→World→Prop} {cx:Ctx} {g:ai} {s s':St} {w:World} {a:Act} {env env':Env},isF F→mJ P N ops ops.toList aops=true→KZ ops aops π=true→gq cx s→
  Fr P glob g s B w a env N b0 ls→rC glob call cx aops env s (some (π,ts))=.norm env' s'→(∀g' w' a',Step qt g s.length B w g' s'.length w'→Fr P glob g' s' B w' a' env' N b0 ls→Q .normal a' w')→
  (Code.region id ops true).wpIn F n P Q a w)∧
 ∀{F:Fence} {n id B b0:Nat} {N:Wd} {ls:List Nat} {ops:Array Oper} {aops:List aI} {π ts:List Nat} {Q:Exit→Act→World→Prop} {cx:Ctx} {g:ai} {s s':St} {w:World} {a:Act} {env:Env} {v:AV},isF F→mJ P N ops ops.toList aops=true→KZ ops aops π=true→gq cx s→
  Fr P glob g s B w a env N b0 ls→rC glob call cx aops env s (some (π,ts))=.pan v s'→(∀u g' w' a',Step qt g s.length B w g' s'.length w'→Fr P glob g' s' B w' a' [] N b0 ls→Rep g' s'.length u v→Q (.panic [{ v:=u,recovered:=false }]) a' w')→
  (Code.region id ops true).wpIn F n P Q a w
def RU (qt:Prop) (P:Program) (glob:Nat→Option (List AV)) (g:ai) (s:St) (B:Nat) (w:World) (N:Wd) (b0:Nat):Out→Exit→Act→World→Prop
 | .norm env' s',e,a',w'=>e=.normal∧∃g' ls',Step qt g s.length B w g' s'.length w'∧Fr P glob g' s' B w' a' env' N b0 ls'
 | .exit id env' s',e,a',w'=>e=.exit id∧∃g' ls',Step qt g s.length B w g' s'.length w'∧Fr P glob g' s' B w' a' env' N b0 ls'
 | .ret env' s',e,a',w'=>e=.ret∧∃g' ls',Step qt g s.length B w g' s'.length w'∧Fr P glob g' s' B w' a' env' N b0 ls'
 | .goto l env' s',e,a',w'=>e=.goto l∧∃g' ls',Step qt g s.length B w g' s'.length w'∧Fr P glob g' s' B w' a' env' N b0 ls'
 | .pan v s',e,a',w'=>∃u,e=.panic [{ v:=u,recovered:=false }]∧∃g' ls',Step qt g s.length B w g' s'.length w'∧Fr P glob g' s' B w' a' [] N b0 ls'∧Rep g' s'.length u v
 | _,_,_,_=>False
theorem RU.step {g0:ai} {s0:St} {w0:World} {b0:Nat} {N:Wd} {out:Out} {e:Exit} {a':Act} {w':World} (hs:Step qt g0 s0.length B w0 g s.length w) (h:RU qt P glob g s B w N b0 out e a' w'):RU qt P glob g0 s0 B w0 N b0 out e a' w':=by
 cases out with
 | norm env1 s1=>obtain ⟨h1,g',ls',h2,h3⟩:=h;exact ⟨h1,g',ls',hs.trans h2,h3⟩
 | exit id env1 s1=>obtain ⟨h1,g',ls',h2,h3⟩:=h;exact ⟨h1,g',ls',hs.trans h2,h3⟩
 | ret env1 s1=>obtain ⟨h1,g',ls',h2,h3⟩:=h;exact ⟨h1,g',ls',hs.trans h2,h3⟩
 | goto l env1 s1=>obtain ⟨h1,g',ls',h2,h3⟩:=h;exact ⟨h1,g',ls',hs.trans h2,h3⟩
 | fail=>exact h
 | pan v s1=>obtain ⟨u,h1,g',ls',h2,h3,h4⟩:=h;exact ⟨u,h1,g',ls',hs.trans h2,h3,h4⟩
theorem exists_least (p:Nat→Prop):∀k,p k→∃m,p m∧∀j,p j→m≤j:=by
 intro k
 induction k using Nat.strongRecOn with
 | _ k ih=>
  intro hk;by_cases h:∃j,j<k∧p j
  ·obtain ⟨j,hj,hp⟩:=h;exact ih j hj hp
  ·exact ⟨k,hk,fun j hj=>Nat.le_of_not_lt fun hlt=>h ⟨j,hlt,hj⟩⟩
theorem Po {F:Fence} {n:Nat} {c:Code} {Q:Exit→Act→World→Prop} (Inv:Nat→Act→World→Prop) (h0:∀a w,¬Inv 0 a w)
  (hs:∀k a w,Inv (k+1) a w→c.wpIn F n P (Exit.then (Inv k) Q) a w) (k:Nat) (h:Inv k a w):(Code.loop c).wpIn F n P Q a w:=by
 classical
 let least:Act→World→Nat:=fun a w=>if hx:∃k,Inv k a w then (exists_least (fun k=>Inv k a w) hx.choose hx.choose_spec).choose else 0
 have hle:∀a w k,Inv k a w→least a w≤k∧Inv (least a w) a w:=by
  intro a w k hk;have hx:∃k,Inv k a w:=⟨k,hk⟩;have hsp:=(exists_least (fun k=>Inv k a w) hx.choose hx.choose_spec).choose_spec;simp only [least,hx,dif_pos];exact ⟨hsp.2 k hk,hsp.1⟩
 refine wpIn_loop (fun a w=>∃k,Inv k a w) least ⟨k,h⟩ (fun a w ⟨k,hk⟩=>?_);obtain ⟨_,h2⟩:=hle a w k hk
 cases hl:least a w with
 | zero=>rw [hl] at h2;exact absurd h2 (h0 a w)
 | succ m=>
  rw [hl] at h2;refine wpIn_mono (hs m a w h2) (fun e a' w' hq=>?_)
  cases e with
  | normal=>exact ⟨⟨m,hq⟩,by have:=(hle a' w' m hq).1;omega⟩
  | _=>exact hq
theorem YJ {body:Env→St→Out} {keep:List Nat}:∀k,wU body keep 0 env s=.fail∧wU body keep (k+1) env s=(match body (jd env keep) s with | .norm env s=>wU body keep k env s|out=>out):=fun _=>⟨rfl,rfl⟩
def adA (l:Nat) (J:Act→World→Prop) (Q:Exit→Act→World→Prop):Exit→Act→World→Prop
 | .goto l',a,w=>l'=l∧J a w
 | e,a,w=>Q e a w
theorem uj {b:Frame} {k:List Item} {cs:List Frame} {c:Code}:step P (lone (b.atR a (.code (.scope c)::k)) cs w)=.next (lone (b.atR a (.code c::.inScope c::k)) cs w):=
 step_lone_go (by simp [stepG,stepG.exec,Frame.atR])
theorem HY {b:Frame} {k:List Item} {cs:List Frame} {c:Code}:step P (lone (b.atR a (.inScope c::k)) cs w)=.next (lone (b.atR a k) cs w):=
 step_lone_go (by simp [stepG,stepG.exec,Frame.atR])
theorem Om {F:Fence} {n:Nat} {c rest:Code} {l:Nat} {Q:Exit→Act→World→Prop} (hf:findLabel c l=some rest) (Inv:Nat→Act→World→Prop) (h0:∀a w,¬Inv 0 a w)
  (first:c.wpIn F n P (adA l (fun a w=>∃k,Inv k a w) Q) a w) (hs:∀k a w,Inv (k+1) a w→rest.wpIn F n P (adA l (Inv k) Q) a w):(Code.scope c).wpIn F n P Q a w:=by
 intro b k cs hro hb hr;have hg:gotoIn l (.inScope c::k)=some (.code rest::.inScope c::k):=by simp [gotoIn,hf]
 have hx:∀id,exitTo id (.inScope c::k)=exitTo id k:=fun id=>by simp [exitTo]
 have key:∀j a w,Inv j a w→∃e a' w',Q e a' w'∧ArrivesIn (Machine.fenced P F) P (lone (b.atR a (.code rest::.inScope c::k)) cs w) b k cs e a' w':=by
  intro j
  induction j with
  | zero=>intro a w hi;exact absurd hi (h0 a w)
  | succ j ih=>
   intro a w hi;obtain ⟨e,a₁,w₁,hq,harr⟩:=hs j a w hi b (.inScope c::k) cs hro hb hr
   cases e with
   | normal=>exact ⟨.normal,a₁,w₁,hq,StepsIn.trans harr (.one (fenced_calm hb hr rfl) HY)⟩
   | exit id=>exact ⟨.exit id,a₁,w₁,hq,fun k' hk=>harr.1 k' (by rw [hx];exact hk),fun hr' hk=>harr.2 hr' (by rw [hx];exact hk)⟩
   | goto l'=>
    obtain ⟨rfl,hJ⟩:=hq;obtain ⟨e₂,a₂,w₂,hq₂,harr₂⟩:=ih a₁ w₁ hJ;exact ⟨e₂,a₂,w₂,hq₂,.of_steps (harr.1 _ hg) harr₂⟩
   | ret=>exact ⟨_,a₁,w₁,hq,harr⟩
   | panic ch=>exact ⟨_,a₁,w₁,hq,harr⟩
   | outgrown=>exact ⟨_,a₁,w₁,hq,harr⟩
 have s0:(lone (b.atR a (.code (.scope c)::k)) cs w).fenced P F:=fenced_calm hb hr rfl;obtain ⟨e,a₁,w₁,hq,harr⟩:=first b (.inScope c::k) cs hro hb hr
 cases e with
 | normal=>exact ⟨.normal,a₁,w₁,hq,.head s0 uj (StepsIn.trans harr (.one (fenced_calm hb hr rfl) HY))⟩
 | exit id=>exact ⟨.exit id,a₁,w₁,hq,fun k' hk=>.head s0 uj (harr.1 k' (by rw [hx];exact hk)),fun hr' hk=>let ⟨k₁,h1,h2⟩:=harr.2 hr' (by rw [hx];exact hk);⟨k₁,h1,.head s0 uj h2⟩⟩
 | goto l'=>
  obtain ⟨rfl,j,hJ⟩:=hq;obtain ⟨e₂,a₂,w₂,hq₂,harr₂⟩:=key j a₁ w₁ hJ;exact ⟨e₂,a₂,w₂,hq₂,.of_steps (.head s0 uj (harr.1 _ hg)) harr₂⟩
 | ret=>exact ⟨_,a₁,w₁,hq,.of_steps (.one s0 uj) harr⟩
 | panic ch=>exact ⟨_,a₁,w₁,hq,.of_steps (.one s0 uj) harr⟩
 | outgrown=>exact ⟨_,a₁,w₁,hq,.of_steps (.one s0 uj) harr⟩
theorem Wi {body:Env→St→Out} {l:Nat} {keep:List Nat}:∀k,qg body l keep (k+1) env s=(match body (jd env keep) s with | .goto l' env s=>if l'=l then qg body l keep k env s else .fail|out=>out):=fun _=>rfl
theorem Base.kill (h:Base P glob g s w) {l:Nat} (hl:l<s.length) (hnc:nM g (g.L l)) (o:Obj):Base P glob g (s.set l .dead) { w with heap:=w.heap.setIfInBounds (g.L l) o }:=by
 refine ⟨⟨fun c o' v hv=>?_,fun c es hc=>?_⟩,h.heap.setAt hl (.refl _ _) (fun _ _ _=>rfl) (fun b hb=>.inl hb) (fun b hb=>by simpa using h.heap.lt l b hl hb) (by simp) (fun b _ hb=>⟨dM (fun hbe=>hb (.inl hbe.symm)),rfl,rfl⟩) trivial,h.glob⟩
 ·have hcb:c≠g.L l:=fun hcb=>by subst hcb;rw [hnc.m o'] at hv;cases hv
  rw [World.cell?_of_block (dM hcb)];exact h.imm.m c o' v hv
 ·have hcb:c≠g.L l:=fun hcb=>by subst hcb;rw [hnc.mm] at hc;cases hc
  exact (h.imm.mm c es hc).keep (dM hcb)
theorem Sim.called {tm:Nat→Value} {g':ai} {w':World} (h:Sim P glob g s B w tm env) (hst:Step qt g s.length w.heap.size w g' s'.length w') (hb:Base P glob g' s' w'):Sim P glob g' s' B w' tm env∧Step qt g s.length B w g' s'.length w':=by
 have hB:=h.B
 refine ⟨⟨hb,h.env.next hst.le (fun k e hk ho b hbk=>?_),by have:=hst.size;omega⟩,
  hst.lower hB⟩
 have hlt:=Az h.env hk ho hbk;have hoff:=h.env.off k e hk ho b hbk;exact ⟨hst.keep b hlt hoff,hst.m b hlt hoff,hst.mm b hlt,fun ht=>(hst.new b ht).elim id (fun hh=>by omega)⟩
theorem aaW {tm:Nat→Value} {n:Nat} (h:iU g n B w tm env) {k:Nat} {e:EV} (hk:lk (rE env) k=some e):∃v,e=.v v∧Rep g n (tm k) v:=by
 rcases aa7 hk with ⟨v,rfl,hv⟩|rfl
 ·exact ⟨v,rfl,h.rel k _ hv⟩
 ·exact ⟨.u,rfl,.u _⟩
theorem eH {F:Fence} {n M b0:Nat} {N:Wd} {ro:Bool} (hcall:tH qt P glob call) (hext:jh call) (hdraw:Gi qt P glob call) (hF:isF F) (hro:ro=false→F=Fence.wide) (hM:P.follows .mixedOrders=true):
  ∀(ac:bH) (c:Code),wM P N c ac=true→∀{cx:Ctx} {g:ai} {s:St} {w:World} {a:Act} {env:Env} {ls:List Nat} {out:Out},gq cx s→(ro=false→b0≤s.length)→Fr P glob g s B w a env N b0 ls→
    bF glob call cx ro M ac env s=out→out.st.isSome=true→c.wpIn F n P (RU qt P glob g s B w N b0 out) a w
 | .skip,c,hc,cx,g,s,w,a,env,ls,out,hcx,hb0,h,hr,ho=>by
  cases c<;>simp [wM] at hc
  simp only [bF] at hr;subst hr;exact wpIn_skip ⟨rfl,g,ls,.refl _ _ _ _,h⟩
 | .ret,c,hc,cx,g,s,w,a,env,ls,out,hcx,hb0,h,hr,ho=>by
  cases c<;>simp [wM] at hc
  simp only [bF] at hr;subst hr;exact wpIn_ret ⟨rfl,g,ls,.refl _ _ _ _,h⟩
 | .exit id,c,hc,cx,g,s,w,a,env,ls,out,hcx,hb0,h,hr,ho=>by
  cases c<;>simp [wM] at hc
  simp only [bF] at hr;subst hr;subst hc;exact wpIn_exit ⟨rfl,g,ls,.refl _ _ _ _,h⟩
 | .region aops ord keep,c,hc,cx,g,s,w,a,env,ls,out,hcx,hb0,h,hr,ho=>by
  cases c<;>simp only [wM,Bool.false_eq_true] at hc
  rename_i id ops draw;simp only [Bool.and_eq_true] at hc;simp only [bF] at hr
  split at hr
  ·rename_i env1 s1 hr1;subst hr
   have hQ:∀g' w' a',Step qt g s.length B w g' s1.length w'→Fr P glob g' s1 B w' a' env1 N b0 ls→RU qt P glob g s B w N b0 (.norm (jd env1 keep) s1) .normal a' w':=
    fun g' w' a' hs hf=>⟨rfl,g',ls,hs,⟨hf.sim.base,hf.sim.env.keep keep,hf.sim.B⟩,hf.sz,hf.dl,hf.df,hf.nd,hf.lo,hf.pin⟩
   have hd:=hc.2
   split at hd
   ·refine wpIn_region ?_;rw [List.range_eq_range']
    have:=CP (Q:=RU qt P glob g s B w N b0 (.norm (jd env1 keep) s1)) (F:=F) (n:=n) hcall hext hF ops.toList aops 0 (by simp) hc.1 hcx h hr1 hQ
    simpa using this
   ·rename_i π;exact hdraw.1 hF hc.1 hd hcx h hr1 hQ
   ·cases hd
  ·rename_i hne;subst hr;rcases Wp (glob:=glob) (call:=call) (cx:=cx) (aops:=aops) (env:=env) (s:=s) (ord:=ord) rfl with hro' | ⟨v,s1,hro'⟩|⟨e1,s1,hro'⟩
   ·rw [hro'] at ho;simp [Out.st] at ho
   ·rw [hro'];have hd:=hc.2
    split at hd
    ·refine wpIn_region ?_;rw [List.range_eq_range']
     have:=ZK (Q:=RU qt P glob g s B w N b0 (.pan v s1)) (F:=F) (n:=n) hcall hext hF ops.toList aops 0 (by simp) hc.1 hcx h hro' (fun u g' w' a' hs hf hrp=>⟨u,rfl,g',ls,hs,hf,hrp⟩)
     simpa using this
    ·exact hdraw.2 hF hc.1 hd hcx h hro' (fun u g' w' a' hs hf hrp=>⟨u,rfl,g',ls,hs,hf,hrp⟩)
    ·cases hd
   ·exact absurd hro' (hne e1 s1)
 | .seq x y,c,hc,cx,g,s,w,a,env,ls,out,hcx,hb0,h,hr,ho=>by
  cases c<;>simp only [wM,Bool.false_eq_true] at hc
  simp only [Bool.and_eq_true] at hc;simp only [bF] at hr;refine wpIn_seq ?_
  split at hr
  ·rename_i env1 s1 hr1;have he:Ext cx s s1:=dO hext x hcx (env:=env) (by rw [hr1];rfl);refine wpIn_mono (eH hcall hext hdraw hF hro hM x _ hc.1 hcx hb0 h hr1 rfl) (fun e a' w' hq=>?_);obtain ⟨rfl,g',ls',hs,hf⟩:=hq;exact wpIn_mono (eH hcall hext hdraw hF hro hM y _ hc.2 (hcx.ext he) (fun hh=>Nat.le_trans (hb0 hh) he.len) hf hr ho) (fun e a2 w2 hq2=>hq2.step hs)
  ·rename_i hne;refine wpIn_mono (eH hcall hext hdraw hF hro hM x _ hc.1 hcx hb0 h hr ho) (fun e a' w' hq=>?_);subst hr
   cases hro':bF glob call cx ro M x env s with
   | norm e1 s1=>exact absurd hro' (hne e1 s1)
   | fail=>rw [hro'] at ho;simp [Out.st] at ho
   | pan v s1=>rw [hro'] at hq;obtain ⟨u,rfl,hq⟩:=hq;exact ⟨u,rfl,hq⟩
   | exit id e1 s1=>rw [hro'] at hq;obtain ⟨rfl,hq⟩:=hq;exact ⟨rfl,hq⟩
   | ret e1 s1=>rw [hro'] at hq;obtain ⟨rfl,hq⟩:=hq;exact ⟨rfl,hq⟩
   | goto l e1 s1=>rw [hro'] at hq;obtain ⟨rfl,hq⟩:=hq;exact ⟨rfl,hq⟩
 | .cond ix x y,c,hc,cx,g,s,w,a,env,ls,out,hcx,hb0,h,hr,ho=>by
  cases c<;>simp only [wM,Bool.false_eq_true] at hc
  simp only [Bool.and_eq_true] at hc;simp only [bF] at hr
  split at hr
  ·rename_i hb;exact wpIn_cond_true (vJ (aJ (a:=a) hc.1.1 h.sim.env h.sim.base.glob hb)) (eH hcall hext hdraw hF hro hM x _ hc.1.2 hcx hb0 h hr ho)
  ·rename_i hb;exact wpIn_cond_false (vJ (aJ (a:=a) hc.1.1 h.sim.env h.sim.base.glob hb)) (eH hcall hext hdraw hF hro hM y _ hc.2 hcx hb0 h hr ho)
  ·subst hr;simp [Out.st] at ho
 | .block id b,c,hc,cx,g,s,w,a,env,ls,out,hcx,hb0,h,hr,ho=>by
  cases c<;>simp only [wM,Bool.false_eq_true] at hc
  simp only [Bool.and_eq_true,beq_iff_eq] at hc;obtain ⟨rfl,hc⟩:=hc;simp only [bF] at hr;refine wpIn_block ?_
  split at hr
  ·rename_i id' env1 s1 hr1;refine wpIn_mono (eH hcall hext hdraw hF hro hM b _ hc hcx hb0 h hr1 rfl) (fun e a' w' hq=>?_);obtain ⟨rfl,hq⟩:=hq
   split at hr
   ·rename_i hid;subst hr;subst hid;simp only [Exit.inBlock,if_true];exact ⟨rfl,hq⟩
   ·rename_i hid;subst hr;simp only [Exit.inBlock,hid,if_false];exact ⟨rfl,hq⟩
  ·rename_i hne;refine wpIn_mono (eH hcall hext hdraw hF hro hM b _ hc hcx hb0 h hr ho) (fun e a' w' hq=>?_);subst hr
   cases hro':bF glob call cx ro M b env s with
   | norm e1 s1=>rw [hro'] at hq;obtain ⟨rfl,hq⟩:=hq;exact ⟨rfl,hq⟩
   | fail=>rw [hro'] at ho;simp [Out.st] at ho
   | pan v s1=>rw [hro'] at hq;obtain ⟨u,rfl,hq⟩:=hq;exact ⟨u,rfl,hq⟩
   | exit id' e1 s1=>exact absurd hro' (hne id' e1 s1)
   | ret e1 s1=>rw [hro'] at hq;obtain ⟨rfl,hq⟩:=hq;exact ⟨rfl,hq⟩
   | goto l e1 s1=>rw [hro'] at hq;obtain ⟨rfl,hq⟩:=hq;exact ⟨rfl,hq⟩
 | .loop keep b,c,hc,cx,g,s,w,a,env,ls,out,hcx,hb0,h,hr,ho=>by
  cases c<;>simp only [wM,Bool.false_eq_true] at hc
  rename_i body;simp only [bF] at hr;refine Po (fun k a' w'=>∃g' s' env' ls',gq cx s'∧(ro=false→b0≤s'.length)∧Step qt g s.length B w g' s'.length w'∧Fr P glob g' s' B w' a' env' N b0 ls'∧wU (bF glob call cx ro M b) keep k env' s'=out) ?_ ?_ M ⟨g,s,env,ls,hcx,hb0,.refl _ _ _ _,h,hr⟩
  ·rintro a' w' ⟨g',s',env',ls',_,_,_,_,hl⟩;simp only [wU] at hl;subst hl;simp [Out.st] at ho
  ·rintro k a' w' ⟨g',s',env',ls',hcx',hb1,hst,hf,hl⟩;rw [(YJ k).2] at hl;have hf':Fr P glob g' s' B w' a' (jd env' keep) N b0 ls':=⟨⟨hf.sim.base,hf.sim.env.keep keep,hf.sim.B⟩,hf.sz,hf.dl,hf.df,hf.nd,hf.lo,hf.pin⟩
   split at hl
   ·rename_i env1 s1 hr1;have he:Ext cx s' s1:=dO hext b hcx' (env:=jd env' keep) (by rw [hr1];rfl);refine wpIn_mono (eH hcall hext hdraw hF hro hM b _ hc hcx' hb1 hf' hr1 rfl) (fun e a2 w2 hq=>?_);obtain ⟨rfl,g2,ls2,hs2,hf2⟩:=hq;exact ⟨g2,s1,env1,ls2,hcx'.ext he,fun hh=>Nat.le_trans (hb1 hh) he.len,hst.trans hs2,hf2,hl⟩
   ·rename_i hne;refine wpIn_mono (eH hcall hext hdraw hF hro hM b _ hc hcx' hb1 hf' hl ho) (fun e a2 w2 hq=>?_);have hq':=hq.step hst;subst hl
    cases hro':bF glob call cx ro M b (jd env' keep) s' with
    | norm e1 s1=>exact absurd hro' (hne e1 s1)
    | fail=>rw [hro'] at ho;simp [Out.st] at ho
    | pan v s1=>rw [hro'] at hq';obtain ⟨u,rfl,hq'⟩:=hq';exact ⟨u,rfl,hq'⟩
    | exit id' e1 s1=>rw [hro'] at hq';obtain ⟨rfl,hq'⟩:=hq';exact ⟨rfl,hq'⟩
    | ret e1 s1=>rw [hro'] at hq';obtain ⟨rfl,hq'⟩:=hq';exact ⟨rfl,hq'⟩
    | goto l e1 s1=>rw [hro'] at hq';obtain ⟨rfl,hq'⟩:=hq';exact ⟨rfl,hq'⟩
 | .range ix ps asg body,c,hc,cx,g,s,w,a,env,ls,out,hcx,hb0,h,hr,ho=>by
  cases c<;>simp only [wM,Bool.false_eq_true] at hc
  rename_i f' ps' asg' body';simp only [Bool.and_eq_true,beq_iff_eq] at hc;obtain ⟨⟨⟨⟨hfx,hps⟩,hpsN⟩,hasg⟩,hbody⟩:=hc;simp only [bF] at hr
  split at hr
  ·subst hr;simp [Out.st] at ho
  ·rename_i hrof;have hFw:F=Fence.wide:=hro (by simpa using hrof);subst hFw
   split at hr
   ·rename_i ff as0 cs0 hfv
    split at hr
    ·rename_i r s3 hcr;refine wpIn_rangeFunc (fun fn _=>?_)
     let rec0:Loop:={ state:=.ready,pending:=none,fn:=fn,tmps:=a.tmps,params:=ps',assign:=asg',body:=body',defers:=w.heap.size }
     -- the two new objects
     obtain ⟨st1,m1⟩:=QG h.sim (ob:=.deferred (some [])) (ho:=.dfr) ⟨(fun _ _ _ hh=>by cases hh),(fun _ hh=>by cases hh),(fun _ _ _ _ hh=>by cases hh),(fun _ hh=>by cases hh)⟩ (fun cs hcs=>by cases hcs) (fun _ _ _ _ _ hh=>by cases hh) (fun _=>rfl)
     have hlr:Eh P (g.place s.length w.heap.size) (s++[fZ.dfr]).length rec0 (rE env) ps asg body .ready:=by
      refine ⟨hps,by rw [h.sz];exact hasg,by rw [h.sz];exact hbody,fun k e hk=>?_,fun p hp=>?_,rfl,rfl⟩
      ·exact aaW m1.env hk
      ·rw [h.sz];simpa using List.all_eq_true.1 hpsN p (by rw [hps];exact hp)
     obtain ⟨st2,m2⟩:=QG m1 (ob:=.loop rec0) (ho:=.loop (rE env) ps asg body .ready) ⟨(fun _ _ _ hh=>by cases hh),(fun _ hh=>by cases hh),(fun _ _ _ _ hh=>by cases hh),(fun _ hh=>by cases hh)⟩ (fun cs hcs=>by cases hcs) (fun e2 p2 a2 b2 pd2 hh=>by cases hh;exact ⟨rec0,rfl,hlr⟩) (fun hh=>by cases hh);have hsz1:(w.alloc (.deferred (some []))).heap.size=w.heap.size+1:=by simp
     have hlen1:(s++[fZ.dfr]).length=s.length+1:=by simp
     rw [hsz1,hlen1] at st2 m2;have hs2:(s++[fZ.dfr])++[fZ.loop (rE env) ps asg body .ready]=s++[.dfr,.loop (rE env) ps asg body .ready]:=by simp
     rw [hs2] at st2 m2
     -- shorter names
     let g2:ai:=(g.place s.length w.heap.size).place (s.length+1) (w.heap.size+1)
     let s2:St:=s++[.dfr,.loop (rE env) ps asg body .ready]
     let w2:World:=(w.alloc (.deferred (some []))).alloc (.loop rec0)
     have m2':Sim P glob g2 s2 B w2 (Act.tm a) env:=m2
     have st2':Step qt g s.length B w g2 s2.length w2:=by
      have st1':=st1;rw [hlen1] at st1';exact (st1'.trans st2).weak
     have hl2:s2.length=s.length+2:=by simp [s2]
     have hL0:g2.L s.length=w.heap.size:=by simp [g2,ai.place]
     have hL1:g2.L (s.length+1)=w.heap.size+1:=by simp [g2,ai.place]
     have hcx2:gq cx s2:=hcx.ext (.push hcx _);have hfrep:Rep g2 s2.length (a.eval f') (.fn ff as0 cs0):=aJ (a:=a) hfx m2'.env m2'.base.glob hfv
     have hyrep:Rep g2 s2.length (.func (.yield (w.heap.size+1)) #[] #[]) (.yl (s.length+1)):=by
      have:=Rep.yl (g:=g2) (n:=s2.length) (s.length+1) (by omega)
      rwa [hL1] at this
     have hext3:Ext cx s2 s3:=hext _ _ _ _ _ _ hcx2 (.inl hcr)
     -- what the interpreter says of the loop's end
     have hpend:∃e3 p3 a3 b3 pd,s3[s.length+1]?=some (.loop e3 p3 a3 b3 pd)∧out=(match pd with | .ready=>Out.norm env (s3.set (s.length+1) .dead) | .ret=>.ret env (s3.set (s.length+1) .dead) | .exit id=>.exit id env (s3.set (s.length+1) .dead) | .busy=>.fail):=by
      unfold DL at hr
      split at hr
      ·rename_i e3 p3 a3 b3 h3;exact ⟨e3,p3,a3,b3,.ready,h3,hr.symm⟩
      ·rename_i e3 p3 a3 b3 h3;exact ⟨e3,p3,a3,b3,.ret,h3,hr.symm⟩
      ·rename_i e3 p3 a3 b3 id h3;exact ⟨e3,p3,a3,b3,.exit id,h3,hr.symm⟩
      ·subst hr;simp [Out.st] at ho
     obtain ⟨e3,p3,a3,b3,pd,h3,hout⟩:=hpend;obtain ⟨fid,args',q1,q2⟩:=hcall.fn (.fn ff as0 cs0) _ _ _ _ _ hcx2 (fun l hl=>by cases hl) hcr g2 w2 _ #[.func (.yield (w.heap.size+1)) #[] #[]] m2'.base hfrep (by simpa using aW.cons hyrep (.nil _ _))
     obtain ⟨d,hd1,hd2⟩:∃d,Deferred.ofValue (a.eval f') #[.func (.yield (w.heap.size+1)) #[] #[]]=pure d∧(invoke d.target d.args).run P w2=.ok (.enter fid args') w2:=by
      unfold callOf at q1
      cases hv:a.eval f' with
      | func fn' fs cs=>rw [hv] at q1;exact ⟨_,rfl,by simpa [Deferred.ofValue] using q1⟩
      | nilFunc=>rw [hv] at q1;exact ⟨_,rfl,by simpa [Deferred.ofValue] using q1⟩
      | _=>rw [hv] at q1;simp [Deferred.ofValue,stuck,Sem.run,Sem.bind,bind] at q1
     refine ⟨w.heap.size+1,[{ target:=.collected w.heap.size,args:=#[] }],w2,d,w2,fid,args',w2, ?_, ?_,fun f' _=>trivial,hd2,fun hh=>by simp [Fence.wide] at hh,(q2 (n - 1)).mono fun e w3 he=>?_⟩
     ·simp [Instr.enterLoop,Sem.run_bind,w2,rec0,Fence.wide]
     ·have:resolve a.eval (rangeCall f' (w.heap.size+1)) 0=pure d:=by
       have hm:Array.map a.eval #[Operand.const (Value.func (Fn.yield (w.heap.size+1)) #[] #[])]=#[Value.func (Fn.yield (w.heap.size+1)) #[] #[]]:=by simp [Act.eval]
       simp only [resolve,rangeCall,hm];exact hd1
      rw [this];rfl
     ·obtain ⟨v,g3,rfl,hst3,hb3,hrep3⟩:=he;obtain ⟨m3,st3⟩:=m2'.called hst3 hb3;obtain ⟨rl,hrl,hlok⟩:=hb3.heap.loop (s.length+1) e3 p3 a3 b3 pd h3;have hg3L:g3.L (s.length+1)=w.heap.size+1:=by rw [hst3.le.L _ (by omega),hL1]
      have hg3L0:g3.L s.length=w.heap.size:=by rw [hst3.le.L _ (by omega),hL0]
      rw [hg3L] at hrl;obtain ⟨_,_,_,_,_,hstate⟩:=hlok;have hlt3:s.length+1<s3.length:=(List.getElem?_eq_some_iff.1 h3).1
      let w4:World:={ w3 with heap:=w3.heap.setIfInBounds (w.heap.size+1) (.loop { rl with state:=.exhausted }) }
      have hend:(Instr.endLoop (w.heap.size+1)).run P w3=.ok rl.pending w4:=by
       have hnb:rl.state≠.busy:=by
        cases pd with
        | ready=>rw [hstate.1];simp
        | busy=>subst hout;simp [Out.st] at ho
        | ret=>rw [hstate.1];simp
        | exit id=>rw [hstate.1];simp
       simp [Instr.endLoop,Instr.getLoop,Sem.run_bind,getObj,setObj,Sem.run,hrl,hnb,w4]
      have hb4:Base P glob g3 (s3.set (s.length+1) .dead) w4:=by
       have:=hb3.kill hlt3 (hb3.heap.obj _ _ h3).1 (.loop { rl with state:=.exhausted })
       rwa [hg3L] at this
      have hoff:∀k e,lk env k=some e→e.owns=true→∀b,dw (Act.tm a k)=some b→b≠w.heap.size+1:=by
       intro k e hk ho' b hbk hbe;exact m3.env.off k e hk ho' b hbk (by rw [hbe,←hg3L];exact .L hlt3)
      have m4:Sim P glob g3 (s3.set (s.length+1) .dead) B w4 (Act.tm a) env:=by
       refine ⟨hb4, ?_,by simpa [w4] using m3.B⟩;simp only [List.length_set];exact m3.env.next (.refl _ _) (fun k e hk ho' b hbk=>⟨dM (hoff k e hk ho' b hbk),rfl,rfl,fun ht=>ht⟩)
      have st4:Step qt g s.length B w g3 (s3.set (s.length+1) .dead).length w4:=by
       simp only [List.length_set];refine (st2'.trans st3).trans ⟨.refl _ _,by simp [w4],fun b hb hbl=>dM (fun hbe=>?_),fun _ _ _=>rfl,fun _ _=>rfl,fun b hb=>.inl hb,rfl,rfl,fun _=>⟨rfl,Nat.le_refl _⟩⟩;exact hbl (by rw [hbe,←hg3L];exact .L hlt3)
      have hf4:Fr P glob g3 (s3.set (s.length+1) .dead) B w4 { a with defers:=[{ target:=.collected w.heap.size,args:=#[] }]++a.defers } env N b0 (s.length::ls):=by
       refine ⟨m4,h.sz, ?_,fun l hl=>?_, ?_,fun l hl=>?_,fun p hp=>?_⟩
       ·simp only [List.map_cons,hg3L0,List.singleton_append,List.cons_append]
        congr 1
        rw [h.dl];simp only [List.nil_append]
        congr 1
        refine List.map_congr_left fun l hl=>?_;have hll:l<s.length:=(List.getElem?_eq_some_iff.1 (h.df l hl)).1;rw [st4.le.L l hll]
       ·rcases List.mem_cons.1 hl with rfl|hl
        ·rw [List.getElem?_set_ne (by omega)];exact hext3.dfr _ (by simp [s2])
        ·have hll:l<s.length:=(List.getElem?_eq_some_iff.1 (h.df l hl)).1;rw [List.getElem?_set_ne (by omega)];exact hext3.dfr _ (by simp [s2,List.getElem?_append_left hll,h.df l hl])
       ·refine List.nodup_cons.2 ⟨fun hm=>?_,h.nd⟩
        have:=(List.getElem?_eq_some_iff.1 (h.df _ hm)).1
        omega
       ·rcases List.mem_cons.1 hl with rfl|hl
        ·exact hb0 (by simpa using hrof)
        ·exact h.lo l hl
       ·obtain ⟨p1,p2,p3⟩:=h.pin p hp;refine ⟨p1,by have:=st4.le.n;omega, ?_⟩;show Act.tm a p.1=_;rw [p3,st4.le.L _ p2]
      refine ⟨rl.pending,w4,hend, ?_⟩
      cases pd with
      | ready=>
       simp only [] at hout hstate;rw [hstate.2,hout];exact ⟨rfl,g3,s.length::ls,st4,hf4⟩
      | busy=>subst hout;simp [Out.st] at ho
      | ret=>
       simp only [] at hout hstate;rw [hstate.2,hout];exact wpIn_ret ⟨rfl,g3,s.length::ls,st4,hf4⟩
      | exit id=>
       simp only [] at hout hstate;rw [hstate.2,hout];exact wpIn_exit ⟨rfl,g3,s.length::ls,st4,hf4⟩
    ·subst hr;simp [Out.st] at ho
   ·subst hr;simp [Out.st] at ho
 | .label l,c,hc,cx,g,s,w,a,env,ls,out,hcx,hb0,h,hr,ho=>by
  cases c<;>simp only [wM,Bool.false_eq_true] at hc
  simp only [bF] at hr;subst hr;exact wpIn_label ⟨rfl,g,ls,.refl _ _ _ _,h⟩
 | .goto l,c,hc,cx,g,s,w,a,env,ls,out,hcx,hb0,h,hr,ho=>by
  cases c<;>simp only [wM,Bool.false_eq_true] at hc
  simp only [beq_iff_eq] at hc;subst hc;simp only [bF] at hr;subst hr;exact wpIn_goto ⟨rfl,g,ls,.refl _ _ _ _,h⟩
 | .scope l keep x y,c,hc,cx,g,s,w,a,env,ls,out,hcx,hb0,h,hr,ho=>by
  cases c<;>simp only [wM,Bool.false_eq_true] at hc
  rename_i c;simp only [Bool.and_eq_true] at hc;obtain ⟨hcx1,hcy⟩:=hc
  split at hcy
  case h_2=>cases hcy
  rename_i rest hfl;simp only [bF] at hr;refine Om hfl (fun k a' w'=>∃g' s' env' ls',gq cx s'∧(ro=false→b0≤s'.length)∧Step qt g s.length B w g' s'.length w'∧Fr P glob g' s' B w' a' env' N b0 ls'∧qg (bF glob call cx ro M y) l keep k env' s'=out) ?_ ?_ ?_
  ·rintro a' w' ⟨g',s',env',ls',_,_,_,_,hl⟩;simp only [qg] at hl;subst hl;simp [Out.st] at ho
  ·split at hr
   ·rename_i l' env1 s1 hr1;have he:Ext cx s s1:=dO hext x hcx (env:=env) (by rw [hr1];rfl);refine wpIn_mono (eH hcall hext hdraw hF hro hM x _ hcx1 hcx hb0 h hr1 rfl) (fun e a' w' hq=>?_);obtain ⟨rfl,g',ls',hs,hf⟩:=hq
    split at hr
    ·rename_i hl;exact ⟨hl,M,g',s1,env1,ls',hcx.ext he,fun hh=>Nat.le_trans (hb0 hh) he.len,hs,hf,hr⟩
    ·subst hr;simp [Out.st] at ho
   ·rename_i hne;refine wpIn_mono (eH hcall hext hdraw hF hro hM x _ hcx1 hcx hb0 h hr ho) (fun e a' w' hq=>?_);subst hr
    cases hro':bF glob call cx ro M x env s with
    | norm e1 s1=>rw [hro'] at hq;obtain ⟨rfl,hq⟩:=hq;exact ⟨rfl,hq⟩
    | fail=>rw [hro'] at ho;simp [Out.st] at ho
    | pan v s1=>rw [hro'] at hq;obtain ⟨u,rfl,hq⟩:=hq;exact ⟨u,rfl,hq⟩
    | exit id e1 s1=>rw [hro'] at hq;obtain ⟨rfl,hq⟩:=hq;exact ⟨rfl,hq⟩
    | ret e1 s1=>rw [hro'] at hq;obtain ⟨rfl,hq⟩:=hq;exact ⟨rfl,hq⟩
    | goto l' e1 s1=>exact absurd hro' (hne l' e1 s1)
  ·rintro k a' w' ⟨g',s',env',ls',hcx',hb1,hst,hf,hl⟩;rw [Wi k] at hl;have hf':Fr P glob g' s' B w' a' (jd env' keep) N b0 ls':=⟨⟨hf.sim.base,hf.sim.env.keep keep,hf.sim.B⟩,hf.sz,hf.dl,hf.df,hf.nd,hf.lo,hf.pin⟩
   split at hl
   ·rename_i l' env1 s1 hr1;have he:Ext cx s' s1:=dO hext y hcx' (env:=jd env' keep) (by rw [hr1];rfl);refine wpIn_mono (eH hcall hext hdraw hF hro hM y _ hcy hcx' hb1 hf' hr1 rfl) (fun e a2 w2 hq=>?_);obtain ⟨rfl,g2,ls2,hs2,hf2⟩:=hq
    split at hl
    ·rename_i hl';exact ⟨hl',g2,s1,env1,ls2,hcx'.ext he,fun hh=>Nat.le_trans (hb1 hh) he.len,hst.trans hs2,hf2,hl⟩
    ·subst hl;simp [Out.st] at ho
   ·rename_i hne;refine wpIn_mono (eH hcall hext hdraw hF hro hM y _ hcy hcx' hb1 hf' hl ho) (fun e a2 w2 hq=>?_);have hq':=hq.step hst;subst hl
    cases hro':bF glob call cx ro M y (jd env' keep) s' with
    | norm e1 s1=>rw [hro'] at hq';obtain ⟨rfl,hq'⟩:=hq';exact ⟨rfl,hq'⟩
    | fail=>rw [hro'] at ho;simp [Out.st] at ho
    | pan v s1=>rw [hro'] at hq';obtain ⟨u,rfl,hq'⟩:=hq';exact ⟨u,rfl,hq'⟩
    | exit id' e1 s1=>rw [hro'] at hq';obtain ⟨rfl,hq'⟩:=hq';exact ⟨rfl,hq'⟩
    | ret e1 s1=>rw [hro'] at hq';obtain ⟨rfl,hq'⟩:=hq';exact ⟨rfl,hq'⟩
    | goto l' e1 s1=>exact absurd hro' (hne l' e1 s1)
end Go.Ai
namespace Go.Ai
variable {P:Program} {glob:Nat→Option (List AV)} {s:St} {env env2:Env} {call:AV→List AV→St→Ctx→CO} {cx:Ctx} {s':St} {D:Nat→Prop}
structure Agr (D:Nat→Prop) (env env2:Env):Prop where
 same:∀k,¬D k→lk env k=lk env2 k
 own1:∀k e,D k→lk env k=some e→e.owns=true→lk env2 k=some e
theorem Agr.refl (env:Env):Agr (fun _=>False) env env:=⟨fun _ _=>rfl,fun _ _ h=>h.elim⟩
theorem Agr.own (h:Agr D env env2) {k:Nat} {e:EV} (ho:e.owns=true) (he:lk env k=some e):lk env2 k=some e:=by
 by_cases hd:D k
 ·exact h.own1 k e hd he ho
 ·rw [←h.same k hd];exact he
def IX.off (D:Nat→Prop) (x:IX):Prop:=∀k∈x.slots,¬D k
theorem xI (h:Agr D env env2) {x:IX} (hx:x.off D):ev glob env x=ev glob env2 x:=by
 cases x with
 | t k=>exact h.same k (hx k (by simp [IX.slots]))
 | _=>rfl
theorem acO (h:Agr D env env2) {x:IX} (hx:x.off D):rd glob env x=rd glob env2 x:=by
 simp only [rd,xI h hx]
theorem YA (h:Agr D env env2) {x:IX} (hx:x.off D):vC env x=vC env2 x:=by
 cases x with
 | t k=>simp only [vC,h.same k (hx k (by simp [IX.slots]))]
 | _=>rfl
theorem Ut (h:Agr D env env2) {x:IX} (hx:x.off D) {es:List AV} (he:elems glob env x=some es):elems glob env2 x=some es:=by
 unfold elems at he ⊢;rw [←xI h hx]
 cases hv:ev glob env x with
 | none=>rw [hv] at he;cases he
 | some e=>
  rw [hv] at he
  cases e with
  | al j=>
   simp only [] at he ⊢
   cases hj:lk env j with
   | none=>rw [hj] at he;cases he
   | some o=>
    rw [hj] at he
    cases o with
    | own tip t sz es'=>rw [h.own rfl hj];exact he
    | _=>cases he
  | v a=>cases a<;>exact he
  | _=>exact he
theorem adf (h:Agr D env env2) {x:IX} (hx:x.off D):J8 glob env x=J8 glob env2 x:=by
 unfold J8;rw [xI h hx]
theorem aeK (h:Agr D env env2) {x:IX} (hx:x.off D) {off:Nat}:addr glob env off x=addr glob env2 off x:=by
 unfold addr;rw [xI h hx]
theorem GK (h:Agr D env env2) {x:Option IX} (hx:∀y∈oxs x,y.off D) {d:Nat}:bound glob env d x=bound glob env2 d x:=by
 cases x with
 | none=>rfl
 | some x=>simp only [bound,acO h (hx x (by simp [oxs]))]
theorem aa5 (h:Agr D env env2) {x:IX} (hx:x.off D) {n:Option Nat} {v:AV} (hl:kT glob env s n x=some v):kT glob env2 s n x=some v:=by
 unfold kT at hl ⊢;rw [←xI h hx]
 cases hv:ev glob env x with
 | none=>rw [hv] at hl;cases hl
 | some e=>
  rw [hv] at hl
  cases e with
  | lp k o=>
   simp only [] at hl ⊢
   cases hk:lk env k with
   | none=>rw [hk] at hl;cases hl
   | some o'=>
    rw [hk] at hl
    cases o' with
    | bx cs=>rw [h.own rfl hk];exact hl
    | _=>cases hl
  | ep k sz i o=>
   simp only [] at hl ⊢
   cases hk:lk env k with
   | none=>rw [hk] at hl;cases hl
   | some o'=>
    rw [hk] at hl
    cases o' with
    | own tip t sz' es=>rw [h.own rfl hk];exact hl
    | _=>cases hl
  | v a=>cases a<;>exact hl
  | _=>exact hl
theorem Vj {env:Env} {k:Nat} {e:EV} (h:lk env k=some e) (j:Nat):lk ((k,e)::env) j=lk env j:=by
 show (if k=j then some e else lk env j)=lk env j;split
 ·rename_i hk;subst hk;exact h.symm
 ·rfl
theorem O7 (h:Agr D env env2) {x:IX} (hx:x.off D) (hk:Ig glob env x=true) {a:AV} {env1:Env} (he:esc glob env x=some (a,env1)):
  (∀k,lk env1 k=lk env k)∧∃env3,esc glob env2 x=some (a,env3)∧∀k,lk env3 k=lk env2 k:=by
 unfold esc at he ⊢;unfold Ig at hk;rw [←xI h hx]
 cases hv:ev glob env x with
 | none=>rw [hv] at he;simp at he
 | some e=>
  rw [hv] at he hk
  cases e with
  | v b=>simp only [Option.some.injEq,Prod.mk.injEq] at he;obtain ⟨rfl,rfl⟩:=he;exact ⟨fun _=>rfl,env2,rfl,fun _=>rfl⟩
  | al j=>
   simp only [] at he hk ⊢
   cases hj:lk env j with
   | none=>rw [hj] at he;simp at he
   | some o=>
    rw [hj] at he hk
    cases o with
    | own tip t sz es=>
     simp only [] at hk;subst hk;simp only [Option.some.injEq,Prod.mk.injEq] at he;obtain ⟨rfl,rfl⟩:=he;have hj2:=h.own (k:=j) (e:=.own true t sz es) rfl hj;rw [hj2];exact ⟨Vj hj,_,rfl,Vj hj2⟩
    | _=>simp at he
  | own tip t sz es=>
   simp only [] at he hk ⊢;subst hk
   cases x with
   | t k=>
    simp only [Option.some.injEq,Prod.mk.injEq] at he ⊢;obtain ⟨rfl,rfl⟩:=he;have hk1:lk env k=some (.own true t sz es):=hv;have hk2:=h.own (k:=k) (e:=.own true t sz es) rfl hk1;exact ⟨Vj hk1,_,⟨rfl,rfl⟩,Vj hk2⟩
   | _=>simp at he
  | _=>simp at hk
theorem Agr.lk (h:Agr D env env2) {env1 env3:Env} (h1:∀k,Ai.lk env1 k=Ai.lk env k) (h3:∀k,Ai.lk env3 k=Ai.lk env2 k):Agr D env1 env3:=
 ⟨fun k hk=>by rw [h1,h3];exact h.same k hk,fun k e hd he ho=>by rw [h3];exact h.own1 k e hd (by rw [←h1];exact he) ho⟩
theorem Xy {env1:Env} (h1:∀k,lk env1 k=lk env k) (x:IX):Ig glob env1 x=Ig glob env x:=by
 have hev:ev glob env1 x=ev glob env x:=by cases x<;>first|rfl|exact h1 _
 unfold Ig;rw [hev];split<;>first|rfl|skip
 rw [h1]
theorem Dk:∀(xs:List IX) {env env2:Env},Agr D env env2→(∀x∈xs,x.off D)→xs.all (Ig glob env)=true→∀{as:List AV} {env1:Env},zo glob env xs=some (as,env1)→
  (∀k,lk env1 k=lk env k)∧∃env3,zo glob env2 xs=some (as,env3)∧∀k,lk env3 k=lk env2 k
 | [],env,env2,h,_,_,as,env1,he=>by
  simp only [zo,Option.some.injEq,Prod.mk.injEq] at he ⊢;obtain ⟨rfl,rfl⟩:=he;exact ⟨fun _=>rfl,env2,⟨rfl,rfl⟩,fun _=>rfl⟩
 | x::xs,env,env2,h,hx,hk,as,env1,he=>by
  simp only [List.all_cons,Bool.and_eq_true] at hk;unfold zo at he ⊢
  split at he
  ·cases he
  ·rename_i a env' he1;obtain ⟨q1,env3,q2,q3⟩:=O7 h (hx x (by simp)) hk.1 he1;rw [q2]
   split at he
   ·cases he
   ·rename_i as' env'' he2;simp only [Option.some.injEq,Prod.mk.injEq] at he;obtain ⟨rfl,rfl⟩:=he;obtain ⟨p1,env4,p2,p3⟩:=Dk xs (h.lk q1 q3) (fun y hy=>hx y (by simp [hy])) (by rw [←hk.2];congr 1;funext y;exact Xy q1 y) he2;simp only [p2];exact ⟨fun k=>(p1 k).trans (q1 k),env4,rfl,fun k=>(p3 k).trans (q3 k)⟩
theorem Pj {x:IX} (hom:Sv glob env x=true):aop glob call cx env s (.mov x)=(match J8 glob env x with|some e=>.ok e env s|none=>.fail):=by
 simp only [aop];split
 ·rename_i es k hv;simp [Sv,hv] at hom
 ·rfl
theorem aaq (h:Agr D env env2) {op:AOp} {rs es:List IX} (hq:op.quiet=some (rs,es)) (hoff:∀x∈rs++es,x.off D) (hom:rs.all (Sv glob env)=true) (hesc:es.all (Ig glob env)=true)
  {e:EV} {env1:Env} {s1:St} (ha:aop glob call cx env s op=.ok e env1 s1):(∀k,lk env1 k=lk env k)∧∃env3,aop glob call cx env2 s op=.ok e env3 s1∧∀k,lk env3 k=lk env2 k:=by
 have hrd:∀x∈rs++es,rd glob env2 x=rd glob env x:=fun x hx=>(acO h (hoff x hx)).symm;have hld:∀x∈rs++es,∀n v,kT glob env s n x=some v→kT glob env2 s n x=some v:=fun x hx n v=>aa5 h (hoff x hx);have had:∀x∈rs++es,∀n,addr glob env2 n x=addr glob env n x:=fun x hx n=>(aeK h (hoff x hx)).symm;have hel:∀x∈rs++es,∀v,elems glob env x=some v→elems glob env2 x=some v:=fun x hx v=>Ut h (hoff x hx);have hok:∀x∈rs++es,vC env2 x=vC env x:=fun x hx=>(YA h (hoff x hx)).symm;cases op
 case mov x=>
  simp only [AOp.quiet,Option.some.injEq,Prod.mk.injEq] at hq;obtain ⟨rfl,rfl⟩:=hq;simp only [List.all_cons,List.all_nil,Bool.and_true] at hom;have hom2:Sv glob env2 x=true:=by unfold Sv at hom ⊢;rw [←xI h (hoff x (by simp))];exact hom
  rw [Pj hom] at ha;rw [Pj hom2,←adf h (hoff x (by simp))]
  split at ha
  ·rename_i e1 hm;cases ha;exact ⟨fun _=>rfl,env2,by simp [hm],fun _=>rfl⟩
  ·cases ha
 case pick c a b=>
  simp only [AOp.quiet,Option.some.injEq,Prod.mk.injEq] at hq;obtain ⟨rfl,rfl⟩:=hq;simp only [aop,okv] at ha ⊢;rw [hrd c (by simp)]
  split at ha
  ·rename_i x hx
   have hp:rd glob env2 (if x then a else b)=rd glob env (if x then a else b):=by cases x<;>exact hrd _ (by simp)
   simp only [hp]
   split at ha
   ·rename_i v hv;cases ha;exact ⟨fun _=>rfl,env2,by simp [hv],fun _=>rfl⟩
   ·cases ha
  ·cases ha
 case loadp d n x=>
  simp only [AOp.quiet,Option.some.injEq,Prod.mk.injEq] at hq;obtain ⟨rfl,rfl⟩:=hq;simp only [aop] at ha ⊢;have hd:lk env2 d=lk env d:=(h.same d (hoff (.t d) (by simp) d (by simp [IX.slots]))).symm;rw [hd,←xI h (hoff x (by simp))]
  split at ha
  ·rename_i h1 h2;simp only [okv] at ha ⊢
   split at ha
   ·rename_i v hv;cases ha;exact ⟨fun _=>rfl,env2,by simp [hld x (by simp) _ _ hv],fun _=>rfl⟩
   ·cases ha
  ·cases ha
 case loadw n x bs=>
  simp only [AOp.quiet,Option.some.injEq,Prod.mk.injEq] at hq;obtain ⟨rfl,rfl⟩:=hq
  have haw:∀l,Ld env2 l bs=Ld env l bs:=fun l=>by
   unfold Ld;have hb:∀b∈bs,lk env2 b=lk env b:=fun b hb=>(h.same b (hoff (.t b) (by simp [hb]) b (by simp [IX.slots]))).symm;rw [Bool.eq_iff_iff,List.all_eq_true,List.all_eq_true];exact ⟨fun q b hb'=>by rw [←hb b hb'];exact q b hb',fun q b hb'=>by rw [hb b hb'];exact q b hb'⟩
  simp only [aop] at ha ⊢;rw [←xI h (hoff x (by simp))]
  split at ha
  ·rename_i l o1 h1;rw [haw]
   split at ha
   ·rename_i hc;simp only [okv] at ha ⊢
    split at ha
    ·rename_i v hv;cases ha;exact ⟨fun _=>rfl,env2,by simp [hc,hld x (by simp) _ _ hv],fun _=>rfl⟩
    ·cases ha
   ·cases ha
  ·cases ha
 case loadv x k off=>
  simp only [AOp.quiet,Option.some.injEq,Prod.mk.injEq] at hq;obtain ⟨rfl,rfl⟩:=hq;simp only [aop] at ha ⊢;have hd:lk env2 k=lk env k:=(h.same k (hoff (.t k) (by simp) k (by simp [IX.slots]))).symm;rw [hd,←xI h (hoff x (by simp))]
  split at ha
  ·rename_i h1 h2
   split at ha
   ·rename_i hc
    split at ha
    ·rename_i m hm;cases ha;exact ⟨fun _=>rfl,env2,by simp [hc,hm],fun _=>rfl⟩
    ·cases ha
   ·cases ha
  ·cases ha
 case loadl n x=>
  simp only [AOp.quiet,Option.some.injEq,Prod.mk.injEq] at hq;obtain ⟨rfl,rfl⟩:=hq;simp only [aop] at ha ⊢;rw [←xI h (hoff x (by simp))]
  split at ha<;>first | (cases ha;done)|skip
  all_goals
   simp only [okv] at ha ⊢
   split at ha
   ·rename_i v hv;cases ha;exact ⟨fun _=>rfl,env2,by simp [hld x (by simp) _ _ hv],fun _=>rfl⟩
   ·cases ha
 case load n x=>
  simp only [AOp.quiet,Option.some.injEq,Prod.mk.injEq] at hq;obtain ⟨rfl,rfl⟩:=hq;simp only [aop,okv] at ha ⊢
  split at ha
  ·rename_i v hv;cases ha;exact ⟨fun _=>rfl,env2,by simp [hld x (by simp) _ _ hv],fun _=>rfl⟩
  ·cases ha
 case b2s x=>
  simp only [AOp.quiet,Option.some.injEq,Prod.mk.injEq] at hq;obtain ⟨rfl,rfl⟩:=hq;simp only [aop,okv] at ha ⊢
  split at ha
  ·rename_i es' hes;rw [hel x (by simp) _ hes];simp only []
   split at ha
   ·rename_i v hv;cases ha;exact ⟨fun _=>rfl,env2,by simp [hv],fun _=>rfl⟩
   ·cases ha
  ·cases ha
 case idx sz x i=>
  simp only [AOp.quiet,Option.some.injEq,Prod.mk.injEq] at hq;obtain ⟨rfl,rfl⟩:=hq;simp only [aop] at ha ⊢;rw [hrd i (by simp),hok x (by simp),hrd x (by simp)]
  split at ha
  ·split at ha
   ·split at ha
    ·rename_i _ k hk _ tip t sz' es hl
     split at ha
     ·rename_i hc;cases ha;have hl2:=h.own (k:=k) (e:=.own tip t sz' es) rfl hl;exact ⟨fun _=>rfl,env2,by simp [hl2,hc],fun _=>rfl⟩
     ·cases ha
    ·cases ha
   ·(repeat' split at ha)<;>first | (cases ha;done) | (cases ha;exact ⟨fun _=>rfl,env2,by simp [*],fun _=>rfl⟩)
  ·cases ha
 case lenA n=>cases ha;exact ⟨fun _=>rfl,env2,rfl,fun _=>rfl⟩
 case len k x=>
  simp only [AOp.quiet,Option.some.injEq,Prod.mk.injEq] at hq;obtain ⟨rfl,rfl⟩:=hq
  match k with
  | 0=>
   simp only [aop] at ha ⊢
   split at ha
   ·rename_i es' hes;cases ha;exact ⟨fun _=>rfl,env2,by rw [hel x (by simp) _ hes],fun _=>rfl⟩
   ·split at ha
    ·rename_i l ver sz o m hrx;cases ha
     have hn:elems glob env2 x=none:=by
      have hr2:rd glob env2 x=some (.sk l ver sz o m):=(hrd x (by simp)).trans hrx;unfold rd at hr2;unfold elems
      split at hr2
      ·rename_i a hev;rw [hev]
       cases a<;>first|rfl | (simp [AV.plain] at hr2;done)
      ·cases hr2
     exact ⟨fun _=>rfl,env2,by rw [hn,hrd x (by simp),hrx],fun _=>rfl⟩
    ·cases ha
  | 1=>simp only [aop] at ha ⊢;rw [hrd x (by simp)];(repeat' split at ha)<;>first | (cases ha;done) | (cases ha;exact ⟨fun _=>rfl,env2,by simp [*],fun _=>rfl⟩)
  | 2=>simp only [aop] at ha ⊢;rw [hrd x (by simp)];(repeat' split at ha)<;>first | (cases ha;done) | (cases ha;exact ⟨fun _=>rfl,env2,by simp [*],fun _=>rfl⟩)
  | k+3=>simp only [aop] at ha;cases ha
 case slcs x lo hi=>
  simp only [AOp.quiet,Option.some.injEq,Prod.mk.injEq] at hq;obtain ⟨rfl,rfl⟩:=hq;simp only [aop] at ha ⊢;have b1:∀d,bound glob env2 d lo=bound glob env d lo:=fun d=>(GK h (fun y hy=>hoff y (by simp [hy]))).symm;have b2:∀d,bound glob env2 d hi=bound glob env d hi:=fun d=>(GK h (fun y hy=>hoff y (by simp [hy]))).symm;simp only [hrd x (by simp),b1,b2]
  (repeat' split at ha)<;>first | (cases ha;done) | (cases ha;exact ⟨fun _=>rfl,env2,by simp [*],fun _=>rfl⟩)
 case slc sz x lo hi=>
  simp only [AOp.quiet,Option.some.injEq,Prod.mk.injEq] at hq;obtain ⟨rfl,rfl⟩:=hq;simp only [List.all_cons,List.all_nil,Bool.and_true] at hesc;simp only [aop] at ha ⊢
  cases he:esc glob env x with
  | none=>rw [he] at ha;cases ha
  | some p=>
   obtain ⟨a,env'⟩:=p;obtain ⟨q1,env3,q2,q3⟩:=O7 h (hoff x (by simp)) hesc he;have h':Agr D env' env3:=h.lk q1 q3;have b1:∀d,bound glob env3 d lo=bound glob env' d lo:=fun d=>(GK h' (fun y hy=>hoff y (by simp [hy]))).symm;have b2:∀d,bound glob env3 d hi=bound glob env' d hi:=fun d=>(GK h' (fun y hy=>hoff y (by simp [hy]))).symm;rw [he] at ha;rw [q2]
   cases a<;>simp only [reduceCtorEq] at ha ⊢<;>simp only [b1,b2] <;>
    ((repeat' split at ha)<;>first | (cases ha;done) | (cases ha;exact ⟨q1,env3,by simp [*],q3⟩))
 case cpy x=>
  simp only [AOp.quiet,Option.some.injEq,Prod.mk.injEq] at hq;obtain ⟨rfl,rfl⟩:=hq;simp only [List.all_cons,List.all_nil,Bool.and_true] at hesc;simp only [aop] at ha ⊢
  split at ha
  ·rename_i a env' he;cases ha;obtain ⟨q1,env3,q2,q3⟩:=O7 h (hoff x (by simp)) hesc he;exact ⟨q1,env3,by simp [q2],q3⟩
  ·cases ha
 case build zs ps=>
  simp only [AOp.quiet,Option.some.injEq,Prod.mk.injEq] at hq;obtain ⟨rfl,rfl⟩:=hq;simp only [aop,okv] at ha ⊢
  split at ha
  ·rename_i vs env' he;obtain ⟨q1,env3,q2,q3⟩:=Dk _ h (fun y hy=>hoff y (by simpa using hy)) hesc he;rw [q2]
   (repeat' split at ha)<;>first | (cases ha;done) | (cases ha;exact ⟨q1,env3,by simp [*],q3⟩)
  ·cases ha
 case bsl own t sz len zs ps=>
  cases own
  ·simp only [AOp.quiet,Option.some.injEq,Prod.mk.injEq] at hq;obtain ⟨rfl,rfl⟩:=hq;simp only [aop] at ha ⊢
   split at ha
   ·rename_i vs env' he;obtain ⟨q1,env3,q2,q3⟩:=Dk _ h (fun y hy=>hoff y (by simpa using hy)) hesc he;rw [q2];simp only [Bool.false_eq_true,if_false] at ha ⊢
    split at ha
    ·rename_i hc;cases ha;exact ⟨q1,env3,by rw [if_pos hc],q3⟩
    ·cases ha
   ·cases ha
  ·simp [AOp.quiet] at hq
 case mkfn f as cs=>
  simp only [AOp.quiet,Option.some.injEq,Prod.mk.injEq] at hq;obtain ⟨rfl,rfl⟩:=hq;simp only [List.all_append,Bool.and_eq_true] at hesc;simp only [aop] at ha ⊢
  split at ha
  ·rename_i vs env' he;obtain ⟨q1,env3,q2,q3⟩:=Dk _ h (fun y hy=>hoff y (by simp [hy])) hesc.1 he;rw [q2]
   split at ha
   ·rename_i ws env'' he2;obtain ⟨p1,env4,p2,p3⟩:=Dk _ (h.lk q1 q3) (fun y hy=>hoff y (by simp [hy])) (by rw [←hesc.2];congr 1;funext y;exact Xy q1 y) he2;cases ha;simp only [p2];exact ⟨fun k=>(p1 k).trans (q1 k),env4,rfl,fun k=>(p3 k).trans (q3 k)⟩
   ·cases ha
  ·cases ha
 case mkif t x=>
  simp only [AOp.quiet,Option.some.injEq,Prod.mk.injEq] at hq;obtain ⟨rfl,rfl⟩:=hq;simp only [List.all_cons,List.all_nil,Bool.and_true] at hesc;simp only [aop] at ha ⊢
  split at ha
  ·rename_i a env' he;cases ha;obtain ⟨q1,env3,q2,q3⟩:=O7 h (hoff x (by simp)) hesc he;exact ⟨q1,env3,by simp [q2],q3⟩
  ·cases ha
 case call f as=>
  simp only [AOp.quiet,Option.some.injEq,Prod.mk.injEq] at hq;obtain ⟨rfl,rfl⟩:=hq;simp only [aop] at ha ⊢;rw [hrd f (by simp)]
  split at ha
  ·rename_i fv vs env' hf he;obtain ⟨q1,env3,q2,q3⟩:=Dk _ h (fun y hy=>hoff y (by simp [hy])) hesc he;simp only [hf,q2]
   split at ha
   ·rename_i r s2 hr;cases ha;exact ⟨q1,env3,rfl,q3⟩
   ·cases ha
   ·cases ha
  ·cases ha
 all_goals
  first
  | (simp [AOp.quiet] at hq;done)
  | (simp only [AOp.quiet,Option.some.injEq,Prod.mk.injEq] at hq
     obtain ⟨rfl,rfl⟩:=hq;simp only [List.append_nil,List.mem_cons,List.not_mem_nil,or_false,forall_eq_or_imp,forall_eq] at hrd had hok;simp only [aop,okv,hrd,had,hok] at ha ⊢
     (repeat' split at ha)<;>first | (cases ha;done) | (cases ha;exact ⟨fun _=>rfl,env2,by simp [*],fun _=>rfl⟩))
end Go.Ai
namespace Go.Ai
variable {P:Program} {glob:Nat→Option (List AV)} {g:ai} {s:St} {B:Nat} {w:World} {env env2:Env} {a:Act} {call:AV→List AV→St→Ctx→CO} {cx:Ctx} {env':Env} {s':St} {D:Nat→Prop}
def EqE (env env2:Env):Prop:=∀k,lk env k=lk env2 k
theorem EqE.agr (h:EqE env env2):Agr (fun _=>False) env env2:=⟨fun k _=>h k,fun _ _ h=>h.elim⟩
theorem Fr.eqE {b0:Nat} {N:Wd} {ls:List Nat} (h:Fr P glob g s B w a env N b0 ls) (he:EqE env env'):Fr P glob g s B w a env' N b0 ls:=by
 refine ⟨⟨h.sim.base,⟨fun k e hk=>h.sim.env.rel k e (by rw [he];exact hk),fun k k' e e' hk hk'=>h.sim.env.apart k k' e e' (by rw [he];exact hk) (by rw [he];exact hk'),fun k e hk=>h.sim.env.off k e (by rw [he];exact hk),fun k e j hk hr=>?_⟩,h.sim.B⟩,h.sz,h.dl,h.df,h.nd,h.lo,h.pin⟩;obtain ⟨o,h1,h2⟩:=h.sim.env.refs k e j (by rw [he];exact hk) hr;exact ⟨o,by rw [←he];exact h1,h2⟩
def vz (env:Env) (dst:Option Nat) (e:EV):Env:=
 match dst with
 | some d=>(d,e)::env
 | none=>env
def okD (env:Env) (dst:Option Nat) (e:EV):Prop:=∀d,dst=some d→e.refers d=false∧rF env d=false
theorem TN {o:aI} {e:EV} (h:xk glob call o env s=some e):e.owns=false:=by
 unfold xk at h
 split at h
 ·cases h
 ·cases h;rfl
 ·split at h
  ·split at h
   ·split at h
    ·rename_i hc;cases h;exact hc.2
    ·cases h
   ·cases h
  ·cases h
theorem jV {o:aI} {env1:Env} {s1:St}:AZ glob call o env s=.norm env1 s1 ↔ s1=s∧∃e,xk glob call o env s=some e∧okD env o.dst e∧env1=vz env o.dst e:=by
 unfold AZ
 cases hq:xk glob call o env s with
 | none=>simp
 | some e=>
  cases hd:o.dst with
  | none=>simp [okD,vz];constructor<;>(rintro ⟨rfl,rfl⟩;exact ⟨rfl,rfl⟩)
  | some d=>
   simp only [okD,vz];constructor
   ·intro h
    split at h
    ·rename_i hc;cases h;exact ⟨rfl,e,rfl,fun d' hd'=>by cases hd';exact hc,rfl⟩
    ·cases h
   ·rintro ⟨rfl,e',he,h1,rfl⟩;cases he;rw [if_pos (h1 d rfl)]
theorem Yg (h:Agr D env env2) {gd:Option (Nat×Bool)} (hg:∀k b,gd=some (k,b)→¬D k):gU env gd=gU env2 gd:=by
 cases gd with
 | none=>rfl
 | some p=>simp only [gU,h.same p.1 (hg p.1 p.2 rfl)]
def aeR (D:Nat→Prop) (o:aI):Prop:=∀k∈o.reads,¬D k
theorem Aw (h:Agr D env env2) {o:aI} (ho:aeR D o) {e:EV} (hq:xk glob call o env s=some e):xk glob call o env2 s=some e:=by
 unfold xk at hq ⊢;rw [←Yg h (gd:=o.guard) (fun k b hk=>ho k (by simp [aI.reads,hk]))]
 split at hq
 ·cases hq
 ·exact hq
 ·split at hq
  ·rename_i hok;unfold okQ at hok
   split at hok
   ·rename_i rs es hqu;simp only [Bool.and_eq_true] at hok;have hoff:∀x∈rs++es,x.off D:=fun x hx k hk=>ho k (by simp only [aI.reads,hqu];exact List.mem_append_left _ (List.mem_flatMap.2 ⟨x,hx,hk⟩))
    split at hq
    ·rename_i e1 env1 s1 ha;obtain ⟨_,env3,ha2,_⟩:=aaq h hqu hoff hok.1 hok.2 ha
     have hok2:okQ glob env2 o.op=true:=by
      unfold okQ;rw [hqu];simp only [Bool.and_eq_true];constructor
      ·rw [←hok.1];rw [Bool.eq_iff_iff];simp only [List.all_eq_true]
       have:∀x∈rs,Sv glob env2 x=Sv glob env x:=fun x hx=>by unfold Sv;rw [xI h (hoff x (by simp [hx]))]
       exact ⟨fun hh x hx=>by rw [←this x hx];exact hh x hx,fun hh x hx=>by rw [this x hx];exact hh x hx⟩
      ·have hesc:=hok.2;simp only [List.all_eq_true] at hesc ⊢;intro x hx;have h1:=hesc x hx;unfold Ig at h1 ⊢;rw [←xI h (hoff x (by simp [hx]))]
       split at h1
       ·rfl
       ·rename_i j hv
        split at h1
        ·rename_i tip t sz es' hj;rw [h.own (k:=j) (e:=.own tip t sz es') rfl hj];exact h1
        ·cases h1
       ·exact h1
       ·cases h1
     rw [if_pos hok2,ha2];exact hq
    ·cases hq
   ·cases hok
  ·cases hq
theorem Ya {dst:Option Nat} {e:EV} (he:e.owns=false):Agr (fun k=>dst=some k) (vz env dst e) env:=by
 cases dst with
 | none=>exact ⟨fun _ _=>rfl,fun k _ h=>(by cases h)⟩
 | some d=>
  refine ⟨fun k hk=>?_,fun k e' hk hl ho=>?_⟩
  ·have:d≠k:=fun h=>hk (by rw [h])
   show (if d=k then some e else lk env k)=_;rw [if_neg this]
  ·cases hk
   have:lk ((d,e)::env) d=some e:=by show (if d=d then some e else _)=_;rw [if_pos rfl]
   have hh:lk ((d,e)::env) d=some e':=hl;rw [this] at hh;cases hh;rw [he] at ho;cases ho
theorem aar {dst:Option Nat} {e:EV} (he:e.owns=false) (_:okD env dst e):Agr (fun k=>dst=some k) (vz env dst e) env:=Ya he
theorem Yb {dst:Option Nat} {e:EV} (hd:okD env dst e):Agr (fun k=>dst=some k) env (vz env dst e):=by
 cases dst with
 | none=>exact ⟨fun _ _=>rfl,fun k _ h=>(by cases h)⟩
 | some d=>
  have hn:=(hd d rfl).2;refine ⟨fun k hk=>?_,fun k e' hk hl ho=>?_⟩
  ·have:d≠k:=fun h=>hk (by rw [h])
   show _=(if d=k then some e else lk env k);rw [if_neg this]
  ·cases hk;unfold rF at hn;rw [hl] at hn;simp only [] at hn;rw [hn] at ho;cases ho
theorem dZ {dst:Option Nat} {e:EV} {k:Nat} (h:dst≠some k):lk (vz env dst e) k=lk env k:=by
 cases dst with
 | none=>rfl
 | some d=>show (if d=k then some e else lk env k)=_;rw [if_neg (fun hh=>h (by rw [hh]))]
theorem I4 {d:Option Nat} {o:aI} (h:wS d o.reads=true):aeR (fun k=>d=some k) o:=by
 intro k hk hd;subst hd;simp [wS] at h;exact h k hk rfl
theorem BJ {o p:aI} (h:RN o p=true):o.op.quiet.isSome=true∧p.op.quiet.isSome=true∧aeR (fun k=>o.dst=some k) p∧aeR (fun k=>p.dst=some k) o∧∀d,o.dst=some d→p.dst≠some d:=by
 simp only [RN,Bool.and_eq_true] at h;obtain ⟨⟨⟨⟨h1,h2⟩,h3⟩,h4⟩,h5⟩:=h;refine ⟨h1,h2,I4 h3,I4 h4,fun d hd hp=>?_⟩;rw [hd,hp] at h5;simp at h5
theorem aaO {o p:aI} (hap:RN o p=true) {env1 env2:Env} (h1:AZ glob call o env s=.norm env1 s) (h2:AZ glob call p env1 s=.norm env2 s):
  ∃env1' env2',AZ glob call p env s=.norm env1' s∧AZ glob call o env1' s=.norm env2' s∧EqE env2' env2:=by
 obtain ⟨_,_,a1,a2,a3⟩:=BJ hap;obtain ⟨_,eo,qo,ko,rfl⟩:=jV.1 h1;obtain ⟨_,ep,qp,kp,rfl⟩:=jV.1 h2;have qp':=Aw (aar (TN qo) ko) a1 qp
 have kp':okD env p.dst ep:=fun d hd=>⟨(kp d hd).1,by
  have:=(kp d hd).2
  unfold rF at this ⊢;rw [dZ (fun hh=>a3 d hh hd)] at this
  exact this⟩
 refine ⟨vz env p.dst ep,vz (vz env p.dst ep) o.dst eo,jV.2 ⟨rfl,ep,qp',kp',rfl⟩,jV.2 ⟨rfl,eo,Aw (Yb kp') a2 qo,fun d hd=>⟨(ko d hd).1, ?_⟩,rfl⟩,fun k=>?_⟩
 ·have:=(ko d hd).2
  unfold rF at this ⊢;rw [dZ (a3 d hd)];exact this
 ·by_cases hk:o.dst=some k
  ·have hk2:=a3 k hk;rw [dZ hk2,hk];show (if k=k then some eo else _)=(if k=k then some eo else _);rw [if_pos rfl,if_pos rfl]
  ·rw [dZ hk];by_cases hk2:p.dst=some k
   ·rw [hk2];show (if k=k then some ep else _)=(if k=k then some ep else _);rw [if_pos rfl,if_pos rfl]
   ·rw [dZ hk2,dZ hk2,dZ hk]
theorem LH {d1 d2:Option Nat} {e1 e2:EV} (hne:∀d,d1=some d→d2≠some d):EqE (vz (vz env d2 e2) d1 e1) (vz (vz env d1 e1) d2 e2):=by
 intro k;by_cases hk:d1=some k
 ·have hk2:=hne k hk;rw [dZ hk2,hk];show (if k=k then some e1 else _)=(if k=k then some e1 else _);rw [if_pos rfl,if_pos rfl]
 ·rw [dZ hk];by_cases hk2:d2=some k
  ·rw [hk2];show (if k=k then some e2 else _)=(if k=k then some e2 else _);rw [if_pos rfl,if_pos rfl]
  ·rw [dZ hk2,dZ hk2,dZ hk]
theorem EqE.put (h:EqE env env2) (dst:Option Nat) (e:EV):EqE (vz env dst e) (vz env2 dst e):=by
 intro k
 cases dst with
 | none=>exact h k
 | some d=>show (if d=k then some e else lk env k)=(if d=k then some e else lk env2 k);rw [h k]
theorem acJ (h:EqE env env2) {o:aI} {env1:Env} (h1:AZ glob call o env s=.norm env1 s):∃env1',AZ glob call o env2 s=.norm env1' s∧EqE env1 env1':=by
 obtain ⟨_,e,q,k,rfl⟩:=jV.1 h1;exact ⟨_,jV.2 ⟨rfl,e,Aw h.agr (fun _ _ h=>h.elim) q,fun d hd=>⟨(k d hd).1,by have:=(k d hd).2;unfold rF at this ⊢;rw [←h d];exact this⟩,rfl⟩,h.put _ _⟩
end Go.Ai
namespace Go.Ai
variable {P:Program} {glob:Nat→Option (List AV)} {g:ai} {s:St} {B:Nat} {w:World} {env env2:Env} {a:Act} {call:AV→List AV→St→Ctx→CO} {cx:Ctx} {env':Env} {s':St} {ops:Array Oper} {aops:List aI}
inductive Reach (ops:Array Oper):Nat→Nat→Prop where
 | edge {i j:Nat}:j∈vX ops i→Reach ops i j
 | trans {i e j:Nat}:e∈vX ops i→Reach ops e j→Reach ops i j
def Zq (ops:Array Oper) (acc:List (Nat×Nat)):Prop:=∀e j,(I7 acc e).testBit j=true→Reach ops e j
theorem ND {acc:List (Nat×Nat)}:∀(es:List Nat) (j:Nat),(Qu acc es).testBit j=true→∃e∈es,j=e∨(I7 acc e).testBit j=true
 | [],j,h=>by simp [Qu] at h
 | e::r,j,h=>by
  simp only [Qu,Nat.testBit_or,Bool.or_eq_true,Nat.testBit_two_pow,decide_eq_true_eq] at h;rcases h with (h|h)|h
  ·exact ⟨e,by simp,.inl h.symm⟩
  ·exact ⟨e,by simp,.inr h⟩
  ·obtain ⟨e',h1,h2⟩:=ND r j h;exact ⟨e',by simp [h1],h2⟩
theorem Qs:∀(π:List Nat) (acc:List (Nat×Nat)),Zq ops acc→Zq ops (masks ops π acc)
 | [],acc,h=>h
 | i::r,acc,h=>by
  refine Qs r _ (fun e j hj=>?_);simp only [I7] at hj
  split at hj
  ·rename_i hie
   have:i=e:=by simpa using hie
   subst this;obtain ⟨e',h1,h2⟩:=ND _ j hj;rcases h2 with rfl|h2
   ·exact .edge h1
   ·exact .trans h1 (h e' j h2)
  ·exact h e j hj
def Em (aops:List aI) (j i:Nat):Prop:=∃o p,aops[j]?=some o∧aops[i]?=some p∧apart o p=true
theorem Ij {ms:List (Nat×Nat)} (hms:Zq ops ms):∀(π:List Nat),KY aops ms π=true→π.Pairwise fun j i=>Reach ops i j∨Em aops j i
 | [],_=>.nil
 | j::r,h=>by
  simp only [KY,Bool.and_eq_true,List.all_eq_true] at h;refine .cons (fun i hi=>?_) (Ij hms r h.2);have h1:=h.1 i hi;simp only [aak,Bool.or_eq_true] at h1;rcases h1 with h1|h1
  ·exact .inl (hms i j h1)
  ·split at h1
   ·rename_i o p ho hp;exact .inr ⟨o,p,ho,hp,h1⟩
   ·cases h1
structure Inv (ops:Array Oper) (aops:List aI) (listed:Array Bool) (rem:List Nat):Prop where
 sz:listed.size=ops.size
 mem:∀j,j<ops.size→(listed.getD j true=false ↔ j∈rem)
 lt:∀j∈rem,j<ops.size
 nd:rem.Nodup
 pairs:rem.Pairwise fun j i=>Reach ops i j∨Em aops j i
 down:∀i,listed.getD i false=true→∀e∈vX ops i,listed.getD e false=true
 topo:∀p i q,rem=p++i::q→∀e∈vX ops i,listed.getD e false=true∨e∈p
variable {listed:Array Bool} {rem:List Nat}
theorem Nv {i:Nat} (h:i∈Region.ready .any ops listed):∀e∈vX ops i,listed.getD e false=true:=by
 obtain ⟨_,o,ho,hall⟩:=mem_ready.1 h;intro e he;simp only [vX,ho,List.mem_map,List.mem_filter,Array.mem_toList_iff] at he;obtain ⟨x,⟨hx,hb⟩,rfl⟩:=he;exact hall x hx hb
theorem afN {j:Nat} (h:j<listed.size):listed.getD j true=listed.getD j false:=by
 simp [Array.getD_eq_getD_getElem?,h]
theorem Inv.reach (h:Inv ops aops listed rem) {i j:Nat} (hr:Reach ops i j) (hw:∀e∈vX ops i,listed.getD e false=true):listed.getD j false=true:=by
 induction hr with
 | edge he=>exact hw _ he
 | trans he _ ih=>exact ih (h.down _ (hw _ he))
theorem Inv.not_reach (h:Inv ops aops listed rem) {i j:Nat} (hi:i∈Region.ready .any ops listed) (hj:j∈rem):¬Reach ops i j:=by
 intro hr;have h1:=h.reach hr (Nv hi);have h2:=(h.mem j (h.lt j hj)).2 hj;rw [afN (by rw [h.sz];exact h.lt j hj),h1] at h2;cases h2
theorem Inv.ready_mem (h:Inv ops aops listed rem) {i:Nat} (hi:i∈Region.ready .any ops listed):i∈rem:=by
 obtain ⟨h1,o,ho,_⟩:=mem_ready.1 hi;exact (h.mem i (Array.getElem?_eq_some_iff.1 ho).1).1 h1
theorem Inv.head_ready {i:Nat} {r:List Nat} (h:Inv ops aops listed (i::r)):i∈Region.ready .any ops listed:=by
 have hlt:=h.lt i (by simp);refine mem_ready.2 ⟨(h.mem i hlt).2 (by simp),ops[i],by simp [hlt],fun e he hb=>?_⟩
 have hw:e.on∈vX ops i:=by
  simp only [vX,Array.getElem?_eq_getElem hlt,List.mem_map,List.mem_filter,Array.mem_toList_iff];exact ⟨e,⟨he,hb⟩,rfl⟩
 rcases h.topo [] i r rfl e.on hw with h1|h1
 ·exact h1
 ·cases h1
theorem Inv.nil_ready (h:Inv ops aops listed []):Region.ready .any ops listed=[]:=by
 cases hr:Region.ready .any ops listed with
 | nil=>rfl
 | cons i r=>have:=h.ready_mem (i:=i) (by rw [hr];simp);cases this
theorem Inv.remove {p q:List Nat} {i:Nat} (h:Inv ops aops listed (p++i::q)) (hi:i∈Region.ready .any ops listed):Inv ops aops (listed.setIfInBounds i true) (p++q):=by
 have hlt:=h.lt i (by simp)
 have hset:∀j b,(listed.setIfInBounds i true).getD j b=if j=i then true else listed.getD j b:=by
  intro j b;by_cases hj:j=i
  ·subst hj;simp [Array.getD_eq_getD_getElem?,h.sz,hlt]
  ·simp [Array.getD_eq_getD_getElem?,hj,Array.getElem?_setIfInBounds,Ne.symm hj]
 have hnd:=h.nd;have hsub:List.Sublist (p++q) (p++i::q):=List.Sublist.append (List.Sublist.refl p) (List.sublist_cons_self i q)
 have hni:i ∉ p++q:=by
  have h1:=List.nodup_append.1 hnd;intro hh;rcases List.mem_append.1 hh with hh|hh
  ·exact h1.2.2 i hh i (by simp) rfl
  ·exact (List.nodup_cons.1 h1.2.1).1 hh
 refine ⟨by simpa using h.sz,fun j hj=>?_,fun j hj=>h.lt j (by simp at hj ⊢;rcases hj with hj|hj<;>simp [hj]), ?_, ?_,fun k hk e he=>?_,fun p' k q' heq e he=>?_⟩
 ·rw [hset];by_cases hji:j=i
  ·subst hji;simp only [if_true];exact ⟨fun hh=>absurd hh (by decide),fun hh=>absurd hh hni⟩
  ·rw [if_neg hji,h.mem j hj];simp [hji]
 ·exact List.Nodup.sublist hsub hnd
 ·have:=h.pairs
  exact List.Pairwise.sublist hsub this
 ·rw [hset] at hk ⊢;split
  ·rfl
  ·split at hk
   ·rename_i hki;subst hki;exact Nv hi e he
   ·exact h.down k hk e he
 ·rw [hset];by_cases hei:e=i
  ·left;rw [if_pos hei]
  ·rw [if_neg hei];rcases List.append_eq_append_iff.1 heq with ⟨c,h1,h2⟩|⟨c,h1,h2⟩
   ·-- k within q
    rcases h.topo (p++i::c) k q' (by rw [h2];simp) e he with h3|h3
    ·exact .inl h3
    ·right;rw [h1];simp at h3 ⊢;rcases h3 with h3|h3|h3
     ·exact .inl h3
     ·exact absurd h3 hei
     ·exact .inr h3
   ·cases c with
    | nil=>
     simp at h1 h2;subst h1;rcases h.topo (p++[i]) k q' (by rw [←h2];simp) e he with h3|h3
     ·exact .inl h3
     ·right;simp at h3;rcases h3 with h3|h3
      ·exact h3
      ·exact absurd h3 hei
    | cons c0 c=>
     simp at h2;obtain ⟨rfl,rfl⟩:=h2;exact h.topo p' k (c++i::q) (by rw [h1];simp) e he
end Go.Ai
namespace Go.Ai
variable {qt:Prop} {P:Program} {glob:Nat→Option (List AV)} {g:ai} {s:St} {B:Nat} {w:World} {env env2:Env} {a:Act} {call:AV→List AV→St→Ctx→CO} {cx:Ctx} {env':Env} {s':St} {ops:Array Oper} {aops:List aI}
theorem gu {o:aI} (h:o.op.quiet.isSome=true):gZ glob call cx o env s=AZ glob call o env s:=by
 unfold gZ;rw [if_pos h]
theorem jS {o:aI} (h:o.op.quiet.isSome=false):gZ glob call cx o env s=fK glob call cx o env s:=by
 unfold gZ;rw [if_neg (by rw [h];simp)]
theorem LG {d:Nat} {e:EV} (h:rF env d=false):put env d e=(d,e)::env:=by
 unfold put;unfold rF at h;split
 ·rename_i o ho;rw [ho] at h;simp [h]
 ·rfl
def Runs (glob:Nat→Option (List AV)) (call:AV→List AV→St→Ctx→CO) (cx:Ctx) (aops:List aI):List Nat→Env→St→Env→St→Prop
 | [],env,s,env',s'=>EqE env env'∧s'=s
 | i::r,env,s,env',s'=>∃o xJ env1 s1,aops[i]?=some o∧EqE env xJ∧gZ glob call cx o xJ s=.norm env1 s1∧Runs glob call cx aops r env1 s1 env' s'
theorem EqE.trans {env3:Env} (h:EqE env env2) (h':EqE env2 env3):EqE env env3:=fun k=>(h k).trans (h' k)
theorem EqE.symm (h:EqE env env2):EqE env2 env:=fun k=>(h k).symm
theorem EqE.refl (env:Env):EqE env env:=fun _=>rfl
theorem Runs.eqE {l:List Nat} (h:Runs glob call cx aops l env s env' s') (he:EqE env2 env):Runs glob call cx aops l env2 s env' s':=by
 cases l with
 | nil=>exact ⟨he.trans h.1,h.2⟩
 | cons i r=>obtain ⟨o,e0,e1,s1,h1,h2,h3,h4⟩:=h;exact ⟨o,e0,e1,s1,h1,he.trans h2,h3,h4⟩
theorem UW:∀(l:List Nat) {env:Env} {s:St},jw glob call cx aops l env s=.norm env' s'→Runs glob call cx aops l env s env' s'
 | [],env,s,h=>by simp only [jw,Out.norm.injEq] at h;exact ⟨by rw [h.1];exact .refl _,h.2.symm⟩
 | i::r,env,s,h=>by
  simp only [jw] at h
  split at h
  ·cases h
  ·rename_i o ho
   split at h
   ·rename_i env1 s1 hr;exact ⟨o,env,env1,s1,ho,.refl _,hr,UW r h⟩
   ·rename_i hne;exact absurd h (hne _ _)
theorem YL {d:Nat} {e:EV} {k:Nat} (hk:k≠d):lk (put env d e) k=(if rF env d=true then (lk env k).map (fun x=>if x.refers d then .v .u else x) else lk env k):=by
 by_cases ho:rF env d=true
 ·rw [if_pos ho];unfold rF at ho;unfold put;split
  ·rename_i o hlo;rw [hlo] at ho;simp only [] at ho;rw [if_pos ho,gG _ _ (Ne.symm hk),vK]
  ·rename_i hlo;rw [hlo] at ho;cases ho
 ·rw [if_neg ho,LG (by simpa using ho),gG _ _ (Ne.symm hk)]
theorem acP {d k:Nat} {e:EV} (he:e.owns=true) {x:AV} (hx:x≠.u) (h:lk (put env d e) k=some (.v x)):lk env k=some (.v x):=by
 have hk:k≠d:=fun hk=>by subst hk;rw [wV] at h;cases h;cases he
 rw [YL hk] at h
 split at h
 ·cases hl:lk env k with
  | none=>rw [hl] at h;cases h
  | some y=>
   rw [hl] at h;simp only [Option.map_some,Option.some.injEq] at h
   split at h
   ·cases h;exact absurd rfl hx
   ·rw [h]
 ·exact h
section
variable {d:Nat} {v:AV} (hd:lk env d=none)
include hd
end
theorem ajE {o p:aI} (hap:aeG o p=true) {env1 env2:Env} {s1 s2:St} (h1:gZ glob call cx o env s=.norm env1 s1) (h2:gZ glob call cx p env1 s1=.norm env2 s2):
  s1=s∧s2=s∧∃f1 f2,gZ glob call cx p env s=.norm f1 s∧gZ glob call cx o f1 s=.norm f2 s∧EqE f2 env2:=absurd hap Bool.false_ne_true
theorem CG {o:aI} (hq:o.op.quiet.isSome=true) {env1:Env} {s1:St} (h:gZ glob call cx o env s=.norm env1 s1):s1=s:=by
 rw [gu hq] at h;exact (jV.1 h).1
theorem aaT {o:aI} (hq:o.op.quiet.isSome=true) (he:EqE env env2) {env1:Env} {s1:St} (h:gZ glob call cx o env s=.norm env1 s1):∃env3,gZ glob call cx o env2 s=.norm env3 s∧EqE env1 env3:=by
 have hs:=CG hq h;subst hs;rw [gu hq] at h ⊢;exact acJ he h
def Keeps (s1 s:St):Prop:=(∀(l:Nat) cs,s1[l]?=some (fZ.cells cs)→s[l]?=some (fZ.cells cs))∧(∀(l:Nat) es,s1[l]?=some (fZ.map es)→s[l]?=some (fZ.map es))∧∀(l:Nat) t sz ver cs,s1[l]?=some (fZ.buf t sz ver cs)→s[l]?=some (fZ.buf t sz ver cs)
theorem Qa {o o':fZ} {l:Nat} (hne:o'≠o) (h:(s++[o])[l]?=some o'):s[l]?=some o':=by
 by_cases hl:l<s.length
 ·rwa [List.getElem?_append_left hl] at h
 ·rw [List.getElem?_append_right (by omega)] at h
  cases hx:l - s.length with
  | zero=>rw [hx] at h;simp at h;exact absurd h.symm hne
  | succ k=>rw [hx] at h;simp at h
theorem UU {o o':fZ} {l k:Nat} (hl:l<s.length) (hne:o'≠o) (h:(s.set l o)[k]?=some o'):s[k]?=some o':=by
 by_cases hk:l=k
 ·subst hk;rw [List.getElem?_set_self hl] at h;simp at h;exact absurd h.symm hne
 ·rwa [List.getElem?_set_ne hk] at h
theorem Keeps.push {t sz n:Nat}:Keeps (s++[.row t sz n]) s:=
 ⟨fun _ _ h=>Qa (by simp) h,fun _ _ h=>Qa (by simp) h,fun _ _ _ _ _ h=>Qa (by simp) h⟩
theorem Keeps.set {l t sz n:Nat} (hl:l<s.length):Keeps (s.set l (.row t sz n)) s:=
 ⟨fun _ _ h=>UU hl (by simp) h,fun _ _ h=>UU hl (by simp) h,fun _ _ _ _ _ h=>UU hl (by simp) h⟩
theorem NH {s1:St} (hk:Keeps s1 s) {n:Option Nat} {x:IX} {v:AV} (h:kT glob env s1 n x=some v):kT glob env s n x=some v:=by
 unfold kT at h ⊢
 split at h
 ·exact h
 ·exact h
 ·exact h
 ·exact h
 ·split at h
  ·rename_i cs hl;rw [hk.1 _ cs hl];exact h
  ·cases h
 ·split at h
  ·rename_i hl;rw [hk.2.2 _ _ _ _ _ hl];exact h
  ·cases h
 ·cases h
theorem af4 {s1:St} (hk:Keeps s1 s) {op:AOp} (hc:op.calm=true) (hq:op.quiet.isSome=true) {cx1 cx2:Ctx} {e:EV} {env1:Env} {s2:St} (hno:okQ glob env op=true) (h:aop glob call cx1 env s1 op=.ok e env1 s2):aop glob call cx2 env s op=.ok e env1 s:=by
 cases op<;>first | (cases hc;done)|skip
 case mov x=>
  simp only [okQ,AOp.quiet,List.all_cons,List.all_nil,Bool.and_true] at hno;rw [Pj hno] at h ⊢
  cases hm:J8 glob env x with
  | none=>rw [hm] at h;cases h
  | some e1=>rw [hm] at h;cases h;rfl
 case load n x=>
  simp only [aop] at h ⊢;obtain ⟨r,hr,rfl,rfl,_⟩:=yB h;rw [NH hk hr];rfl
 case loadp d n x=>
  simp only [aop] at h ⊢
  split at h
  ·obtain ⟨r,hr,rfl,rfl,_⟩:=yB h;rw [NH hk hr];rfl
  ·cases h
 case look kk z ok m k=>
  simp only [aop] at h ⊢
  cases hkv:rd glob env k with
  | none=>rw [hkv] at h;cases h
  | some key=>
   rw [hkv] at h;simp only [] at h ⊢
   cases hm:rd glob env m with
   | none=>
    rw [hm] at h
    split at h
    ·cases h
    ·simp at h
   | some mv=>
    rw [hm] at h
    have key2:∀r:Option AV,(match mv with | .im es=>find kk key es | .nm=>if uf kk key then some none else none | .mp l=>(match s1[l]? with|some (.map es)=>find kk key es | _=>none) | _=>none)=some r→
      (match mv with | .im es=>find kk key es | .nm=>if uf kk key then some none else none | .mp l=>(match s[l]? with|some (.map es)=>find kk key es | _=>none) | _=>none)=some r:=by
     intro r hr
     cases mv<;>first|exact hr|skip
     simp only [] at hr ⊢
     split at hr
     ·rename_i es hl;rw [hk.2.1 _ es hl];exact hr
     ·cases hr
    by_cases h3k:3≤kk∧uf kk key=false
    ·rw [if_pos h3k] at h;cases h
    rw [if_neg h3k] at h;rw [if_neg h3k]
    split at h
    ·rename_i r hr
     have:=key2 r (by cases mv<;>exact hr)
     split
     ·rename_i r' hr'
      have e1:r=r':=Option.some.inj (this.symm.trans (by cases mv<;>exact hr'))
      subst e1
      split at h
      ·rename_i hok;cases h;simp [hok]
      ·rename_i hok;cases h;simp [hok]
     ·rename_i hr';exfalso
      have h3:=this.symm.trans (by cases mv<;>exact hr')
      cases h3
    ·cases h
 case len k x=>
  match k with
  | 0=>
   simp only [aop] at h ⊢
   split at h
   ·cases h;rfl
   ·split at h
    ·cases h;rfl
    ·cases h
  | 1=>
   simp only [aop] at h ⊢
   split at h
   ·cases h;rfl
   ·cases h
  | 2=>cases hc
  | k+3=>cases hc
 case bsl own t sz len zs ps=>
  cases own with
  | true=>cases hc
  | false=>
   simp only [aop] at h ⊢
   split at h
   ·rename_i vs env1 he;simp only [Bool.false_eq_true,if_false] at h ⊢
    split at h
    ·rename_i hc2;cases h;rw [if_pos hc2]
    ·cases h
   ·cases h
 all_goals
  simp only [aop,okv] at h ⊢
  ((repeat' split at h)<;>first | (cases h;done) | (cases h;simp [*];done))
theorem Oj {o p:aI} (h:RG o p=true):(∃d t sz x y,o=⟨some d,none,.apprp d t sz x y⟩∧(∀dp,p.dst=some dp→dp ∉ x.slots∧dp ∉ y.slots∧dp≠d)∧aeR (fun k=>k=d) p)∧p.op.calm=true∧p.op.quiet.isSome=true:=by
 obtain ⟨od,og,oop⟩:=o;simp only [RG,Bool.and_eq_true,Option.isNone_iff_eq_none] at h;obtain ⟨⟨⟨⟨⟨h1,h2⟩,h3⟩,h4⟩,h5⟩,h6⟩:=h;refine ⟨?_,h3,h4⟩;subst h2
 cases oop<;>first | (cases od<;>cases h1;done)|skip
 rename_i d t sz x y
 cases od with
 | none=>cases h1
 | some d'=>
  simp only [Bool.and_eq_true,beq_iff_eq] at h1;obtain ⟨rfl,h1⟩:=h1;refine ⟨d,t,sz,x,y,rfl,fun dp hdp=>?_,fun k hk hkd=>?_⟩
  ·rw [hdp] at h1 h6;simp [wS] at h1 h6;exact ⟨fun hm=>h1.1 dp hm rfl,fun hm=>h1.2 dp hm rfl,fun h=>h6 h.symm⟩
  ·subst hkd;simp [wS] at h5;exact h5 k hk rfl
theorem Wq {d t sz:Nat} {x y:IX} {env1:Env} {s1:St} (h:fK glob call cx ⟨some d,none,.apprp d t sz x y⟩ env s=.norm env1 s1):
  ∃v,lk env d=none∧env1=(d,.v v)::env∧Keeps s1 s∧(∀env2,lk env2 d=none→(∀ys,elems glob env y=some ys→elems glob env2 y=some ys)→ev glob env2 x=ev glob env x→fK glob call cx ⟨some d,none,.apprp d t sz x y⟩ env2 s=.norm ((d,.v v)::env2) s1):=by
 simp only [fK,gU,aop] at h ⊢
 cases hd:lk env d with
 | some z=>rw [hd] at h;cases h
 | none=>
  rw [hd] at h;simp only [] at h;have hput:∀(env2:Env) e,lk env2 d=none→put env2 d e=(d,e)::env2:=fun env2 e h2=>by unfold put;rw [h2]
  cases hy:elems glob env y with
  | none=>rw [hy] at h;cases h
  | some ys=>
   rw [hy] at h
   cases hx:ev glob env x with
   | none=>rw [hx] at h;cases h
   | some z=>
    rw [hx] at h
    cases z<;>first | (cases h;done)|skip
    rename_i a
    cases a<;>first | (cases h;done)|skip
    ·by_cases hc:0<sz∧0<ys.length∧(ys.all fun e=>e.cells.length == sz)=true∧ys.length≤aQ
     ·simp only [if_pos hc,EV.refers,Bool.false_eq_true,if_false,Out.norm.injEq] at h;obtain ⟨rfl,rfl⟩:=h;refine ⟨_,rfl,hput env _ hd,Keeps.push,fun env2 h2 hy2 hx2=>?_⟩;rw [h2,hy2 ys rfl,hx2];simp only [if_pos hc,EV.refers,Bool.false_eq_true,if_false,hput env2 _ h2]
     ·simp only [if_neg hc] at h;by_cases h0:ys.length=0
      ·simp only [if_pos h0,EV.refers,Bool.false_eq_true,if_false,Out.norm.injEq] at h;obtain ⟨rfl,rfl⟩:=h;refine ⟨_,rfl,hput env _ hd,⟨fun _ _ h=>h,fun _ _ h=>h,fun _ _ _ _ _ h=>h⟩,fun env2 h2 hy2 hx2=>?_⟩;rw [h2,hy2 ys rfl,hx2];simp only [if_neg hc,if_pos h0,EV.refers,Bool.false_eq_true,if_false,hput env2 _ h2]
      ·simp only [if_neg h0] at h;cases h
    ·rename_i l es;simp only [] at h
     cases hl:s[l]? with
     | none=>simp only [hl] at h;cases h
     | some ob=>
      simp only [hl] at h
      cases ob<;>first | (cases h;done)|skip
      rename_i t' sz' k;by_cases hc:t=t'∧sz=sz'∧k=es.length∧0<sz∧0<ys.length∧(ys.all fun e=>e.cells.length == sz)=true∧(es.all fun e=>e.cells.length == sz)=true∧es.length+ys.length≤aQ∧cx.lim≤l
      ·simp only [if_pos hc,EV.refers,Bool.false_eq_true,if_false,Out.norm.injEq] at h;obtain ⟨rfl,rfl⟩:=h;refine ⟨_,rfl,hput env _ hd,Keeps.set (List.getElem?_eq_some_iff.1 hl).1,fun env2 h2 hy2 hx2=>?_⟩;rw [h2,hy2 ys rfl,hx2];simp only [hl,if_pos hc,EV.refers,Bool.false_eq_true,if_false,hput env2 _ h2]
      ·simp only [if_neg hc] at h;by_cases h0:ys.length=0
       ·simp only [if_pos h0,EV.refers,Bool.false_eq_true,if_false,Out.norm.injEq] at h;obtain ⟨rfl,rfl⟩:=h;refine ⟨_,rfl,hput env _ hd,⟨fun _ _ h=>h,fun _ _ h=>h,fun _ _ _ _ _ h=>h⟩,fun env2 h2 hy2 hx2=>?_⟩;rw [h2,hy2 ys rfl,hx2];simp only [hl,if_neg hc,if_pos h0,EV.refers,Bool.false_eq_true,if_false,hput env2 _ h2]
       ·simp only [if_neg h0] at h;cases h
    ·by_cases hc:0<sz∧0<ys.length∧(ys.all fun e=>e.cells.length == sz)=true∧ys.length≤aQ
     ·simp only [if_pos hc,EV.refers,Bool.false_eq_true,if_false,Out.norm.injEq] at h;obtain ⟨rfl,rfl⟩:=h;refine ⟨_,rfl,hput env _ hd,Keeps.push,fun env2 h2 hy2 hx2=>?_⟩;rw [h2,hy2 ys rfl,hx2];simp only [if_pos hc,EV.refers,Bool.false_eq_true,if_false,hput env2 _ h2]
     ·simp only [if_neg hc] at h;by_cases h0:ys.length=0
      ·simp only [if_pos h0,EV.refers,Bool.false_eq_true,if_false,Out.norm.injEq] at h;obtain ⟨rfl,rfl⟩:=h;refine ⟨_,rfl,hput env _ hd,⟨fun _ _ h=>h,fun _ _ h=>h,fun _ _ _ _ _ h=>h⟩,fun env2 h2 hy2 hx2=>?_⟩;rw [h2,hy2 ys rfl,hx2];simp only [if_neg hc,if_pos h0,EV.refers,Bool.false_eq_true,if_false,hput env2 _ h2]
      ·simp only [if_neg h0] at h;cases h
theorem Yx {s1:St} (hk:Keeps s1 s) {p:aI} (hc:p.op.calm=true) (hq:p.op.quiet.isSome=true) {e:EV} (h:xk glob call p env s1=some e):xk glob call p env s=some e:=by
 unfold xk at h ⊢
 split at h
 ·cases h
 ·exact h
 ·split at h
  ·rename_i hok;rw [if_pos hok]
   split at h
   ·rename_i e1 env1 s2 ha;rw [af4 (cx2:=⟨s.length,s.length⟩) hk hc hq hok ha]
    split at h
    ·rename_i hcond;cases h;simp [hcond.2]
    ·cases h
   ·cases h
  ·cases h
theorem ajD {o p:aI} (hap:RG o p=true) {env1 env2:Env} {s1 s2:St} (h1:gZ glob call cx o env s=.norm env1 s1) (h2:gZ glob call cx p env1 s1=.norm env2 s2):
  s2=s1∧∃f1 f2,gZ glob call cx p env s=.norm f1 s∧gZ glob call cx o f1 s=.norm f2 s1∧EqE f2 env2:=by
 obtain ⟨⟨d,t,sz,x,y,rfl,hdst,hoff⟩,hcalm,hq⟩:=Oj hap;have hloud:(AOp.apprp d t sz x y).quiet.isSome=false:=rfl;rw [jS hloud] at h1;rw [gu hq] at h2;obtain ⟨v,hdn,rfl,hk,hrun⟩:=Wq h1;obtain ⟨rfl,e,hqv,hokd,rfl⟩:=jV.1 h2
 have hagr:Agr (fun k=>k=d) ((d,.v v)::env) env:=by
  refine ⟨fun k hkd=>gG _ _ (fun h=>hkd h.symm),fun k e' hkd hl ho=>?_⟩;subst hkd;rw [kV] at hl;cases hl;cases ho
 have hqv':xk glob call p env s=some e:=Yx hk hcalm hq (Aw hagr hoff hqv)
 have hok':okD env p.dst e:=fun dp hdp=>⟨(hokd dp hdp).1,by
  have:=(hokd dp hdp).2
  unfold rF at this ⊢
  rwa [gG _ _ (fun h=>(hdst dp hdp).2.2 h.symm)] at this⟩
 refine ⟨rfl,vz env p.dst e,(d,.v v)::vz env p.dst e,by rw [gu hq];exact jV.2 ⟨rfl,e,hqv',hok',rfl⟩, ?_,fun k=>?_⟩
 ·rw [jS hloud];have hagr2:=aar (TN hqv') hok';refine hrun _ ?_ ?_ ?_
  ·rw [dZ (fun h=>(hdst d h).2.2 rfl)];exact hdn
  ·exact fun ys hys=>Ut (Yb hok') (fun k hk hd=>(hdst k hd).2.1 hk) hys
  ·exact xI hagr2 (fun k hk hd=>(hdst k hd).1 hk)
 ·by_cases hkd:k=d
  ·subst hkd;rw [kV,dZ (fun h=>(hdst k h).2.2 rfl),kV]
  ·rw [gG _ _ (Ne.symm hkd)]
   cases hp:p.dst with
   | none=>show lk env k=lk ((d,.v v)::env) k;rw [gG _ _ (Ne.symm hkd)]
   | some dp=>
    show lk ((dp,e)::env) k=lk ((dp,e)::(d,.v v)::env) k;by_cases hkp:dp=k
    ·subst hkp;rw [kV,kV]
    ·rw [gG _ _ hkp,gG _ _ hkp,gG _ _ (Ne.symm hkd)]
theorem uz {op:AOp} (h:op.free=true):op.quiet.isSome=true:=by cases op<;>first|rfl | (cases h;done)
theorem zW {op:AOp} (h:∀(cx:Ctx) (s:St),aop glob call cx env s op=match (match aop glob call ⟨0,0⟩ env [] op with | .ok e env1 _=>some (e,env1) | _=>none) with|some (e,env1)=>RO.ok e env1 s|none=>.fail):
  ∀(cx:Ctx) (s:St),aop glob call cx env s op=match (match aop glob call ⟨0,0⟩ env [] op with | .ok e env1 _=>some (e,env1) | _=>none) with|some (e,env1)=>RO.ok e env1 s|none=>.fail:=h
theorem aeJ {op:AOp} (ho:op.free=true) (hok:okQ glob env op=true):∃r:Option (EV×Env),∀(cx:Ctx) (s:St),aop glob call cx env s op=match r with|some (e,env1)=>.ok e env1 s|none=>.fail:=by
 cases op<;>(try (cases ho;done))
 case mov x=>
  simp only [okQ,AOp.quiet,List.all_cons,List.all_nil,Bool.and_true] at hok;refine ⟨(J8 glob env x).map fun e=>(e,env),fun cx s=>?_⟩;rw [Pj hok]
  cases J8 glob env x<;>rfl
 case ext x i=>
  refine ⟨_,fun cx s=>zW ?_ cx s⟩;intro cx s;simp only [aop,okv]
  (repeat' split)<;>first|rfl | (simp_all;done)
 case idxa len sz x i=>
  refine ⟨_,fun cx s=>zW ?_ cx s⟩;intro cx s;simp only [aop,okv]
  (repeat' split)<;>first|rfl | (simp_all;done)
 case fld off x=>
  refine ⟨_,fun cx s=>zW ?_ cx s⟩;intro cx s;simp only [aop,okv]
  (repeat' split)<;>first|rfl | (simp_all;done)
 case bin bop x y=>
  refine ⟨_,fun cx s=>zW ?_ cx s⟩;intro cx s;simp only [aop,okv]
  (repeat' split)<;>first|rfl | (simp_all;done)
 case build zs ps=>
  refine ⟨_,fun cx s=>zW ?_ cx s⟩;intro cx s;simp only [aop,okv]
  (repeat' split)<;>first|rfl | (simp_all;done)
 case idx sz x i=>
  refine ⟨_,fun cx s=>zW ?_ cx s⟩;intro cx s;simp only [aop,okv]
  (repeat' split)<;>first|rfl | (simp_all;done)
 case slc sz x lo hi=>
  refine ⟨_,fun cx s=>zW ?_ cx s⟩;intro cx s;simp only [aop,okv]
  (repeat' split)<;>first|rfl | (simp_all;done)
 case nilchk x=>
  refine ⟨_,fun cx s=>zW ?_ cx s⟩;intro cx s;simp only [aop,okv]
  (repeat' split)<;>first|rfl | (simp_all;done)
 case b2s x=>
  refine ⟨_,fun cx s=>zW ?_ cx s⟩;intro cx s;simp only [aop,okv]
  (repeat' split)<;>first|rfl | (simp_all;done)
 case loadl n x=>
  cases hx:ev glob env x with
  | none=>exact ⟨none,fun cx s=>by simp only [aop,hx]⟩
  | some y=>
   have good:(∀s s',kT glob env s n x=kT glob env s' n x)→(∀cx s,aop glob call cx env s (.loadl n x)=okv env s (kT glob env s n x))→∃r:Option (EV×Env),∀(cx:Ctx) (s:St),aop glob call cx env s (.loadl n x)=match r with|some (e,env1)=>.ok e env1 s|none=>.fail:=by
    intro k1 k2;refine ⟨(kT glob env [] n x).map fun v=>(.v v,env),fun cx s=>?_⟩;rw [k2,k1 s []]
    cases kT glob env [] n x<;>rfl
   cases y with
   | bx cs=>exact good (fun s s'=>by unfold kT;rw [hx]) (fun cx s=>by simp only [aop,hx])
   | lp k o=>exact good (fun s s'=>by unfold kT;rw [hx]) (fun cx s=>by simp only [aop,hx])
   | v a=>
    cases a with
    | ip cs=>exact good (fun s s'=>by unfold kT;rw [hx]) (fun cx s=>by simp only [aop,hx])
    | _=>exact ⟨none,fun cx s=>by simp only [aop,hx]⟩
   | _=>exact ⟨none,fun cx s=>by simp only [aop,hx]⟩
theorem Gs {o:aI} (ho:o.op.free=true) (s s':St):xk glob call o env s=xk glob call o env s':=by
 unfold xk;split
 ·rfl
 ·rfl
 ·split
  ·rename_i hok;obtain ⟨r,hr⟩:=aeJ (call:=call) ho hok;rw [hr,hr]
   cases r<;>simp
  ·rfl
theorem Bg {od:Option Nat} {op:AOp} {l:List Nat} (hl:op.heapy=some l) (hd:XB op od=true) {env1:Env} {s1:St}
  (h:fK glob call cx ⟨od,none,op⟩ env s=.norm env1 s1):
  ∃e,env1=vz env od e∧e.owns=false∧(∀d,od=some d→lk env d=none)∧∀env2,(∀k∈l,lk env2 k=lk env k)→(∀d,od=some d→lk env2 d=none)→fK glob call cx ⟨od,none,op⟩ env2 s=.norm (vz env2 od e) s1:=by
 have hev:∀(x:IX) (env2:Env),(∀k∈x.slots,lk env2 k=lk env k)→ev glob env2 x=ev glob env x:=by
  intro x env2 hx
  cases x with
  | t k=>exact hx k (by simp [IX.slots])
  | c a=>rfl
  | g k=>rfl
 cases op with
 | umap d=>
  cases od with
  | none=>cases hd
  | some d'=>
   have hd':d=d':=by simpa [XB] using hd
   subst hd';simp only [fK,gU,aop] at h ⊢
   cases hk:lk env d with
   | some e=>rw [hk] at h;cases h
   | none=>
    rw [hk] at h;simp only [EV.refers,Bool.false_eq_true,if_false,Out.norm.injEq] at h;obtain ⟨rfl,rfl⟩:=h;have hput:∀(env2:Env) e,lk env2 d=none→put env2 d e=(d,e)::env2:=fun env2 e h2=>by unfold put;rw [h2]
    refine ⟨.v (.mp s.length),by rw [hput env _ hk];rfl,rfl,(fun _ h=>by cases h;exact hk),fun env2 _ h2=>?_⟩;rw [h2 d rfl];simp only [EV.refers,Bool.false_eq_true,if_false,hput env2 _ (h2 d rfl)];rfl
 | uins m k v=>
  simp only [AOp.heapy,Option.some.injEq] at hl
  cases od with
  | some d=>cases hd
  | none=>
   subst hl;simp only [fK,gU] at h
   cases ha:aop glob call cx env s (.uins m k v) with
   | fail=>rw [ha] at h;cases h
   | pan _ _=>rw [ha] at h;cases h
   | ok e env' s'=>
    rw [ha] at h;simp only [Out.norm.injEq] at h;obtain ⟨rfl,rfl⟩:=h
    have henv:env'=env:=by
     simp only [aop] at ha
     (repeat' split at ha)<;>first | (cases ha;done) | (cases ha;rfl)
    subst henv;refine ⟨.v .u,rfl,rfl,(fun _ h=>by cases h),fun env2 h1 _=>?_⟩
    have:aop glob call cx env2 s (.uins m k v)=.ok e env2 s':=by
     simp only [aop] at ha ⊢;rw [hev m env2 (fun j hj=>h1 j (by simp [hj])),hev k env2 (fun j hj=>h1 j (by simp [hj])),hev v env2 (fun j hj=>h1 j (by simp [hj]))]
     (repeat' split at ha)<;>first | (cases ha;done) | (cases ha;simp [*];done)
    simp only [fK,gU,this];rfl
 | storep n x y=>
  simp only [AOp.heapy,Option.some.injEq] at hl
  cases od with
  | some d=>cases hd
  | none=>
   subst hl;simp only [fK,gU] at h
   cases ha:aop glob call cx env s (.storep n x y) with
   | fail=>rw [ha] at h;cases h
   | pan _ _=>rw [ha] at h;cases h
   | ok e env' s'=>
    rw [ha] at h;simp only [Out.norm.injEq] at h;obtain ⟨rfl,rfl⟩:=h
    have henv:env'=env:=by
     simp only [aop] at ha
     (repeat' split at ha)<;>first | (cases ha;done) | (cases ha;rfl)
    subst henv;refine ⟨.v .u,rfl,rfl,(fun _ h=>by cases h),fun env2 h1 _=>?_⟩;have ex:=hev x env2 (fun j hj=>h1 j (by simp [hj]));have ey:=hev y env2 (fun j hj=>h1 j (by simp [hj]))
    have:aop glob call cx env2 s (.storep n x y)=.ok e env2 s':=by
     simp only [aop] at ha ⊢;rw [ex,ey]
     split at ha
     ·rename_i av xv hx hy
      have hst:∀env3:Env,ev glob env3 x=some (.v av)→(tq glob cx env3 s n x xv).map (·.2)=(tq glob cx env' s n x xv).map (·.2):=by
       intro env3 h3;unfold tq;rw [h3,hx];by_cases hc:xv.cells.length=n∧n≠0∧(xv.cells.all AV.one)=true
       ·rw [if_pos hc,if_pos hc]
        cases av<;>first|rfl | (simp only [];(repeat' split)<;>first|rfl | (simp_all;done))
       ·rw [if_neg hc,if_neg hc]
      have h4:=hst env2 (ex.trans hx)
      split at ha
      ·rename_i q s1 hq;cases ha;rw [hq] at h4
       cases hq2:tq glob cx env2 s n x xv with
       | none=>rw [hq2] at h4;cases h4
       | some r=>
        rw [hq2] at h4;simp at h4;simp [h4]
      ·cases ha
     ·cases ha
    simp only [fK,gU,this];rfl
 | _=>simp [AOp.heapy] at hl
theorem wH {op:AOp} {l:List Nat} (h:op.heapy=some l):op.quiet.isSome=false:=by cases op<;>first|rfl | (simp [AOp.heapy] at h;done)
theorem ajH {o p:aI} (hap:RI o p=true) {env1 env2:Env} {s1 s2:St} (h1:gZ glob call cx o env s=.norm env1 s1) (h2:gZ glob call cx p env1 s1=.norm env2 s2):
  s2=s1∧∃f1 f2,gZ glob call cx p env s=.norm f1 s∧gZ glob call cx o f1 s=.norm f2 s1∧EqE f2 env2:=by
 obtain ⟨od,og,oop⟩:=o;simp only [RI,Bool.and_eq_true,Option.isNone_iff_eq_none] at hap;obtain ⟨⟨⟨⟨⟨a1,a2⟩,a3⟩,a4⟩,a5⟩,a6⟩:=hap;subst a3
 cases hl:oop.heapy with
 | none=>rw [hl] at a1;cases a1
 | some l=>
 rw [hl] at a1;simp only [] at a1;have hq:p.op.quiet.isSome=true:=uz a4;rw [jS (wH hl)] at h1;rw [gu hq] at h2;obtain ⟨eo,rfl,howns,hnone,hrun⟩:=Bg hl a2 h1;obtain ⟨rfl,e,hqv,hokd,rfl⟩:=jV.1 h2
 have hne:∀d,od=some d→p.dst≠some d:=by
  intro d hd hp;subst hd;rw [hp] at a6;simp at a6
 have hqv':xk glob call p env s=some e:=by rw [Gs a4 s s2];exact Aw (Ya howns) (I4 a5) hqv
 have hok':okD env p.dst e:=fun dp hdp=>⟨(hokd dp hdp).1,by
  have:=(hokd dp hdp).2
  unfold rF at this ⊢
  rwa [dZ (fun h=>hne dp h hdp)] at this⟩
 refine ⟨rfl,vz env p.dst e,vz (vz env p.dst e) od eo,by rw [gu hq];exact jV.2 ⟨rfl,e,hqv',hok',rfl⟩, ?_,LH hne⟩;rw [jS (wH hl)];refine hrun _ (fun k hk=>dZ (fun hp=>?_)) (fun d hd=>?_)
 ·rw [hp] at a1;simp [wS] at a1;exact a1 k hk rfl
 ·rw [dZ (hne d hd)];exact hnone d hd
theorem ajB {o p:aI} (hap:aeE o p=true) {env1 env2:Env} {s1 s2:St} (h1:gZ glob call cx o env s=.norm env1 s1) (h2:gZ glob call cx p env1 s1=.norm env2 s2):
  ∃f1 t1 f2,gZ glob call cx p env s=.norm f1 t1∧gZ glob call cx o f1 t1=.norm f2 s2∧EqE f2 env2:=absurd hap Bool.false_ne_true
theorem NI {d:Nat} {zs:List AV} {env1:Env} {s1:St}:gZ glob call cx ⟨some d,none,.lallocp d zs⟩ env s=.norm env1 s1 ↔ lk env d=none∧env1=(d,.bx zs)::env∧s1=s:=by
 have hl:(AOp.lallocp d zs).quiet.isSome=false:=rfl;rw [jS hl];simp only [fK,gU,aop]
 cases hk:lk env d with
 | some e=>simp
 | none=>
  have hput:put env d (.bx zs)=(d,.bx zs)::env:=by unfold put;rw [hk]
  simp only [EV.refers,Bool.false_eq_true,if_false,hput,Out.norm.injEq,true_and];exact ⟨fun h=>⟨h.1.symm,h.2.symm⟩,fun h=>⟨h.1.symm,h.2.symm⟩⟩
theorem ajF {o p:aI} (hap:aeH o p=true) {env1 env2:Env} {s1 s2:St} (h1:gZ glob call cx o env s=.norm env1 s1) (h2:gZ glob call cx p env1 s1=.norm env2 s2):
  ∃f1 t1 f2,gZ glob call cx p env s=.norm f1 t1∧gZ glob call cx o f1 t1=.norm f2 s2∧EqE f2 env2:=absurd hap Bool.false_ne_true
theorem ajG {o p:aI} (hap:RH o p=true) {env1 env2:Env} {s1 s2:St} (h1:gZ glob call cx o env s=.norm env1 s1) (h2:gZ glob call cx p env1 s1=.norm env2 s2):
  ∃f1 t1 f2,gZ glob call cx p env s=.norm f1 t1∧gZ glob call cx o f1 t1=.norm f2 s2∧EqE f2 env2:=by
 obtain ⟨pd,pg,pop⟩:=p;simp only [RH,Bool.and_eq_true,Option.isNone_iff_eq_none] at hap;obtain ⟨⟨⟨⟨a1,a2⟩,a3⟩,a4⟩,a5⟩:=hap;subst a3 a4
 cases hl:pop.heapy with
 | none=>rw [hl] at a2;cases a2
 | some l=>
 rw [hl] at a2;simp only [] at a2;have hq:=uz a1;rw [gu hq] at h1;rw [jS (wH hl)] at h2;obtain ⟨rfl,e,hqv,hokd,rfl⟩:=jV.1 h1;obtain ⟨eo,rfl,_,_,hrun⟩:=Bg hl a5 h2;refine ⟨env,s2,vz env o.dst e, ?_, ?_,.refl _⟩
 ·rw [jS (wH hl)];refine hrun env (fun j hj=>(dZ (fun hd=>?_)).symm) (fun d hd=>by cases hd);rw [hd] at a2;simp only [wS,List.all_eq_true,bne_iff_ne] at a2;exact a2 j hj rfl
 ·rw [gu hq];exact jV.2 ⟨rfl,e,by rw [Gs a1 s2 s1];exact hqv,hokd,rfl⟩
theorem aeC {l:Nat}:∀{bs:List Nat} {b:Nat},Ld env l bs=true→b∈bs→∃l' o',lk env b=some (.v (.pt l' o'))∧l'≠l:=by
 intro bs b h hb
 have:=List.all_eq_true.1 h b hb
 split at this
 ·rename_i l' o' hl;exact ⟨l',o',hl,by simpa using this⟩
 ·cases this
theorem aaE {n b:Nat} {x:IX} {lb ob:Nat} (hb:lk env b=some (.v (.pt lb ob))) {env1:Env} {s1:St} (h:fK glob call cx ⟨none,none,.storep n (.t b) x⟩ env s=.norm env1 s1):∀l,lb≠l→s1[l]?=s[l]?:=by
 intro l hl;have hev:ev glob env (.t b)=some (.v (.pt lb ob)):=hb;simp only [fK,gU,aop,hev] at h
 cases hx:ev glob env x with
 | none=>rw [hx] at h;cases h
 | some y=>
  rw [hx] at h
  cases y with
  | v xv=>
   simp only [] at h
   cases hst:tq glob cx env s n (.t b) xv with
   | none=>rw [hst] at h;cases h
   | some r=>
    obtain ⟨env',s'⟩:=r;rw [hst] at h;simp only [Out.norm.injEq] at h;obtain ⟨_,rfl⟩:=h;unfold tq at hst;rw [hev] at hst
    split at hst
    ·simp only [] at hst
     split at hst
     ·split at hst
      ·cases hst;exact List.getElem?_set_ne hl
      ·cases hst
     ·cases hst
    ·cases hst
  | _=>cases h
theorem ajz {o p:aI} (hap:RF o p=true) {env1 env2:Env} {s1 s2:St} (h1:gZ glob call cx o env s=.norm env1 s1) (h2:gZ glob call cx p env1 s1=.norm env2 s2):
  ∃f1 t1 f2,gZ glob call cx p env s=.norm f1 t1∧gZ glob call cx o f1 t1=.norm f2 s2∧EqE f2 env2:=by
 obtain ⟨pd,pg,pop⟩:=p;simp only [RF,Bool.and_eq_true,Option.isNone_iff_eq_none] at hap;obtain ⟨⟨⟨a1,a2⟩,a3⟩,a4⟩:=hap;subst a3 a4
 split at a1
 case h_2=>cases a1
 rename_i n a bs m b x ho;simp only [Bool.and_eq_true,List.contains_eq_mem,decide_eq_true_eq] at a1;obtain ⟨hb,hni⟩:=a1;have hq:o.op.quiet.isSome=true:=by rw [ho];rfl
 have hl:(AOp.storep m (.t b) x).heapy=some (IX.slots (.t b)++x.slots):=rfl;rw [gu hq] at h1;rw [jS (wH hl)] at h2;obtain ⟨rfl,e,hqv,hokd,rfl⟩:=jV.1 h1
 have hnd:∀k∈b::x.slots,o.dst≠some k:=by
  intro k hk hd;rw [hd] at hni;simp only [wS,List.all_eq_true,bne_iff_ne] at hni;exact hni k hk rfl
 obtain ⟨eo,rfl,_,_,hrun⟩:=Bg hl rfl h2;refine ⟨env,s2,vz env o.dst e, ?_, ?_,.refl _⟩
 ·rw [jS (wH hl)];refine hrun env (fun j hj=>(dZ (hnd j ?_)).symm) (fun d hd=>by cases hd)
  simpa [IX.slots] using hj
 ·rw [gu hq];refine jV.2 ⟨rfl,e, ?_,hokd,rfl⟩;unfold xk at hqv ⊢;rw [a2] at hqv ⊢;simp only [gU] at hqv ⊢
  split at hqv
  ·rename_i hok;rw [if_pos hok];rw [ho] at hqv ⊢;simp only [aop] at hqv ⊢
   cases hx:ev glob env a with
   | none=>rw [hx] at hqv;cases hqv
   | some y=>
    rw [hx] at hqv
    cases y with
    | v ya=>
     cases ya with
     | pt l o1=>
      dsimp only at hqv ⊢;by_cases haw:Ld env l bs=true
      ·rw [if_pos haw] at hqv ⊢;obtain ⟨lb,ob,hlb,hne⟩:=aeC haw hb;have hk:s2[l]?=s1[l]?:=aaE (by rw [dZ (hnd b (by simp))];exact hlb) h2 l hne
       have hld:kT glob env s2 n a=kT glob env s1 n a:=by
        unfold kT;rw [hx];simp only [hk]
       rw [hld];simp only [okv] at hqv ⊢
       cases hv:kT glob env s1 n a with
       | none=>rw [hv] at hqv;cases hqv
       | some v=>rw [hv] at hqv;simpa using hqv
      ·rw [if_neg haw] at hqv;cases hqv
     | _=>cases hqv
    | _=>cases hqv
  ·cases hqv
theorem PD {n k:Nat} {x:IX} {env1:Env} {s1:St}:gZ glob call cx ⟨none,none,.storel n k x⟩ env s=.norm env1 s1 ↔
  s1=s∧∃cs xv,lk env k=some (.bx cs)∧ev glob env x=some (.v xv)∧(xv.cells.length=n∧n≠0∧xv.cells.all AV.one=true∧n≤cs.length)∧env1=(k,.bx (splice cs 0 xv.cells))::env:=by
 have hl:(AOp.storel n k x).quiet.isSome=false:=rfl;rw [jS hl];simp only [fK,gU,aop];constructor
 ·intro h
  split at h
  ·cases h
  ·cases h
  ·rename_i e env2 s2 ha;cases h
   split at ha
   ·rename_i cs xv hk hx
    split at ha
    ·rename_i hc;cases ha;exact ⟨rfl,cs,xv,hk,hx,hc,rfl⟩
    ·cases ha
   ·cases ha
 ·rintro ⟨rfl,cs,xv,hk,hx,hc,rfl⟩;rw [hk,hx];simp only [if_pos hc]
theorem ZF {x:IX} (h:∀j∈x.slots,lk env2 j=lk env j):ev glob env2 x=ev glob env x:=by
 cases x with
 | t k=>exact h k (by simp [IX.slots])
 | c a=>rfl
 | g k=>rfl
theorem ajC {o p:aI} (hap:aeF o p=true) {env1 env2:Env} {s1 s2:St} (h1:gZ glob call cx o env s=.norm env1 s1) (h2:gZ glob call cx p env1 s1=.norm env2 s2):
  ∃f1 t1 f2,gZ glob call cx p env s=.norm f1 t1∧gZ glob call cx o f1 t1=.norm f2 s2∧EqE f2 env2:=absurd hap Bool.false_ne_true
theorem Ed {o:aI} {d:Nat} {l:List Nat} (h:o.callS=some (d,l)):∃f as kk,o=⟨some d,none,.callh d f as kk⟩∧l=(f.slots++as.flatMap IX.slots)++(kk.map (·.1)).toList:=by
 unfold aI.callS at h
 split at h
 ·split at h
  ·rename_i hd;cases h;subst hd;exact ⟨_,_,_,rfl,rfl⟩
  ·cases h
 ·cases h
theorem Uf {env2:Env} {s1 s2:St}:∀{kk:Option (Nat×Nat)},(∀k∈(kk.map (·.1)).toList,lk env2 k=lk env k)→xB env2 s1 s2 kk=xB env s1 s2 kk
 | none,_=>rfl
 | some (k,off),h=>by
  have h1:=h k (by simp);simp only [xB,h1]
theorem JQ {env2:Env} {x:IX} (h:∀k∈x.slots,lk env2 k=lk env k):rd glob env2 x=rd glob env x:=by
 unfold rd;rw [ZF (env2:=env2) (env:=env) h]
theorem JR {env2:Env}:∀{as:List IX},(∀k∈as.flatMap IX.slots,lk env2 k=lk env k)→rds glob env2 as=rds glob env as
 | [],_=>rfl
 | x::r,h=>by
  unfold rds;rw [JQ (env2:=env2) (env:=env) (fun k hk=>h k (by simp [hk])),JR (as:=r) (fun k hk=>h k (by simp at hk ⊢;exact .inr hk))]
theorem F6 {d:Nat} {f:IX} {as:List IX} {kk:Option (Nat×Nat)} {out:Out} (h:fK glob call cx ⟨some d,none,.callh d f as kk⟩ env s=out) (ho:out≠.fail):
  lk env d=none∧∃fv vs,rd glob env f=some fv∧rds glob env as=some vs∧((∃r s1,(call fv vs s cx=.ret r s1∧xB env s s1 kk=true)∧out=.norm ((d,.v r)::env) s1)∨∃v s1,call fv vs s cx=.pan v s1∧out=.pan v s1):=by
 simp only [fK,gU,aop] at h
 cases hk:lk env d with
 | some e=>rw [hk] at h;exact absurd h.symm ho
 | none=>
  rw [hk] at h;simp only [] at h
  cases hf:rd glob env f with
  | none=>rw [hf] at h;exact absurd h.symm ho
  | some fv=>
   cases hv:rds glob env as with
   | none=>rw [hf,hv] at h;exact absurd h.symm ho
   | some vs=>
    rw [hf,hv] at h;simp only [] at h;refine ⟨rfl,fv,vs,rfl,rfl, ?_⟩
    cases hc:call fv vs s cx with
    | fail=>rw [hc] at h;exact absurd h.symm ho
    | pan v s1=>rw [hc] at h;exact .inr ⟨v,s1,rfl,h.symm⟩
    | ret r s1=>
     rw [hc] at h;have hput:put env d (.v r)=(d,.v r)::env:=by unfold put;rw [hk]
     by_cases hkp:xB env s s1 kk=true
     ·simp only [hkp,if_true,EV.refers,Bool.false_eq_true,if_false,hput] at h;exact .inl ⟨r,s1,⟨rfl,hkp⟩,h.symm⟩
     ·simp only [hkp,if_false,Bool.false_eq_true] at h;exact absurd h.symm ho
theorem F7 {d:Nat} {f:IX} {as:List IX} {kk:Option (Nat×Nat)} {fv:AV} {vs:List AV} (hk:lk env d=none) (hf:rd glob env f=some fv) (hv:rds glob env as=some vs):
  fK glob call cx ⟨some d,none,.callh d f as kk⟩ env s=match call fv vs s cx with
   | .ret r s1=>if xB env s s1 kk=true then .norm ((d,.v r)::env) s1 else .fail
   | .pan v s1=>.pan v s1
   | .fail=>.fail:=by
 have hput:∀e,put env d e=(d,e)::env:=fun e=>by unfold put;rw [hk]
 simp only [fK,gU,aop,hk,hf,hv]
 cases call fv vs s cx with
 | ret r s1=>by_cases hkp:xB env s s1 kk=true<;>simp [EV.refers,hput,hkp]
 | _=>simp [EV.refers,hput]
theorem AB {d:Nat} {f:IX} {as:List IX} {kk:Option (Nat×Nat)}:(AOp.callh d f as kk).quiet.isSome=false:=rfl
theorem MR {o:aI} {d:Nat} {f:IX} {as:List IX} {kk:Option (Nat×Nat)} {e:EV} {fv:AV} {vs:List AV} (hnd:∀k∈d::((f.slots++as.flatMap IX.slots)++(kk.map (·.1)).toList),o.dst≠some k):
  lk (vz env o.dst e) d=lk env d∧rd glob (vz env o.dst e) f=rd glob env f∧rds glob (vz env o.dst e) as=rds glob env as∧∀s1 s2,xB (vz env o.dst e) s1 s2 kk=xB env s1 s2 kk:=
 ⟨dZ (hnd d (by simp)),JQ (fun k hk=>dZ (hnd k (by simp [hk]))),
  JR (fun k hk=>dZ (hnd k (List.mem_cons_of_mem _ (List.mem_append_left _ (List.mem_append_right _ hk))))),
  fun _ _=>Uf (fun k hk=>dZ (hnd k (List.mem_cons_of_mem _ (List.mem_append_right _ hk))))⟩
theorem agC {o:aI} {d:Nat} {f:IX} {as:List IX} {kk:Option (Nat×Nat)} (hq:o.op.quiet.isSome=true) (hnd:∀k∈d::((f.slots++as.flatMap IX.slots)++(kk.map (·.1)).toList),o.dst≠some k) (a3:∀k∈o.reads,¬k=d)
  {env1 env2:Env} {s1 s2:St} (h1:gZ glob call cx o env s=.norm env1 s1) (h2:gZ glob call cx ⟨some d,none,.callh d f as kk⟩ env1 s1=.norm env2 s2)
  (hsame:xB env s s2 kk=true→∀e,xk glob call o env s=some e→xk glob call o env s2=some e):
  ∃f1 t1 f2,gZ glob call cx ⟨some d,none,.callh d f as kk⟩ env s=.norm f1 t1∧gZ glob call cx o f1 t1=.norm f2 s2∧EqE f2 env2:=by
 rw [gu hq] at h1;rw [jS AB] at h2;obtain ⟨rfl,e,hqv,hokd,rfl⟩:=jV.1 h1;obtain ⟨hn,fv,vs,hf,hv,hcase⟩:=F6 h2 (by simp);have hod:o.dst≠some d:=hnd d (by simp);obtain ⟨g1,g2,g3,g4⟩:=MR (glob:=glob) (env:=env) (e:=e) (fv:=fv) (vs:=vs) hnd;rw [g1] at hn;rw [g2] at hf;rw [g3] at hv;rcases hcase with ⟨r,t,⟨hc,hk⟩,hout⟩|⟨_,_,_,hout⟩
 ·cases hout;rw [g4] at hk;refine ⟨(d,.v r)::env,s2,vz ((d,.v r)::env) o.dst e,by rw [jS AB,F7 hn hf hv,hc];simp only [hk,if_true], ?_, ?_⟩
  ·rw [gu hq];have agr:Agr (fun k=>k=d) env ((d,.v r)::env):=⟨fun k hk=>(gG _ _ (Ne.symm hk)).symm,fun k e hk he _=>by subst hk;rw [hn] at he;cases he⟩;refine jV.2 ⟨rfl,e,Aw agr (fun k hk hkd=>a3 k hk hkd) (hsame hk e hqv),fun dp hdp=>⟨(hokd dp hdp).1, ?_⟩,rfl⟩
   have:=(hokd dp hdp).2
   unfold rF at this ⊢
   rwa [gG _ _ (fun h=>hod (by rw [hdp,h]))]
  ·exact LH (d1:=o.dst) (d2:=some d) (e1:=e) (e2:=.v r) (fun x hx hd=>hod (by rw [hx,hd]))
 ·cases hout
theorem BG {o p:aI} (h:(match p.callS with|some (d,l)=>wS o.dst (d::l) && o.reads.all (fun j=>j != d)|none=>false)=true):
  ∃d f as kk,p=⟨some d,none,.callh d f as kk⟩∧(∀k∈d::((f.slots++as.flatMap IX.slots)++(kk.map (·.1)).toList),o.dst≠some k)∧∀k∈o.reads,¬k=d:=by
 cases hcs:p.callS with
 | none=>rw [hcs] at h;cases h
 | some q=>
  obtain ⟨d,l⟩:=q;rw [hcs] at h;simp only [Bool.and_eq_true,List.all_eq_true,bne_iff_ne,ne_eq] at h;obtain ⟨a2,a3⟩:=h;obtain ⟨f,as,kk,rfl,rfl⟩:=Ed hcs;refine ⟨d,f,as,kk,rfl,fun k hk hd=>?_,a3⟩;rw [hd] at a2;simp only [wS,List.all_eq_true,bne_iff_ne] at a2;exact a2 k hk rfl
theorem ajJ {o p:aI} (hap:zu o p=true) {env1 env2:Env} {s1 s2:St} (h1:gZ glob call cx o env s=.norm env1 s1) (h2:gZ glob call cx p env1 s1=.norm env2 s2):
  ∃f1 t1 f2,gZ glob call cx p env s=.norm f1 t1∧gZ glob call cx o f1 t1=.norm f2 s2∧EqE f2 env2:=by
 simp only [zu,Bool.and_eq_true] at hap;obtain ⟨a1,a2⟩:=hap;obtain ⟨d,f,as,kk,rfl,hnd,a3⟩:=BG a2;exact agC (uz a1) hnd a3 h1 h2 (fun _ e he=>by rw [Gs a1 s2 s];exact he)
theorem Vg {o p:aI} (hap:AQ o p=true):∃a k off d f as,o.op=.loadv a k off∧o.guard=none∧p=⟨some d,none,.callh d f as (some (k,off))⟩∧
  (∀k'∈d::((f.slots++as.flatMap IX.slots)++((some (k,off)).map (·.1)).toList),o.dst≠some k')∧∀k'∈o.reads,¬k'=d:=by
 simp only [AQ,Bool.and_eq_true,Option.isNone_iff_eq_none] at hap;obtain ⟨⟨a1,a2⟩,a3⟩:=hap;obtain ⟨d,f,as,kk,rfl,hnd,hr⟩:=BG a3
 split at a1
 ·rename_i a k off d' f' as' k' off' ho hp;injection hp with e1 e2 e3 e4;subst e4;simp only [Bool.and_eq_true,beq_iff_eq] at a1;obtain ⟨rfl,rfl⟩:=a1;exact ⟨a,k,off,d,f,as,ho,a2,rfl,hnd,hr⟩
 ·cases a1
theorem ajA {o p:aI} (hap:AQ o p=true) {env1 env2:Env} {s1 s2:St} (h1:gZ glob call cx o env s=.norm env1 s1) (h2:gZ glob call cx p env1 s1=.norm env2 s2):
  ∃f1 t1 f2,gZ glob call cx p env s=.norm f1 t1∧gZ glob call cx o f1 t1=.norm f2 s2∧EqE f2 env2:=by
 obtain ⟨a,k,off,d,f,as,ho,hg,rfl,hnd,a3⟩:=Vg hap;refine agC (by rw [ho];rfl) hnd a3 h1 h2 (fun hk e he=>?_);unfold xk at he ⊢;rw [hg] at he ⊢;simp only [gU] at he ⊢
 split at he
 ·rename_i hok;rw [if_pos hok];rw [ho] at he ⊢;simp only [aop] at he ⊢;unfold xB at hk;dsimp only at hk
  cases hl:lk env k with
  | none=>rw [hl] at hk;cases hk
  | some x=>
   rw [hl] at hk he;revert hk he
   cases ev glob env a with
   | none=>intro he hk;cases he
   | some y=>
    cases y with
    | v ya=>
     cases ya with
     | pt l o1=>
      cases x with
      | v xa=>
       cases xa with
       | pt l' o'=>
        intro he hk;dsimp only at hk he ⊢;by_cases hlo:l=l'∧o1=o'+off
        ·rw [if_pos hlo] at he ⊢;obtain ⟨rfl,rfl⟩:=hlo
         cases hm:LZ s l (o'+off) with
         | none=>rw [hm] at hk;cases hk
         | some m=>
          cases hm2:LZ s2 l (o'+off) with
          | none=>rw [hm,hm2] at hk;cases hk
          | some m2=>
           rw [hm,hm2] at hk;simp only [beq_iff_eq] at hk;subst hk;rw [hm] at he
           simpa using he
        ·rw [if_neg hlo] at he;cases he
       | _=>intro he hk;cases he
      | _=>intro he hk;cases he
     | _=>intro he hk;cases he
    | _=>intro he hk;cases he
 ·cases he
theorem TQ {o:aI} {d:Nat} {f:IX} {as:List IX} {kk:Option (Nat×Nat)} (hq:o.op.quiet.isSome=true) (hnd:∀k∈d::((f.slots++as.flatMap IX.slots)++(kk.map (·.1)).toList),o.dst≠some k)
  {env1:Env} {s1:St} (h1:gZ glob call cx o env s=.norm env1 s1) {v:AV} (h2:fK glob call cx ⟨some d,none,.callh d f as kk⟩ env1 s1=.pan v s'):s1=s∧fK glob call cx ⟨some d,none,.callh d f as kk⟩ env s=.pan v s':=by
 rw [gu hq] at h1;obtain ⟨rfl,e,hqv,hokd,rfl⟩:=jV.1 h1;obtain ⟨hn,fv,vs,hf,hv,hcase⟩:=F6 h2 (by simp);obtain ⟨g1,g2,g3,g4⟩:=MR (glob:=glob) (env:=env) (e:=e) (fv:=fv) (vs:=vs) hnd;rw [g1] at hn;rw [g2] at hf;rw [g3] at hv;rcases hcase with ⟨_,_,_,hout⟩|⟨v',t,hc,hout⟩
 ·cases hout
 ·cases hout;exact ⟨rfl,by rw [F7 hn hf hv,hc]⟩
theorem aaX {o p:aI} (hap:zu o p=true∨AQ o p=true) {env1:Env} {s1:St} (h1:gZ glob call cx o env s=.norm env1 s1) {v:AV} (h2:fK glob call cx p env1 s1=.pan v s'):s1=s∧fK glob call cx p env s=.pan v s':=by
 rcases hap with hap|hap
 ·simp only [zu,Bool.and_eq_true] at hap;obtain ⟨a1,a2⟩:=hap;obtain ⟨d,f,as,kk,rfl,hnd,_⟩:=BG a2;exact TQ (uz a1) hnd h1 h2
 ·obtain ⟨a,k,off,d,f,as,ho,hg,rfl,hnd,a3⟩:=Vg hap;exact TQ (by rw [ho];rfl) hnd h1 h2
theorem ajI {o p:aI} (hap:RJ o p=true) {env1 env2:Env} {s1 s2:St} (h1:gZ glob call cx o env s=.norm env1 s1) (h2:gZ glob call cx p env1 s1=.norm env2 s2):
  s2=s1∧∃f1 f2,gZ glob call cx p env s=.norm f1 s∧gZ glob call cx o f1 s=.norm f2 s1∧EqE f2 env2:=by
 simp only [RJ,Bool.and_eq_true] at hap;obtain ⟨a1,a2⟩:=hap;obtain ⟨d,f,as,kk,rfl,hnd,a3⟩:=BG (o:=p) (p:=o) a2;have hq:=uz a1;rw [jS AB] at h1;rw [gu hq] at h2;obtain ⟨hn,fv,vs,hf,hv,hcase⟩:=F6 h1 (by simp);rcases hcase with ⟨r,t,⟨hc,hk⟩,hout⟩|⟨_,_,_,hout⟩
 ·cases hout;obtain ⟨rfl,e,hqv,hokd,rfl⟩:=jV.1 h2;have hpd:p.dst≠some d:=hnd d (by simp);have agr:Agr (fun k=>k=d) ((d,.v r)::env) env:=⟨fun k hk=>gG _ _ (Ne.symm hk),fun k e hk he ho=>by subst hk;rw [kV] at he;cases he;cases ho⟩;have hqv':xk glob call p env s=some e:=by rw [Gs a1 s s2];exact Aw agr (fun k hk hkd=>a3 k hk hkd) hqv
  have hok':okD env p.dst e:=fun dp hdp=>⟨(hokd dp hdp).1,by
   have:=(hokd dp hdp).2
   unfold rF at this ⊢
   rwa [gG _ _ (fun h=>hpd (by rw [hdp,h]))] at this⟩
  obtain ⟨g1,g2,g3,g4⟩:=MR (glob:=glob) (env:=env) (e:=e) (fv:=fv) (vs:=vs) hnd;refine ⟨rfl,vz env p.dst e,(d,.v r)::vz env p.dst e,by rw [gu hq];exact jV.2 ⟨rfl,e,hqv',hok',rfl⟩, ?_,LH (d1:=some d) (d2:=p.dst) (e1:=.v r) (e2:=e) (fun x hx hd=>hpd (by cases hx;exact hd))⟩;rw [jS AB,F7 (by rw [g1];exact hn) (by rw [g2];exact hf) (by rw [g3];exact hv),hc];simp only [g4,hk,if_true]
 ·cases hout
def VR (p:aI):Prop:=p.op.quiet.isSome=true∨(∃d zs,p=⟨some d,none,.lallocp d zs⟩)∨(∃op l,p=⟨none,none,op⟩∧op.heapy=some l∧XB op none=true)∨(∃n k x,p=⟨none,none,.storel n k x⟩)∨∃d f as kk,p=⟨some d,none,.callh d f as kk⟩
theorem Nz {p:aI} (hp:VR p) (he:EqE env env2) {env1:Env} {s1:St} (h:gZ glob call cx p env s=.norm env1 s1):∃env1',gZ glob call cx p env2 s=.norm env1' s1∧EqE env1 env1':=by
 rcases hp with hq|⟨d,zs,rfl⟩|⟨op,l,rfl,hl,hd⟩|⟨n,k,x,rfl⟩|⟨d,f,as,kk,rfl⟩
 ·have hs:=CG hq h;subst hs;exact aaT hq he h
 ·obtain ⟨h1,rfl,rfl⟩:=NI.1 h;exact ⟨_,NI.2 ⟨by rw [←he];exact h1,rfl,rfl⟩,fun j=>by rw [jI,jI,he j]⟩
 ·rw [jS (wH hl)] at h ⊢;obtain ⟨e,rfl,_,_,hrun⟩:=Bg hl hd h;exact ⟨_,hrun env2 (fun j _=>(he j).symm) (fun d hd=>by cases hd),he⟩
 ·obtain ⟨rfl,cs,xv,c1,c2,c3,rfl⟩:=PD.1 h;exact ⟨_,PD.2 ⟨rfl,cs,xv,by rw [←he];exact c1,by rw [ZF (env2:=env2) (env:=env) (fun j _=>(he j).symm)];exact c2,c3,rfl⟩,fun j=>by rw [jI,jI,he j]⟩
 ·rw [jS AB] at h ⊢;obtain ⟨hn,fv,vs,hf,hv,hcase⟩:=F6 h (by simp);rcases hcase with ⟨r,t,⟨hc,hk⟩,hout⟩|⟨_,_,_,hout⟩
  ·cases hout;refine ⟨(d,.v r)::env2, ?_,fun j=>by rw [jI,jI,he j]⟩;rw [F7 (by rw [←he];exact hn) (by rw [JQ (env2:=env2) (env:=env) (fun j _=>(he j).symm)];exact hf) (by rw [JR (env2:=env2) (env:=env) (fun j _=>(he j).symm)];exact hv),hc];simp only [Uf (env2:=env2) (env:=env) (fun j _=>(he j).symm),hk,if_true]
  ·cases hout
theorem VO {o p:aI} (h:apart o p=true):VR p:=by
 simp only [apart,Bool.or_eq_true] at h;rcases h with ((((((((((h|h)|h)|h)|h)|h)|h)|h)|h)|h)|h)|h
 ·exact .inl (BJ h).2.1
 ·exact absurd h Bool.false_ne_true
 ·exact .inl (Oj h).2.2
 ·simp only [RI,Bool.and_eq_true] at h;have h4:=h.1.1.2;exact .inl (uz h4)
 ·exact absurd h Bool.false_ne_true
 ·exact absurd h Bool.false_ne_true
 ·obtain ⟨pd,pg,pop⟩:=p;simp only [RH,Bool.and_eq_true,Option.isNone_iff_eq_none] at h;obtain ⟨⟨⟨⟨_,a2⟩,a3⟩,a4⟩,a5⟩:=h;subst a3 a4
  cases hl:pop.heapy with
  | none=>rw [hl] at a2;cases a2
  | some l=>exact .inr (.inr (.inl ⟨pop,l,rfl,hl,a5⟩))
 ·exact absurd h Bool.false_ne_true
 ·simp only [zu,Bool.and_eq_true] at h
  cases hcs:p.callS with
  | none=>rw [hcs] at h;cases h.2
  | some q=>obtain ⟨f,as,kk,rfl,_⟩:=Ed hcs;exact .inr (.inr (.inr (.inr ⟨_,_,_,_,rfl⟩)))
 ·simp only [RJ,Bool.and_eq_true] at h;exact .inl (uz h.1)
 ·obtain ⟨a,k,off,d,f,as,ho,hg,rfl,hnd,a3⟩:=Vg h;exact .inr (.inr (.inr (.inr ⟨_,_,_,_,rfl⟩)))
 ·obtain ⟨pd,pg,pop⟩:=p;simp only [RF,Bool.and_eq_true,Option.isNone_iff_eq_none] at h;obtain ⟨⟨⟨a1,a2⟩,a3⟩,a4⟩:=h;subst a3 a4
  split at a1
  ·exact .inr (.inr (.inl ⟨_,_,rfl,rfl,rfl⟩))
  ·cases a1
theorem swap {o p:aI} (hap:apart o p=true) {env1 env2:Env} {s1 s2:St} (h1:gZ glob call cx o env s=.norm env1 s1) (h2:gZ glob call cx p env1 s1=.norm env2 s2):
  ∃f1 t1 f2,gZ glob call cx p env s=.norm f1 t1∧gZ glob call cx o f1 t1=.norm f2 s2∧EqE f2 env2:=by
 simp only [apart,Bool.or_eq_true] at hap;rcases hap with ((((((((((hap|hap)|hap)|hap)|hap)|hap)|hap)|hap)|hap)|hap)|hap)|hap
 ·have ho:=(BJ hap).1;have hp2:=(BJ hap).2.1;have e1:=CG ho h1;subst e1;have e2:=CG hp2 h2;subst e2;rw [gu ho] at h1;rw [gu hp2] at h2;obtain ⟨f1,f2,q1,q2,q3⟩:=aaO hap h1 h2;exact ⟨f1,_,f2,by rw [gu hp2];exact q1,by rw [gu ho];exact q2,q3⟩
 ·obtain ⟨rfl,rfl,f1,f2,q⟩:=ajE hap h1 h2;exact ⟨f1,_,f2,q⟩
 ·obtain ⟨rfl,f1,f2,q⟩:=ajD hap h1 h2;exact ⟨f1,_,f2,q⟩
 ·obtain ⟨rfl,f1,f2,q⟩:=ajH hap h1 h2;exact ⟨f1,_,f2,q⟩
 ·exact ajB hap h1 h2
 ·exact ajF hap h1 h2
 ·exact ajG hap h1 h2
 ·exact ajC hap h1 h2
 ·exact ajJ hap h1 h2
 ·obtain ⟨rfl,f1,f2,q⟩:=ajI hap h1 h2;exact ⟨f1,_,f2,q⟩
 ·exact ajA hap h1 h2
 ·exact ajz hap h1 h2
theorem bubble {i:Nat} {q:List Nat} {oi:aI} (hoi:aops[i]?=some oi) (hmv:VR oi):∀(p:List Nat),(∀j∈p,Em aops j i)→∀{env:Env} {s:St},Runs glob call cx aops (p++i::q) env s env' s'→
  ∃env1 s1,gZ glob call cx oi env s=.norm env1 s1∧Runs glob call cx aops (p++q) env1 s1 env' s'
 | [],_,env,s,h=>by
  obtain ⟨o,e0,e1,s1,ho,he,hr,h2⟩:=h;rw [hoi] at ho;cases ho;obtain ⟨e3,h3,h4⟩:=Nz hmv he.symm hr;exact ⟨e3,s1,h3,h2.eqE h4.symm⟩
 | j::p,hap,env,s,h=>by
  obtain ⟨oj,e0,ej,sj,hoj,he,hrj,hrest⟩:=h;obtain ⟨ei,si,hri,h4⟩:=bubble hoi hmv p (fun k hk=>hap k (by simp [hk])) hrest;obtain ⟨o1,o2,h1,h2,hapr⟩:=hap j (by simp);rw [hoj] at h1;cases h1;rw [hoi] at h2;cases h2;obtain ⟨f1,t1,f2,q1,q2,q3⟩:=swap hapr hrj hri;obtain ⟨f3,q4,q5⟩:=Nz hmv he.symm q1;exact ⟨f3,t1,q4,oj,f1,f2,_,hoj,q5.symm,q2,h4.eqE q3⟩
theorem Nw {F:Fence} {n i b0:Nat} {N:Wd} {ls:List Nat} {o:Oper} {ao:aI} {Q:Exit→Act→World→Prop} {K:Act→World→Prop} (hcall:tH qt P glob call) (hext:jh call) (hF:isF F) (h:Fr P glob g s B w a env N b0 ls)
  (hi:ops[i]?=some o) (hc:wE P N ops o ao=true) (hr:AZ glob call ao env s=.norm env' s)
  (hK:∀g' w' a',Step qt g s.length B w g' s.length w'→Fr P glob g' s B w' a' env' N b0 ls→K a' w'):wpOpIn F n P ops Q i K a w:=by
 obtain ⟨_,e,hq,hd,rfl⟩:=jV.1 hr;have hcx:gq ⟨s.length,s.length⟩ s:=⟨Nat.le_refl _,Nat.le_refl _⟩
 have key:∃env1,fK glob call ⟨s.length,s.length⟩ ao env s=.norm env1 s∧EqE env1 (vz env ao.dst e):=by
  unfold xk at hq;unfold fK
  split at hq
  ·cases hq
  ·rename_i hw;cases hq
   try simp only [hw]
   cases hdst:ao.dst with
   | none=>exact ⟨env,rfl,fun _=>rfl⟩
   | some d=>exact ⟨_,rfl,fun k=>by rw [LG (hd d hdst).2];rfl⟩
  ·rename_i hw
   try simp only [hw]
   split at hq
   ·rename_i hok
    split at hq
    ·rename_i e1 env1 s1 ha
     split at hq
     ·rename_i hc2;cases hq;have hx:Ext ⟨s.length,s.length⟩ s s1:=VP hext hcx ha
      have hs:s1=s:=by
       apply List.ext_getElem?;intro l;by_cases hl:l<s.length
       ·exact hx.lim l hl
       ·rw [List.getElem?_eq_none (by omega),List.getElem?_eq_none (by omega)]
      subst hs;unfold okQ at hok
      split at hok
      ·rename_i rs es hqu;simp only [Bool.and_eq_true] at hok;obtain ⟨hl,_⟩:=aaq (Agr.refl env) hqu (fun x _ k _ hf=>hf) hok.1 hok.2 ha;rw [ha];simp only []
       cases hdst:ao.dst with
       | none=>exact ⟨env1,rfl,hl⟩
       | some d=>
        obtain ⟨d1,d2⟩:=hd d hdst;simp only [d1];refine ⟨_,rfl,fun k=>?_⟩;rw [LG (by unfold rF at d2 ⊢;rw [hl d];exact d2)];exact (EqE.put (env:=env1) (env2:=env) hl (some d) e) k
      ·cases hok
     ·cases hq
    ·cases hq
   ·cases hq
 obtain ⟨env1,hr1,he⟩:=key;exact EZ hcall hext hF hcx h hi hc hr1 (fun g' w' a' hs hf=>hK g' w' a' hs (hf.eqE he))
end Go.Ai
namespace Go.Ai
variable {qt:Prop} {P:Program} {glob:Nat→Option (List AV)} {g:ai} {s:St} {B:Nat} {w:World} {env env2:Env} {a:Act} {call:AV→List AV→St→Ctx→CO} {cx:Ctx} {env':Env} {s':St} {ops:Array Oper} {aops:List aI}
theorem Ec {N:Wd} {all:Array Oper}:∀(os:List Oper) (aos:List aI),mJ P N all os aos=true→∀(i:Nat) (o:Oper),os[i]?=some o→∃ao,aos[i]?=some ao∧wE P N all o ao=true
 | [],_,_,i,o,h=>by simp at h
 | o::os,[],hc,_,_,_=>by simp [mJ] at hc
 | o::os,ao::aos,hc,i,o',h=>by
  simp only [mJ,Bool.and_eq_true] at hc
  cases i with
  | zero=>simp at h;subst h;exact ⟨ao,rfl,hc.1⟩
  | succ i=>simp at h;simpa using Ec os aos hc.2 i o' h
theorem afV {F:Fence} {n b0:Nat} {N:Wd} {ls:List Nat} {Q:Exit→Act→World→Prop} (hcall:tH qt P glob call) (hext:jh call) (hF:isF F)
  (hops:∀(i:Nat) (o:Oper),ops[i]?=some o→∃ao,aops[i]?=some ao∧wE P N ops o ao=true):
  ∀(fuel:Nat) (listed:Array Bool) (l:List Nat) {env:Env} {g:ai} {s:St} {w:World} {a:Act},l.length=fuel→Inv ops aops listed l→
    Runs glob call cx aops l env s env' s'→gq cx s→Fr P glob g s B w a env N b0 ls→
    (∀g' w' a',Step qt g s.length B w g' s'.length w'→Fr P glob g' s' B w' a' env' N b0 ls→Q .normal a' w')→wpAnyIn F n P .any ops Q fuel listed a w:=by
 intro fuel
 induction fuel with
 | zero=>
  intro listed l env g s w a hlen hinv hrun hcx hfr hQ;have hnil:l=[]:=List.eq_nil_of_length_eq_zero hlen;subst hnil;obtain ⟨he,rfl⟩:=hrun;exact ⟨hinv.nil_ready,hQ g w a (.refl _ _ _ _) (hfr.eqE he)⟩
 | succ fuel ih=>
  intro listed l env g s w a hlen hinv hrun hcx hfr hQ;refine ⟨fun h0=>?_,fun i hi=>?_⟩
  ·cases l with
   | nil=>cases hlen
   | cons j t=>have:=hinv.head_ready;rw [h0] at this;cases this
  ·have hmem:=hinv.ready_mem hi;obtain ⟨_,o,ho,_⟩:=mem_ready.1 hi;obtain ⟨ao,hao,hchk⟩:=hops i o ho;obtain ⟨p,q,rfl⟩:=List.append_of_mem hmem
   have hpair:∀j∈p,Em aops j i:=by
    intro j hj
    have:=(List.pairwise_append.1 hinv.pairs).2.2 j hj i (by simp)
    rcases this with h1|h1
    ·exact absurd h1 (hinv.not_reach hi (by simp [hj]))
    ·exact h1
   have hinv':Inv ops aops (listed.setIfInBounds i true) (p++q):=hinv.remove hi;have hlen':(p++q).length=fuel:=by simp at hlen ⊢;omega
   have loudCase:∀{env1:Env} {s1:St},ao.op.quiet.isSome=false→(∃e0,EqE env e0∧fK glob call cx ao e0 s=.norm env1 s1)→Runs glob call cx aops (p++q) env1 s1 env' s'→wpOpIn F n P ops Q i (fun a' w'=>wpAnyIn F n P .any ops Q fuel (listed.setIfInBounds i true) a' w') a w:=by
    intro env1 s1 hqq ⟨e0,he,hr1⟩ hrest;have hx:Ext cx s s1:=qj hext hcx (o:=ao) (by rw [hr1];rfl);exact EZ hcall hext hF hcx (hfr.eqE he) ho hchk hr1 (fun g1 w1 a1 st1 hf1=>ih _ (p++q) hlen' hinv' hrest (hcx.ext hx) hf1 (fun g2 w2 a2 st2 hf2=>hQ g2 w2 a2 (st1.trans st2) hf2))
   cases hqq:ao.op.quiet.isSome with
   | true=>
    obtain ⟨env1,s1,hr1,hrest⟩:=bubble hao (.inl hqq) p hpair hrun;have hs:=CG hqq hr1;subst hs;rw [gu hqq] at hr1;exact Nw hcall hext hF hfr ho hchk hr1 (fun g1 w1 a1 st1 hf1=>ih _ (p++q) hlen' hinv' hrest hcx hf1 (fun g2 w2 a2 st2 hf2=>hQ g2 w2 a2 (st1.trans st2) hf2))
   | false=>
    cases p with
    | cons j p=>
     obtain ⟨o1,o2,h1,h2,hapr⟩:=hpair j (by simp);rw [hao] at h2;cases h2;obtain ⟨env1,s1,hr1,hrest⟩:=bubble hao (VO hapr) (j::p) hpair hrun;rw [jS hqq] at hr1;exact loudCase hqq ⟨env,.refl _,hr1⟩ hrest
    | nil=>
     obtain ⟨o',e0,env1,s1,ho',he,hr1,hrest⟩:=hrun;rw [hao] at ho';cases ho';rw [jS hqq] at hr1;exact loudCase hqq ⟨e0,he,hr1⟩ hrest
theorem Iq {b0:Nat} {N:Wd} {ls:List Nat}:∀(ts:List Nat) {g:ai} {env:Env},Fr P glob g s B w a env N b0 ls→∃g',Step qt g s.length B w g' s.length w∧Fr P glob g' s B w a (Ce env ts) N b0 ls
 | [],g,env,h=>⟨g,.refl _ _ _ _,h⟩
 | k::ts,g,env,h=>by
  unfold Ce;split
  ·rename_i tip t sz es hk;obtain ⟨g1,st1,hs1,_⟩:=Gy h.sim hk;obtain ⟨g2,st2,h2⟩:=Iq ts (h.next hs1 rfl rfl st1.le (fun _ hh=>hh) (fun _ _=>rfl));exact ⟨g2,st1.weak.trans st2,h2⟩
  ·exact Iq ts h
theorem KX:∀(π seen:List Nat),Pg ops π seen=true→(∀i∈π,i<ops.size)∧π.Nodup∧(∀i∈π,i ∉ seen)∧∀p i q,π=p++i::q→∀e∈vX ops i,e∈seen∨e∈p
 | [],seen,_=>⟨fun _ h=>(by cases h),List.nodup_nil,fun _ h=>(by cases h),fun p i q h=>by simp at h⟩
 | i::r,seen,h=>by
  simp only [Pg,Bool.and_eq_true,decide_eq_true_eq,List.all_eq_true,Bool.not_eq_true',List.contains_eq_mem,decide_eq_false_iff_not] at h;obtain ⟨⟨⟨h1,h2⟩,h3⟩,h4⟩:=h;obtain ⟨a1,a2,a3,a4⟩:=KX r (i::seen) h4;refine ⟨fun j hj=>?_,List.nodup_cons.2 ⟨fun hh=>a3 i hh (by simp),a2⟩,fun j hj=>?_,fun p k q heq e he=>?_⟩
  ·rcases List.mem_cons.1 hj with rfl|hj
   ·exact h1
   ·exact a1 j hj
  ·rcases List.mem_cons.1 hj with rfl|hj
   ·exact h2
   ·exact fun hh=>a3 j hj (by simp [hh])
  ·cases p with
   | nil=>simp at heq;obtain ⟨rfl,rfl⟩:=heq;exact .inl (h3 e he)
   | cons x p=>
    simp at heq;obtain ⟨rfl,rfl⟩:=heq;rcases a4 p k q rfl e he with h5|h5
    ·rcases List.mem_cons.1 h5 with rfl|h5
     ·exact .inr (by simp)
     ·exact .inl h5
    ·exact .inr (by simp [h5])
theorem LK:∀{π:List Nat} {c:Nat} {oc:aI},Yz aops π=some (c,oc)→c∈π∧aops[c]?=some oc∧oc.callS.isSome=true
 | [],c,oc,h=>by cases h
 | i::r,c,oc,h=>by
  unfold Yz at h
  split at h
  ·rename_i o ho
   split at h
   ·rename_i hc;cases h;exact ⟨by simp,ho,hc⟩
   ·obtain ⟨h1,h2⟩:=LK h;exact ⟨by simp [h1],h2⟩
  ·obtain ⟨h1,h2⟩:=LK h;exact ⟨by simp [h1],h2⟩
theorem Reach.tr {ops:Array Oper} {i j k:Nat} (h:Reach ops i j) (h2:Reach ops j k):Reach ops i k:=by
 induction h with
 | edge he=>exact .trans he h2
 | trans he _ ih=>exact .trans he (ih h2)
theorem EW {c:Nat}:∀(l:List Nat) (ds:List aI),l.Pairwise (fun j i=>Reach ops i j∨Em aops j i)→
  (∀d∈ds,∃j,aops[j]?=some d∧(j=c∨Reach ops j c)∧∀i∈l,Reach ops i j∨Em aops j i)→(∀i∈l,∃o,aops[i]?=some o)→
  (yQ aops c ds l).Sublist l∧∀i∈l,i∈yQ aops c ds l∨i=c∨Reach ops i c
 | [],ds,_,_,_=>⟨.slnil,fun i h=>by cases h⟩
 | i::r,ds,hp,hs,ha=>by
  obtain ⟨hp1,hp2⟩:=List.pairwise_cons.1 hp;obtain ⟨o,ho⟩:=ha i (by simp)
  have hs':∀d∈ds,∃j,aops[j]?=some d∧(j=c∨Reach ops j c)∧∀i∈r,Reach ops i j∨Em aops j i:=fun d hd=>by
   obtain ⟨j,q1,q2,q3⟩:=hs d hd;exact ⟨j,q1,q2,fun k hk=>q3 k (by simp [hk])⟩
  have hskip:(i=c∨Reach ops i c)→(yQ aops c (o::ds) r).Sublist (i::r)∧∀k∈i::r,k∈yQ aops c (o::ds) r∨k=c∨Reach ops k c:=fun hic=>by
   obtain ⟨h1,h2⟩:=EW r (o::ds) hp2 (fun d hd=>by
    rcases List.mem_cons.1 hd with rfl|hd
    ·exact ⟨i,ho,hic,hp1⟩
    ·exact hs' d hd) (fun j hj=>ha j (by simp [hj]))
   refine ⟨h1.cons _,fun j hj=>?_⟩;rcases List.mem_cons.1 hj with rfl|hj
   ·exact .inr hic
   ·exact h2 j hj
  unfold yQ;rw [ho];simp only [];split
  ·rename_i hic;exact hskip (.inl hic)
  ·split
   ·rename_i hany;obtain ⟨d,hd,hda⟩:=List.any_eq_true.1 hany;obtain ⟨j,q1,q2,q3⟩:=hs d hd;refine hskip (.inr ?_)
    have hij:Reach ops i j:=by
     rcases q3 i (by simp) with h|⟨o1,o2,z1,z2,z3⟩
     ·exact h
     ·rw [q1] at z1;cases z1;rw [ho] at z2;cases z2;rw [z3] at hda;cases hda
    rcases q2 with rfl|q2
    ·exact hij
    ·exact hij.tr q2
   ·obtain ⟨h1,h2⟩:=EW r ds hp2 hs' (fun j hj=>ha j (by simp [hj]));refine ⟨h1.cons_cons _,fun j hj=>?_⟩;rcases List.mem_cons.1 hj with rfl|hj
    ·exact .inl (by simp)
    ·rcases h2 j hj with h|h
     ·exact .inl (by simp [h])
     ·exact .inr h
theorem Yy {c:Nat} {oc:aI} (hoc:aops[c]?=some oc) (l:List Nat) (hp:l.Pairwise (fun j i=>Reach ops i j∨Em aops j i)) (ha:∀i∈l,∃o,aops[i]?=some o):
  (EX aops c oc false l).Sublist l∧∀i∈l,i∈EX aops c oc false l∨i=c∨Reach ops i c:=
 EW l [] hp (fun d hd=>by cases hd) ha
theorem Zy {R:Nat→Nat→Prop} {c:Nat}:∀(π:List Nat),π.Pairwise R→c∈π→∀j∈π.takeWhile (fun x=>x != c),R j c
 | [],_,hc,_,_=>by cases hc
 | i::r,hp,hc,j,hj=>by
  obtain ⟨hp1,hp2⟩:=List.pairwise_cons.1 hp;by_cases hic:i=c
  ·subst hic;simp at hj
  ·rw [List.takeWhile_cons_of_pos (by simpa using hic)] at hj
   have hcr:c∈r:=by
    rcases List.mem_cons.1 hc with h|h
    ·exact absurd h.symm hic
    ·exact h
   rcases List.mem_cons.1 hj with rfl|hj
   ·exact hp1 c hcr
   ·exact Zy r hp2 hcr j hj
theorem aaU {op:AOp} (h:op.pre=true):op.quiet.isSome=true:=by
 cases op<;>first|rfl|exact uz h
theorem X7 {o p:aI} (h:apart o p=true) (hcs:p.callS.isSome=true):zu o p=true∨AQ o p=true:=by
 obtain ⟨q,hq⟩:=Option.isSome_iff_exists.1 hcs;obtain ⟨f,as,kk,rfl,_⟩:=Ed (d:=q.1) (l:=q.2) hq;simp only [apart,Bool.or_eq_true] at h;rcases h with ((((((((((h|h)|h)|h)|h)|h)|h)|h)|h)|h)|h)|h
 ·simp [RN,AOp.quiet] at h
 ·exact absurd h Bool.false_ne_true
 ·simp [RG,AOp.quiet] at h
 ·simp [RI,AOp.free] at h
 ·exact absurd h Bool.false_ne_true
 ·exact absurd h Bool.false_ne_true
 ·simp [RH] at h
 ·exact absurd h Bool.false_ne_true
 ·exact .inl h
 ·simp [RJ,AOp.free] at h
 ·exact .inr h
 ·simp [RF] at h
theorem UA {oc:aI} (hcs:oc.callS.isSome=true) (he:EqE env env2) {s1:St} {v:AV} (h:fK glob call cx oc env2 s=.pan v s1):fK glob call cx oc env s=.pan v s1:=by
 obtain ⟨q,hq⟩:=Option.isSome_iff_exists.1 hcs;obtain ⟨f,as,kk,rfl,_⟩:=Ed (d:=q.1) (l:=q.2) hq;obtain ⟨hn,fv,vs,hf,hv,hcase⟩:=F6 h (by simp);rcases hcase with ⟨_,_,⟨_,_⟩,hout⟩|⟨v',t,hc,hout⟩
 ·cases hout
 ·cases hout;rw [F7 (by rw [he];exact hn) (by rw [JQ (env2:=env) (env:=env2) (fun j _=>he j)];exact hf) (by rw [JR (env2:=env) (env:=env2) (fun j _=>he j)];exact hv),hc]
theorem Wl {oc:aI} (hcs:oc.callS.isSome=true) {v:AV} {env1:Env} {s1:St}:∀(pl:List Nat),(∀j∈pl,∃oj,aops[j]?=some oj∧oj.op.pre=true∧(zu oj oc=true∨AQ oj oc=true))→∀{env:Env} {s:St},Runs glob call cx aops pl env s env1 s1→fK glob call cx oc env1 s1=.pan v s'→
  fK glob call cx oc env s=.pan v s'
 | [],_,env,s,hr,h=>by
  obtain ⟨he,rfl⟩:=hr;exact UA hcs he h
 | j::r,hf,env,s,hr,h=>by
  obtain ⟨o,e0,e1,s2,ho,he,hr1,hrest⟩:=hr;have h2:=Wl hcs r (fun k hk=>hf k (by simp [hk])) hrest h;obtain ⟨oj,q1,q2,q3⟩:=hf j (by simp);rw [ho] at q1;cases q1;obtain ⟨rfl,h3⟩:=aaX q3 hr1 h2;exact UA hcs he h3
theorem aeg {F:Fence} {n b0:Nat} {N:Wd} {ls:List Nat} {Q:Exit→Act→World→Prop} (hcall:tH qt P glob call) (hext:jh call) (hF:isF F)
  (hops:∀(i:Nat) (o:Oper),ops[i]?=some o→∃ao,aops[i]?=some ao∧wE P N ops o ao=true) {c:Nat} {oc:aI} {v:AV} {env1:Env} {s1:St} (hoc:aops[c]?=some oc) (hcs:oc.callS.isSome=true) (hpan:fK glob call cx oc env1 s1=.pan v s'):
  ∀(fuel:Nat) (listed:Array Bool) (l pl:List Nat) {env:Env} {g:ai} {s:St} {w:World} {a:Act},l.length=fuel→Inv ops aops listed l→c∈l→pl.Sublist l→(∀i∈l,i∈pl∨i=c∨Reach ops i c)→(∀j∈pl,∃oj,aops[j]?=some oj∧oj.op.pre=true∧((zu oj oc=true∨AQ oj oc=true)∨Reach ops c j))→
    Runs glob call cx aops pl env s env1 s1→gq cx s→Fr P glob g s B w a env N b0 ls→
    (∀u g' w' a',Step qt g s.length B w g' s'.length w'→Fr P glob g' s' B w' a' [] N b0 ls→Rep g' s'.length u v→Q (.panic [{ v:=u,recovered:=false }]) a' w')→wpAnyIn F n P .any ops Q fuel listed a w:=by
 intro fuel
 induction fuel with
 | zero=>
  intro listed l pl env g s w a hlen hinv hcl hsub hcov hfree hrun hcx hfr hQ;have hnil:l=[]:=List.eq_nil_of_length_eq_zero hlen;subst hnil;cases hcl
 | succ fuel ih=>
  intro listed l pl env g s w a hlen hinv hcl hsub hcov hfree hrun hcx hfr hQ;refine ⟨fun h0=>?_,fun i hi=>?_⟩
  ·cases l with
   | nil=>cases hlen
   | cons j t=>have:=hinv.head_ready;rw [h0] at this;cases this
  ·have hmem:=hinv.ready_mem hi;obtain ⟨_,o,ho,_⟩:=mem_ready.1 hi;obtain ⟨ao,hao,hchk⟩:=hops i o ho;by_cases hic:i=c
   ·subst hic;rw [hoc] at hao;cases hao
    exact ac1 hcall hext hF hcx hfr ho hchk (Wl hcs pl (fun j hj=>by
     obtain ⟨oj,q1,q2,q3⟩:=hfree j hj
     exact ⟨oj,q1,q2,q3.elim id (fun h=>absurd h (hinv.not_reach hi (hsub.subset hj)))⟩) hrun hpan) hQ
   ·rcases hcov i hmem with hip|hip|hip
    ·obtain ⟨p,q,rfl⟩:=List.append_of_mem hip;obtain ⟨p0,q0,rfl⟩:=List.append_of_mem hmem;obtain ⟨oi,q1,q2,q3⟩:=hfree i (by simp);rw [hao] at q1;cases q1;have hqq:ao.op.quiet.isSome=true:=aaU q2;have hnd:=hinv.nd
     have hni0:i ∉ p0:=by
      rw [List.nodup_append] at hnd;exact fun h=>hnd.2.2 i h i (by simp) rfl
     have hni:i ∉ p:=by
      have h1:=hsub.nodup hnd;rw [List.nodup_append] at h1;exact fun h=>h1.2.2 i h i (by simp) rfl
     have hsub':(p++q).Sublist (p0++q0):=by
      have:=hsub.erase i
      rwa [List.erase_append_right _ hni,List.erase_append_right _ hni0,List.erase_cons_head,List.erase_cons_head] at this
     have hpair:∀j∈p,Em aops j i:=by
      intro j hj
      have:=(List.pairwise_append.1 (hinv.pairs.sublist hsub)).2.2 j hj i (by simp)
      rcases this with h1|h1
      ·exact absurd h1 (hinv.not_reach hi (hsub.subset (by simp [hj])))
      ·exact h1
     obtain ⟨env2,s2,hr1,hrest⟩:=bubble hao (.inl hqq) p hpair hrun;have hs:=CG hqq hr1;subst hs;rw [gu hqq] at hr1
     refine Nw hcall hext hF hfr ho hchk hr1 (fun g1 w1 a1 st1 hf1=>ih _ (p0++q0) (p++q) (by simp at hlen ⊢;omega) (hinv.remove hi) ?_ hsub' (fun j hj=>?_) (fun j hj=>hfree j (by rcases List.mem_append.1 hj with h|h<;>simp [h])) hrest hcx hf1 (fun u g2 w2 a2 st2 hf2 hr2=>hQ u g2 w2 a2 (st1.trans st2) hf2 hr2))
     ·rcases List.mem_append.1 hcl with h|h
      ·exact List.mem_append_left _ h
      ·rcases List.mem_cons.1 h with h|h
       ·exact absurd h.symm hic
       ·exact List.mem_append_right _ h
     ·have hji:j≠i:=fun h=>by
       subst h;rcases List.mem_append.1 hj with h|h
       ·exact hni0 h
       ·rw [List.nodup_append] at hnd;exact (List.nodup_cons.1 hnd.2.1).1 h
      rcases hcov j (by rcases List.mem_append.1 hj with h|h<;>simp [h]) with h|h
      ·rcases List.mem_append.1 h with h|h
       ·exact .inl (by simp [h])
       ·rcases List.mem_cons.1 h with h|h
        ·exact absurd h hji
        ·exact .inl (by simp [h])
      ·exact .inr h
    ·exact absurd hip hic
    ·exact absurd hip (hinv.not_reach hi hcl)
theorem XC {π:List Nat} (hdr:KZ ops aops π=true):π.length=ops.size∧Inv ops aops (Array.replicate ops.size false) π:=by
 simp only [KZ,Bool.and_eq_true,beq_iff_eq,List.all_eq_true,List.mem_range,List.contains_eq_mem,decide_eq_true_eq] at hdr;obtain ⟨⟨⟨hlen,hall⟩,htopo⟩,hpairs⟩:=hdr;obtain ⟨t1,t2,_,t4⟩:=KX π [] htopo;have hpw:=Ij (ops:=ops) (Qs π [] (fun e j h=>by simp [I7] at h)) π hpairs;refine ⟨hlen,by simp,fun j hj=>?_,t1,t2,hpw,fun i hi=>?_,fun p i q heq e he=>?_⟩
 ·simp [Array.getD_eq_getD_getElem?,hj];exact hall j hj
 ·exfalso;rw [Array.getD_eq_getD_getElem?] at hi
  by_cases hlt:i<ops.size<;>simp [hlt] at hi
 ·rcases t4 p i q heq e he with h|h
  ·cases h
  ·exact .inr h
theorem afU (hM:P.follows .mixedOrders=true) (hcall:tH qt P glob call) (hext:jh call):Gi qt P glob call:=by
 have start:∀{g:ai} {s:St} {B:Nat} {w:World} {a:Act} {env:Env} {b0:Nat} {N:Wd} {ls ts:List Nat},Fr P glob g s B w a env N b0 ls→
   ∃g1,Step qt g s.length B w g1 s.length { w with drawn:=w.drawn+1 }∧Fr P glob g1 s B { w with drawn:=w.drawn+1 } a (Ce env ts) N b0 ls:=by
  intro g s B w a env b0 N ls ts hfr
  have hfr0:Fr P glob g s B { w with drawn:=w.drawn+1 } a env N b0 ls:=by
   refine hfr.next ⟨hfr.sim.base.grew (qt:=False) ⟨Nat.le_refl _,fun _ _=>rfl,rfl,rfl,fun h=>h.elim⟩,hfr.sim.env.next (.refl _ _) (fun k e hk ho b hb=>⟨rfl,rfl,rfl,fun ht=>ht⟩),hfr.sim.B⟩ rfl rfl (.refl _ _) (fun _ h=>h) (fun _ _=>rfl)
  have hst0:Step qt g s.length B w g s.length { w with drawn:=w.drawn+1 }:=⟨.refl _ _,Nat.le_refl _,fun _ _ _=>rfl,fun _ _ _=>rfl,fun _ _=>rfl,fun b hb=>.inl hb,rfl,rfl,fun _=>⟨rfl,Nat.le_succ _⟩⟩;obtain ⟨g1,st1,hf1⟩:=Iq ts hfr0;exact ⟨g1,hst0.trans st1,hf1⟩
 constructor
 ·intro F n id B b0 N ls ops aops π ts Q cx g s s' w a env env' hF hops hdr hcx hfr hrun hQ;obtain ⟨hlen,hinv⟩:=XC hdr;refine wpIn_region_any hM ?_;obtain ⟨g1,st1,hf1⟩:=start (ts:=ts) hfr;simp only [rC] at hrun
  replace hrun:jw glob call cx aops π (Ce env ts) s=.norm env' s':=by
   cases hd:jw glob call cx aops π (Ce env ts) s with
   | pan v s1=>
    rw [hd] at hrun;obtain ⟨_,_,_,_,_,_,_,_,_,_,h3⟩:=Bo (show yx glob call cx aops π (Ce env ts) s=.norm env' s' from hrun) (by simp);cases h3
   | _=>rw [hd] at hrun;exact hrun
  exact afV hcall hext hF (fun i o ho=>Ec _ _ hops i o (by simpa using ho)) ops.size _ π hlen hinv (UW π hrun) hcx hf1 (fun g2 w2 a2 st2 hf2=>hQ g2 w2 a2 (st1.trans st2) hf2)
 ·intro F n id B b0 N ls ops aops π ts Q cx g s s' w a env v hF hops hdr hcx hfr hrun hQ;obtain ⟨hlen,hinv⟩:=XC hdr;refine wpIn_region_any hM ?_;obtain ⟨g1,st1,hf1⟩:=start (ts:=ts) hfr;simp only [rC] at hrun
  replace hrun:yx glob call cx aops π (Ce env ts) s=.pan v s':=by
   cases hd:jw glob call cx aops π (Ce env ts) s with
   | pan v s1=>rw [hd] at hrun;exact hrun
   | _=>rw [hd] at hrun;cases hrun
  obtain ⟨c,oc,env1,s1,v',s2,hpc,hall,hr1,hr2,h3⟩:=Bo hrun (by simp);cases h3;obtain ⟨hcm,hoc,hcs⟩:=LK hpc;have hops':∀(i:Nat) (o:Oper),ops[i]?=some o→∃ao,aops[i]?=some ao∧wE P N ops o ao=true:=fun i o ho=>Ec _ _ hops i o (by simpa using ho)
  obtain ⟨hsub,hcov⟩:=Yy (ops:=ops) hoc π hinv.pairs (fun i hi=>by
   have hlt:=hinv.lt i hi;obtain ⟨ao,h1,_⟩:=hops' i (ops[i]'hlt) (by simp [hlt])
   exact ⟨ao,h1⟩)
  refine aeg hcall hext hF hops' hoc hcs hr2 ops.size _ π _ hlen hinv hcm hsub hcov (fun j hj=>?_) (UW _ hr1) hcx hf1 (fun u g2 w2 a2 st2 hf2 hr3=>hQ u g2 w2 a2 (st1.trans st2) hf2 hr3)
  have:=List.all_eq_true.1 hall j hj
  split at this
  ·rename_i oj hoj;simp only [Bool.and_eq_true,Bool.or_eq_true,List.contains_eq_mem,decide_eq_true_eq] at this;refine ⟨oj,hoj,this.1, ?_⟩;rcases this.2 with (h|h)|h
   ·exact .inl (.inl h)
   ·exact .inl (.inr h)
   ·rcases Zy π hinv.pairs hcm j h with h|⟨o1,o2,q1,q2,q3⟩
    ·exact .inr h
    ·rw [hoj] at q1;cases q1;rw [hoc] at q2;cases q2;exact .inl (X7 q3 hcs)
  ·cases this
end Go.Ai
namespace Go.Ai
variable {qt:Prop} {P:Program} {glob:Nat→Option (List AV)} {g:ai} {s:St} {B:Nat} {w:World} {env:Env} {a:Act} {call:AV→List AV→St→Ctx→CO} {cx:Ctx} {env':Env} {s':St}
theorem Rep.under {n:Nat} {v:Value} {x:AV} (h:Rep g n v x):x.under n=true:=by
 induction h with
 | u _|i _ _|b _|s _|np|nm|ns|nf|ni|slNil|slE _|se _|sz _ _=>rfl
 | sl bk off cap sz es c hc hsz hm hr ih=>
  simp only [AV.under,dA];intro e he;obtain ⟨i,hi,rfl⟩:=List.getElem_of_mem he
  cases hel:es[i] with
  | ag cs=>
   simp only [AV.under,dA];intro c hc';obtain ⟨j,hj,rfl⟩:=List.getElem_of_mem hc';have hj2:j<(AV.cells es[i]).length:=by rw [hel];exact hj
   have:=ih i hi j hj2
   have e2:(AV.cells es[i])[j]=cs[j]:=by simp only [hel,AV.cells]
   rw [e2] at this;exact this
  | _=>
   all_goals
    have hj2:0<(AV.cells es[i]).length:=by rw [hel];simp [AV.cells]
    have:=ih i hi 0 hj2
    have e2:(AV.cells es[i])[0]=es[i]:=by simp only [hel,AV.cells,List.getElem_cons_zero]
    rw [e2,hel] at this;exact this
 | ag vs cs hl h1 hr ih=>
  simp only [AV.under,dA];intro c hc;obtain ⟨j,hj,rfl⟩:=List.getElem_of_mem hc;exact ih j (by omega) hj
 | tu vs cs hl hr ih=>
  simp only [AV.under,dA];intro c hc;obtain ⟨j,hj,rfl⟩:=List.getElem_of_mem hc;exact ih j (by omega) hj
 | ip bk off cs c hm hr ih=>
  simp only [AV.under,dA];intro c hc;obtain ⟨j,hj,rfl⟩:=List.getElem_of_mem hc;exact ih j hj
 | pt l off hl=>simpa [AV.under] using hl
 | im bk es vs hm hl hk hv ihk ihv=>
  simp only [AV.under,Ap];intro p hp;obtain ⟨j,hj,rfl⟩:=List.getElem_of_mem hp;exact ⟨ihk j (by omega) hj,ihv j (by omega) hj⟩
 | mp l hl=>simpa [AV.under] using hl
 | fn f vs ws as cs hl hl' hr hr' ih ih'=>
  simp only [AV.under,Bool.and_eq_true,dA];exact ⟨fun c hc=>by obtain ⟨j,hj,rfl⟩:=List.getElem_of_mem hc;exact ih j (by omega) hj,fun c hc=>by obtain ⟨j,hj,rfl⟩:=List.getElem_of_mem hc;exact ih' j (by omega) hj⟩
 | yl l hl=>simpa [AV.under] using hl
 | ifc t v a hr ih=>simpa [AV.under] using ih
 | kb bk c m hm hr ih=>simpa [AV.under] using ih
 | st l v es hl hh hr ih=>simp only [AV.under,Bool.and_eq_true,decide_eq_true_eq] at ih ⊢;exact ⟨hl,ih⟩
 | sk l ver sz o m b off len cap c hl hh ho hc hcc=>simpa [AV.under] using hl
 | skE l ver sz o ad hl=>simpa [AV.under] using hl
 | sp l ver o b off len cap hl hh=>simpa [AV.under] using hl
theorem VU {n:Nat} {e:AV} (h:e.under n=true):∀c∈e.cells,c.under n=true:=by
 cases e with
 | ag cs=>simpa only [AV.cells,AV.under,dA] using h
 | _=>all_goals (intro c hc;simp [AV.cells] at hc;subst hc;exact h)
theorem Rep.restrict {n n':Nat} {v:Value} {x:AV} (h:Rep g n v x) (hu:x.under n'=true):Rep g n' v x:=by
 induction h with
 | u v=>exact .u v
 | i k x=>exact .i k x
 | b x=>exact .b x
 | s l=>exact .s l
 | np=>exact .np
 | nm=>exact .nm
 | ns=>exact .ns
 | nf=>exact .nf
 | ni=>exact .ni
 | se ad=>exact .se ad
 | sz ad c=>exact .sz ad c
 | slNil=>exact .slNil
 | slE a=>exact .slE a
 | sl bk off cap sz es c hc hsz hm hr ih=>
  simp only [AV.under,dA] at hu;exact .sl bk off cap sz es c hc hsz hm (fun i hi j hj=>ih i hi j hj (VU (hu _ (List.getElem_mem hi)) _ (List.getElem_mem hj)))
 | ag vs cs hl h1 hr ih=>
  simp only [AV.under,dA] at hu;exact .ag vs cs hl h1 (fun i hi hi'=>ih i hi hi' (hu _ (List.getElem_mem hi')))
 | tu vs cs hl hr ih=>
  simp only [AV.under,dA] at hu;exact .tu vs cs hl (fun i hi hi'=>ih i hi hi' (hu _ (List.getElem_mem hi')))
 | ip bk off cs c hm hr ih=>
  simp only [AV.under,dA] at hu;exact .ip bk off cs c hm (fun j hj=>ih j hj (hu _ (List.getElem_mem hj)))
 | pt l off hl=>exact .pt l off (by simpa [AV.under] using hu)
 | im bk es vs hm hl hk hv ihk ihv=>
  simp only [AV.under,Ap] at hu;exact .im bk es vs hm hl (fun i hi hi'=>ihk i hi hi' (hu _ (List.getElem_mem hi')).1) (fun i hi hi'=>ihv i hi hi' (hu _ (List.getElem_mem hi')).2)
 | mp l hl=>exact .mp l (by simpa [AV.under] using hu)
 | fn f vs ws as cs hl hl' hr hr' ih ih'=>
  simp only [AV.under,Bool.and_eq_true,dA] at hu;exact .fn f vs ws as cs hl hl' (fun i hi hi'=>ih i hi hi' (hu.1 _ (List.getElem_mem hi'))) (fun i hi hi'=>ih' i hi hi' (hu.2 _ (List.getElem_mem hi')))
 | yl l hl=>exact .yl l (by simpa [AV.under] using hu)
 | ifc t v a hr ih=>exact .ifc t v a (ih (by simpa [AV.under] using hu))
 | kb bk c m hm hr ih=>exact .kb bk c m hm (ih (by simpa [AV.under] using hu))
 | st l v es hl hh hr ih=>simp only [AV.under,Bool.and_eq_true,decide_eq_true_eq] at hu;exact .st l v es hu.1 hh (ih (by simpa [AV.under] using hu.2))
 | sk l ver sz o m b off len cap c hl hh ho hc hcc=>exact .sk l ver sz o m b off len cap c (by simpa [AV.under] using hu) hh ho hc hcc
 | skE l ver sz o ad hl=>exact .skE l ver sz o ad (by simpa [AV.under] using hu)
 | sp l ver o b off len cap hl hh=>exact .sp l ver o b off len cap (by simpa [AV.under] using hu) hh
theorem aW.under {n:Nat} {vs:List Value} {as:List AV} (h:aW g n vs as):bW n as=true:=by
 rw [dA];intro c hc;obtain ⟨j,hj,rfl⟩:=List.getElem_of_mem hc;exact (h.2 j (by rw [h.1];exact hj) hj).under
theorem aW.restrict {n n':Nat} {vs:List Value} {as:List AV} (h:aW g n vs as) (hu:bW n' as=true):aW g n' vs as:=
 ⟨h.1,fun i hi hi'=>(h.2 i hi hi').restrict ((dA n' as).1 hu _ (List.getElem_mem hi'))⟩
theorem Base.jF (h:Base P glob g s w) (l:Nat):Ai.jF s.length s l:=by
 unfold Ai.jF;split
 ·rename_i cs hs;obtain ⟨arr,ty,_,h2,_⟩:=h.heap.cells l cs hs;exact h2.under
 ·rename_i es hs;obtain ⟨_,ents,clock,_,h2,h3,_⟩:=h.heap.obj l _ hs;refine (Ap _ es).2 fun p hp=>⟨(dA _ _).1 h2.under _ (List.mem_map.2 ⟨p,hp,rfl⟩),(dA _ _).1 h3.under _ (List.mem_map.2 ⟨p,hp,rfl⟩)⟩
 ·rename_i env ps asg body pend hs;obtain ⟨r,_,h2⟩:=h.heap.loop l env ps asg body pend hs;obtain ⟨_,_,_,h4,_⟩:=h2;intro k x hk;obtain ⟨y,hy,hr⟩:=h4 k _ hk;cases hy;exact hr.under
 ·rename_i cs hs;obtain ⟨b,off,len,cap,cur,h1,h2,h3,h4,h5,h6,h7,h8,h9,h10,h11⟩:=h.heap.obj l _ hs;exact h10.under
 ·trivial
theorem Base.take (h:Base P glob g s w) {n:Nat} (hn:n≤s.length) (hu:∀l,l<n→Ai.jF n s l):
  Base P glob g (s.take n) w:=by
 have hlen:(s.take n).length=n:=by simp;omega
 refine ⟨h.imm,⟨fun l l' b hl hl' h1 h2=>?_,fun l b hl hb=>?_,fun l o hs=>?_⟩,h.glob⟩
 ·rw [hlen] at hl hl';exact h.heap.inj l l' b (by omega) (by omega) h1 h2
 ·rw [hlen] at hl;exact h.heap.lt l b (by omega) hb
 ·have hl:l<n:=by rw [←hlen];exact (List.getElem?_eq_some_iff.1 hs).1
  rw [List.getElem?_take_of_lt hl] at hs;rw [hlen];have hul:=hu l hl;unfold Ai.jF at hul;rw [hs] at hul;have ho:=h.heap.obj l o hs
  cases o with
  | cells cs=>obtain ⟨h0,arr,ty,h1,h2,h3⟩:=ho;exact ⟨h0,arr,ty,h1,h2.restrict hul,h3⟩
  | loop env ps asg body pend=>
   obtain ⟨h0,r,h1,q1,q2,q3,q4,q5⟩:=ho;refine ⟨h0,r,h1,q1,q2,q3,fun k e hk=>?_,q5⟩;obtain ⟨v,rfl,hr⟩:=q4 k e hk;exact ⟨v,rfl,hr.restrict (hul k v hk)⟩
  | dfr=>exact ho
  | dead=>trivial
  | umap es=>
   obtain ⟨h0,ents,clock,ents',h1,h2,h3,h4,h5,h6,h7⟩:=ho;exact ⟨h0,ents,clock,ents',h1,h2,h3,h4.restrict ((dA n _).2 fun a ha=>by obtain ⟨p,hp,rfl⟩:=List.mem_map.1 ha;exact D6 n (h6 p hp)),h5,h6,h7⟩
  | row t sz k=>exact ho
  | buf t sz ver cs=>
   obtain ⟨b,off,len,cap,cur,h1,h2,h3,h4,h5,h6,h7,h8,h9,h10,h11⟩:=ho;exact ⟨b,off,len,cap,cur,h1,h2,h3,h4,h5,h6,h7,h8,h9,h10.restrict hul,h11⟩
  | map es=>
   obtain ⟨h0,ents,clock,h1,h2,h3,h7⟩:=ho;have hm:=(Ap n es).1 hul;exact ⟨h0,ents,clock,h1,h2.restrict ((dA n _).2 fun a ha=>by obtain ⟨p,hp,rfl⟩:=List.mem_map.1 ha;exact (hm p hp).1),h3.restrict ((dA n _).2 fun a ha=>by obtain ⟨p,hp,rfl⟩:=List.mem_map.1 ha;exact (hm p hp).2),h7⟩
def yL (P:Program):List ResultVar→List RV→Bool
 | [],[]=>true
 | .tmp t::r,.tmp t'::r'=>t == t' && yL P r r'
 | .cell a t::r,.cell a' n::r'=>a == a' && Hq P t n && yL P r r'
 | _,_=>false
def PY (tmps:Array Value):ResultVar→Sem Value
 | .tmp t=>pure (tmps.getD t undef)
 | .cell a t=>do loadVar t (←asAddr (tmps.getD a undef))
theorem Qz {t:TypeId} {x u:Value} {w w':World} (h:(Instr.loadAt t x).run P w=.ok u w'):(do loadVar t (←asAddr x):Sem Value).run P w=.ok u w':=by
 unfold Instr.loadAt at h
 cases x with
 | pointer p=>
  cases p with
  | none=>simp [Instr.sureAddr,stuck,Sem.run,Sem.run_bind] at h
  | some ad=>simpa [Instr.sureAddr,asAddr,Sem.run_bind] using h
 | _=>simp [Instr.sureAddr,stuck,Sem.run,Sem.run_bind] at h
theorem Gq {rvs:List ResultVar}:∀{rs:List RV},yL P rvs rs=true→∀{g:ai} {env:Env},Sim P glob g s B w (Act.tm a) env→∀{vs:List AV},nX glob env s rs=some vs→
  ∃us g',(rvs.mapM (PY a.tmps)).run P w=.ok us w∧Step qt g s.length B w g' s.length w∧Base P glob g' s w∧aW g' s.length us vs:=by
 induction rvs with
 | nil=>
  intro rs hc g env h vs hr
  cases rs with
  | nil=>simp [nX] at hr;subst hr;exact ⟨[],g,by simp,.refl _ _ _ _,h.base,.nil _ _⟩
  | cons x y=>simp [yL] at hc
 | cons rv rvs ih=>
  intro rs hc g env h vs hr
  cases rs with
  | nil=>cases rv<;>simp [yL] at hc
  | cons r rs=>
   cases rv with
   | tmp t=>
    cases r with
    | tmp t'=>
     simp only [yL,Bool.and_eq_true,beq_iff_eq] at hc;obtain ⟨rfl,hc⟩:=hc;simp only [nX] at hr
     split at hr
     ·rename_i v env1 he
      cases hr2:nX glob env1 s rs with
      | none=>simp [hr2] at hr
      | some vs'=>
       simp [hr2] at hr;subst hr;obtain ⟨g1,st1,m1,r1⟩:=qE (x:=.tmp t) (by simp [eF]) h he;obtain ⟨us,g2,q1,q2,q3,q4⟩:=ih hc m1 hr2;refine ⟨a.tmps.getD t undef::us,g2, ?_,st1.weak.trans q2,q3,.cons (r1.mono q2.le) q4⟩;simp only [List.mapM_cons,PY];simp [q1]
     ·cases hr
    | cell a' n=>simp [yL] at hc
   | cell p t=>
    cases r with
    | tmp t'=>simp [yL] at hc
    | cell p' n=>
     simp only [yL,Bool.and_eq_true,beq_iff_eq] at hc;obtain ⟨⟨rfl,hN⟩,hc⟩:=hc;simp only [nX] at hr
     split at hr
     ·rename_i v hv
      cases hr2:nX glob env s rs with
      | none=>simp [hr2] at hr
      | some vs'=>
       simp [hr2] at hr;subst hr;obtain ⟨u,u1,u2⟩:=NG (x:=.tmp p) hN (by simp [eF]) h hv;obtain ⟨us,g2,q1,q2,q3,q4⟩:=ih hc h hr2;refine ⟨u::us,g2, ?_,q2,q3,.cons ((u2.mono q2.le).plain) q4⟩;have u1':=Qz u1;have hev:a.eval (.tmp p)=a.tmps.getD p undef:=rfl;rw [hev] at u1';simp only [List.mapM_cons,PY];rw [Sem.run_bind,u1'];simp [q1]
     ·cases hr
def TR:List Value→Value
 | [u]=>u
 | l=>.tuple l.toArray
theorem Bh {fn:Func} {us:List Value} (h:(fn.results.toList.mapM (PY a.tmps)).run P w=.ok us w):(results fn a.tmps).run P w=.ok (TR us) w:=by
 have e1:results fn a.tmps=(do let vs ←fn.results.mapM (PY a.tmps);pure (if h:vs.size=1 then vs[0] else .tuple vs)):=by
  unfold results
  congr 1
 rw [e1,Array.mapM_eq_mapM_toList];simp only [map_eq_pure_bind,bind_assoc,pure_bind];rw [Sem.run_bind,h];simp only [Result.andThen,Sem.run_pure]
 match us with
 | []=>rfl
 | [u]=>rfl
 | u1::u2::us=>rfl
theorem DK {n:Nat} {us:List Value} {vs:List AV} (h:aW g n us vs):Rep g n (TR us) (sZ vs):=by
 match us,vs,h with
 | [],[],_=>exact .tu _ _ rfl (fun i hi=>by simp at hi)
 | [u],[v],h=>exact h.head
 | u1::u2::us,v1::v2::vs,h=>
  refine .tu _ _ (by have:=h.1;simpa using this) (fun i hi hi'=>?_)
  have:=h.2 i (by simpa using hi) hi'
  simpa using this
 | [],_::_,h=>exact absurd h.1 (by simp)
 | _::_,[],h=>exact absurd h.1 (by simp)
 | [_],_::_::_,h=>exact absurd h.1 (by simp)
 | _::_::_,[_],h=>exact absurd h.1 (by simp)
def kills:List Nat→St→St
 | [],s=>s
 | l::ls,s=>kills ls (s.set l .dead)
theorem DW:∀(ls:List Nat) (s:St),(kills ls s).length=s.length
 | [],s=>rfl
 | l::ls,s=>by simp [kills,DW ls]
theorem Gv:∀(ls:List Nat) (s:St) (l:Nat),l ∉ ls→(kills ls s)[l]?=s[l]?
 | [],s,l,_=>rfl
 | k::ls,s,l,h=>by
  simp only [List.mem_cons,not_or] at h;rw [kills,Gv ls _ l h.2,List.getElem?_set_ne (Ne.symm h.1)]
theorem YK {n:Option Nat} {x:IX} {v:AV} (h:∀l:Nat,(∀cs,s[l]?=some (fZ.cells cs)→s'[l]?=some (fZ.cells cs))∧∀t sz ver cs,s[l]?=some (fZ.buf t sz ver cs)→s'[l]?=some (fZ.buf t sz ver cs)) (hl:kT glob env s n x=some v):kT glob env s' n x=some v:=by
 unfold kT at hl ⊢
 split at hl
 ·exact hl
 ·exact hl
 ·exact hl
 ·exact hl
 ·rename_i l o hv
  split at hl
  ·rename_i cs hs;rw [(h l).1 cs hs];exact hl
  ·cases hl
 ·rename_i l ver o hv
  split at hl
  ·rename_i t2 sz2 ver2 cs hs;rw [(h l).2 _ _ _ _ hs];exact hl
  ·cases hl
 ·exact hl
theorem Iz (h:∀l:Nat,(∀cs,s[l]?=some (fZ.cells cs)→s'[l]?=some (fZ.cells cs))∧∀t sz ver cs,s[l]?=some (fZ.buf t sz ver cs)→s'[l]?=some (fZ.buf t sz ver cs)):∀(rs:List RV) {env:Env} {vs:List AV},nX glob env s rs=some vs→nX glob env s' rs=some vs
 | [],env,vs,hr=>hr
 | .tmp t::r,env,vs,hr=>by
  simp only [nX] at hr ⊢
  split at hr
  ·rename_i v env1 he
   cases hr2:nX glob env1 s r with
   | none=>simp [hr2] at hr
   | some vs'=>simp [hr2] at hr;subst hr;rw [Iz h r hr2];rfl
  ·cases hr
 | .cell p n::r,env,vs,hr=>by
  simp only [nX] at hr ⊢
  split at hr
  ·rename_i v hv;rw [YK h hv]
   cases hr2:nX glob env s r with
   | none=>simp [hr2] at hr
   | some vs'=>simp [hr2] at hr;subst hr;simp only [];rw [Iz h r hr2];rfl
  ·cases hr
theorem Kq {fn:Func} {R:Ending→World→Prop} {m:Nat} (hw:Fence.wide.round=none):∀(ls:List Nat) {s:St} {w:World},Sim P glob g s B w (Act.tm a) env→(∀l∈ls,s[l]?=some .dfr)→ls.Nodup→
  (∀w',Sim P glob g (kills ls s) B w' (Act.tm a) env→Step qt g s.length B w g s.length w'→∃v,(results fn a.tmps).run P w'=.ok v w'∧R (.returned v) w')→
  LeavesInM Fence.wide m P fn a.tmps R (ls.map fun l=>{ target:=.collected (g.L l),args:=#[] }) .returning w
 | [],s,w,h,_,_,hR=>hR w h (.refl _ _ _ _)
 | l::ls,s,w,h,hd,hnd,hR=>by
  simp only [List.map_cons,LeavesInM];have hl:=hd l (by simp);have hlt:l<s.length:=(List.getElem?_eq_some_iff.1 hl).1;have hb:=h.base.heap.dfr l hl;obtain ⟨hnl,hnd'⟩:=List.nodup_cons.1 hnd;refine ⟨by simp,.inl ⟨g.L l,{ w with heap:=w.heap.setIfInBounds (g.L l) (.deferred none) },rfl, ?_, ?_⟩⟩
  ·simp [Instr.takeDeferred,Sem.run_bind,getObj,setObj,Sem.run,hb]
  ·have hk:=h.base.kill hlt (h.base.heap.obj _ _ hl).1 (.deferred none);have hoff:∀k e,lk env k=some e→e.owns=true→∀b,dw (Act.tm a k)=some b→b≠g.L l:=fun k e hk' ho b hbk hbe=>h.env.off k e hk' ho b hbk (by rw [hbe];exact .L hlt)
   have hsim:Sim P glob g (s.set l .dead) B { w with heap:=w.heap.setIfInBounds (g.L l) (.deferred none) } (Act.tm a) env:=by
    refine ⟨hk, ?_,by simpa using h.B⟩;simp only [List.length_set];exact h.env.next (.refl _ _) (fun k e hk' ho b hbk=>⟨dM (hoff k e hk' ho b hbk),rfl,rfl,fun ht=>ht⟩)
   have hst:Step qt g s.length B w g s.length { w with heap:=w.heap.setIfInBounds (g.L l) (.deferred none) }:=
    ⟨.refl _ _,by simp,fun b hb hbl=>dM (fun hbe=>hbl (by rw [hbe];exact .L hlt)),fun _ _ _=>rfl,fun _ _=>rfl,fun b hb=>.inl hb,rfl,rfl,fun _=>⟨rfl,Nat.le_refl _⟩⟩
   refine Kq hw ls hsim (fun l' hl'=>?_) hnd' (fun w' hs' hst'=>hR w' hs' ?_)
   ·rw [List.getElem?_set_ne (fun he=>by subst he;exact hnl hl')];exact hd l' (by simp [hl'])
   ·simp only [List.length_set] at hst';exact hst.trans hst'
theorem Kr {fn:Func} {R:Ending→World→Prop} {m:Nat} {chain:List PanicEntry} (hw:Fence.wide.round=none):∀(ls:List Nat) {s:St} {w:World},Sim P glob g s B w (Act.tm a) env→(∀l∈ls,s[l]?=some .dfr)→ls.Nodup→
  (∀w',Sim P glob g (kills ls s) B w' (Act.tm a) env→Step qt g s.length B w g s.length w'→R (.panicked chain) w')→
  LeavesInM Fence.wide m P fn a.tmps R (ls.map fun l=>{ target:=.collected (g.L l),args:=#[] }) (.panicking chain) w
 | [],s,w,h,_,_,hR=>hR w h (.refl _ _ _ _)
 | l::ls,s,w,h,hd,hnd,hR=>by
  simp only [List.map_cons,LeavesInM];have hl:=hd l (by simp);have hlt:l<s.length:=(List.getElem?_eq_some_iff.1 hl).1;have hb:=h.base.heap.dfr l hl;obtain ⟨hnl,hnd'⟩:=List.nodup_cons.1 hnd;refine ⟨by simp,.inl ⟨g.L l,{ w with heap:=w.heap.setIfInBounds (g.L l) (.deferred none) },rfl, ?_, ?_⟩⟩
  ·simp [Instr.takeDeferred,Sem.run_bind,getObj,setObj,Sem.run,hb]
  ·have hk:=h.base.kill hlt (h.base.heap.obj _ _ hl).1 (.deferred none);have hoff:∀k e,lk env k=some e→e.owns=true→∀b,dw (Act.tm a k)=some b→b≠g.L l:=fun k e hk' ho b hbk hbe=>h.env.off k e hk' ho b hbk (by rw [hbe];exact .L hlt)
   have hsim:Sim P glob g (s.set l .dead) B { w with heap:=w.heap.setIfInBounds (g.L l) (.deferred none) } (Act.tm a) env:=by
    refine ⟨hk, ?_,by simpa using h.B⟩;simp only [List.length_set];exact h.env.next (.refl _ _) (fun k e hk' ho b hbk=>⟨dM (hoff k e hk' ho b hbk),rfl,rfl,fun ht=>ht⟩)
   have hst:Step qt g s.length B w g s.length { w with heap:=w.heap.setIfInBounds (g.L l) (.deferred none) }:=
    ⟨.refl _ _,by simp,fun b hb hbl=>dM (fun hbe=>hbl (by rw [hbe];exact .L hlt)),fun _ _ _=>rfl,fun _ _=>rfl,fun b hb=>.inl hb,rfl,rfl,fun _=>⟨rfl,Nat.le_refl _⟩⟩
   refine Kr hw ls hsim (fun l' hl'=>?_) hnd' (fun w' hs' hst'=>hR w' hs' ?_)
   ·rw [List.getElem?_set_ne (fun he=>by subst he;exact hnl hl')];exact hd l' (by simp [hl'])
   ·simp only [List.length_set] at hst';exact hst.trans hst'
end Go.Ai
namespace Go.Ai
variable {qt:Prop} {P:Program} {glob:Nat→Option (List AV)} {g:ai} {s:St} {B:Nat} {w:World} {env:Env} {a:Act} {call:AV→List AV→St→Ctx→CO} {cx:Ctx} {env':Env} {s':St}
open Classical in
noncomputable def ai.claimAll (g:ai) (n n1:Nat) (w:World):ai:={ g with
 m:=fun b o=>if ∃l,n≤l∧l<n1∧g.bl l b then w.cell? ⟨b,o,none⟩ else g.m b o
 mm:=fun b=>if ∃l,n≤l∧l<n1∧g.bl l b then (match w.heap[b]? with|some (.map ents clock)=>if Born ents clock then some (.inl (ents.toList.map fun e=>(e.key,e.val))) else g.mm b | _=>g.mm b) else g.mm b }
theorem zi {n:Nat} (h:Base P glob g s w):g.le s.length (g.claimAll n s.length w) s.length:=by
 refine ⟨fun b o v hm=>?_,fun b es hm=>?_,fun _ _=>rfl,fun _ _ _ _ h=>h,Nat.le_refl _⟩
 ·unfold ai.claimAll;dsimp only;split
  ·exact h.imm.m b o v hm
  ·exact hm
 ·unfold ai.claimAll;dsimp only;split
  ·have hh:=h.imm.mm b es hm
   cases es with
   | inl es=>
    obtain ⟨ents,clock,h1,h2,hb⟩:=hh;rw [h1];simp only [h2,hb,if_true]
   | inr arr=>
    obtain ⟨t,f,h1⟩:=hh;rw [h1];exact hm
  ·exact hm
theorem SN {n:Nat} (h:Base P glob g s w) (hn:n≤s.length) (hb:Base P glob g (s.take n) w):Base P glob (g.claimAll n s.length w) (s.take n) w:=by
 have hlen:(s.take n).length=n:=by simp;omega
 have hle:=zi (n:=n) h
 have hno:∀b,g.taken (s.take n).length b→¬∃l,n≤l∧l<s.length∧g.bl l b:=by
  intro b hb';rw [hlen] at hb';obtain ⟨l,hl,hbl⟩:=hb';rintro ⟨l',h1,h2,h3⟩
  have:=h.heap.inj l' l b h2 (by omega) h3 hbl
  omega
 refine hb.fix ⟨hle.m,hle.mm,fun _ _=>rfl,fun _ _ _ _ h=>h,Nat.le_refl _⟩ ⟨fun b o v hm=>?_,fun b es hm=>?_⟩ rfl (fun b hb'=>⟨?_, ?_⟩)
 ·unfold ai.claimAll at hm;dsimp only at hm
  split at hm
  ·exact hm
  ·exact h.imm.m b o v hm
 ·unfold ai.claimAll at hm;dsimp only at hm
  split at hm
  ·split at hm
   ·rename_i ents clock hh
    split at hm
    ·rename_i hbn;cases hm;exact ⟨ents,clock,hh,rfl,hbn⟩
    ·exact h.imm.mm b es hm
   ·exact h.imm.mm b es hm
  ·exact h.imm.mm b es hm
 ·funext o
  unfold ai.claimAll;dsimp only;rw [if_neg (hno b hb')]
 ·unfold ai.claimAll;dsimp only;rw [if_neg (hno b hb')]
def Lj (s1 s:St):Prop:=∀l:Nat,(∀cs,s1[l]?=some (fZ.cells cs)→s[l]?=some (fZ.cells cs))∧(∀es,s1[l]?=some (fZ.map es)→s[l]?=some (fZ.map es))∧∀t sz ver cs,s1[l]?=some (fZ.buf t sz ver cs)→s[l]?=some (fZ.buf t sz ver cs)
theorem WS {g':ai} {N n:Nat} {F:AV→Option AV} (hF:∀(v:Value) (x y:AV),Rep g N v x→F x=some y→Rep g' n v y):∀(xs:List AV) (vs:List Value) {ys:List AV},aW g N vs xs→xs.mapM F=some ys→aW g' n vs ys
 | [],vs,ys,hr,hf=>by
  simp at hf;subst hf
  have:vs=[]:=List.eq_nil_of_length_eq_zero hr.1
  subst this;exact .nil _ _
 | x::xs,vs,ys,hr,hf=>by
  cases vs with
  | nil=>exact absurd hr.1 (by simp)
  | cons v vs=>
   simp only [List.mapM_cons,Option.bind_eq_bind,Option.pure_def] at hf
   cases h1:F x with
   | none=>simp [h1] at hf
   | some y=>
    cases h2:xs.mapM F with
    | none=>simp [h1,h2] at hf
    | some ys'=>
     simp [h1,h2] at hf;subst hf;exact .cons (hF v x y hr.head h1) (WS hF xs vs hr.tail h2)
theorem Qx {F:AV→Option AV}:∀(es:List (AV×AV)) {es':List (AV×AV)},es.mapM (abJ F)=some es'→(es.map (·.1)).mapM F=some (es'.map (·.1))∧(es.map (·.2)).mapM F=some (es'.map (·.2))
 | [],es',h=>by simp at h;subst h;simp
 | p::es,es',h=>by
  simp only [List.mapM_cons,Option.bind_eq_bind,Option.pure_def] at h
  cases h1:abJ F p with
  | none=>simp [h1] at h
  | some q=>
   cases h2:es.mapM (abJ F) with
   | none=>simp [h1,h2] at h
   | some r=>
    simp [h1,h2] at h;subst h;obtain ⟨q1,q2⟩:=Qx es h2;unfold abJ at h1
    split at h1
    ·rename_i k v hk hv;cases h1;simp [hk,hv,q1,q2]
    ·cases h1
theorem Eb (sz:Nat):∀(n:Nat) (cs:List AV),(chunk sz n cs).length=n
 | 0,_=>rfl
 | n+1,cs=>by simp [chunk,Eb sz n]
theorem aa0 {c:AV} (h:c.one=true):c.cells=[c]:=by cases c<;>first|rfl | (simp [AV.one] at h;done)
theorem Ro {sz:Nat} (hpos:0<sz):∀(n:Nat) (cs:List AV),cs.length=n * sz→cs.all AV.one=true→(chunk sz n cs).flatMap AV.cells=cs∧∀e∈chunk sz n cs,e.cells.length=sz
 | 0,cs,h,_=>by
  have:cs=[]:=List.eq_nil_of_length_eq_zero (by simpa using h)
  subst this;exact ⟨rfl,fun e he=>by simp [chunk] at he⟩
 | n+1,cs,h,hall=>by
  rw [Nat.succ_mul] at h;obtain ⟨ih1,ih2⟩:=Ro hpos n (cs.drop sz) (by simp;omega) (List.all_eq_true.2 fun a ha=>List.all_eq_true.1 hall a (List.mem_of_mem_drop ha));simp only [chunk,List.flatMap_cons,List.mem_cons];rw [ih1];by_cases h1:sz=1
  ·subst h1
   cases cs with
   | nil=>simp at h
   | cons c cs=>
    have:=aa0 (List.all_eq_true.1 hall c (by simp))
    simp only [if_true,List.headD_cons,this];refine ⟨rfl, ?_⟩;rintro e (rfl|he)
    ·simp [this]
    ·exact ih2 e he
  ·simp only [if_neg h1,AV.cells];refine ⟨List.take_append_drop sz cs, ?_⟩;rintro e (rfl|he)
   ·simp [AV.cells];omega
   ·exact ih2 e he
theorem FZ (e:AV):e.plain.cells=e.cells.map AV.plain1:=by cases e<;>rfl
theorem Yt {N:Nat} {v:Value} {es:List AV} (h:Rep g N v (.sl es)):Rep g N v (.sl (es.map AV.plain)):=by
 cases h with
 | slNil=>exact .slNil
 | slE a=>exact .slE a
 | sl bk off cap sz _ c hc hsz hm hr=>
  have key:=Rep.sl (g:=g) (n:=N) bk off cap sz (es.map AV.plain) c (by simpa using hc) (fun i hi=>by
   have:=hsz i (by simpa using hi)
   simp only [List.getElem_map,FZ,List.length_map];exact this) (fun i j hi hj=>hm i j (by simpa using hi) hj) (fun i hi j hj=>by
   have hi':i<es.length:=by simpa using hi
   simp only [List.getElem_map,FZ,List.length_map] at hj
   have:=(hr i hi' j hj).plain1
   simp only [List.getElem_map,FZ]
   exact this)
  rw [List.length_map] at key;exact key
theorem Y0 {n:Nat} (h:Base P glob g s w) {s1:St} (hs:Lj s1 s) (hn:n≤s.length):∀(f:Nat) (v:Value) (x y:AV),Rep g s.length v x→zV s1 n f x=some y→Rep (g.claimAll n s.length w) n v y:=by
 have hle:=zi (n:=n) h;intro f
 induction f with
 | zero=>
  intro v x y hr hf;simp only [zV] at hf
  split at hf
  ·rename_i hu;cases hf;exact (hr.mono hle).restrict hu
  ·cases hf
 | succ f ih=>
  intro v x y hr hf;have hM:=fun xs vs ys=>WS (F:=zV s1 n f) (g:=g) (g':=g.claimAll n s.length w) (N:=s.length) (n:=n) ih xs vs (ys:=ys);simp only [zV] at hf
  split at hf
  ·rename_i hu;cases hf;exact (hr.mono hle).restrict hu
  ·rename_i hu
   split at hf
   ·rename_i l o
    split at hf
    ·rename_i cs hl
     cases hcs:cs.mapM (zV s1 n f) with
     | none=>simp [hcs] at hf
     | some cs'=>
      simp [hcs] at hf;subst hf
      cases hr with
      | pt _ _ hlt=>
       have hln:n≤l:=by
        simp only [AV.under,decide_eq_true_eq] at hu;omega
       obtain ⟨arr,ty,q1,q2,q3⟩:=h.heap.cells l cs ((hs l).1 cs hl);have q2':=hM cs arr.toList cs' q2 hcs;have hsz:arr.size=cs'.length:=by have:=q2'.1;simpa using this
       refine .ip (g.L l) o _ (fun j=>arr.getD (o+j) undef) (fun j hj=>?_) (fun j hj=>?_)
       ·simp at hj;have hlt2:o+j<arr.size:=by omega
        have e1:arr.getD (o+j) undef=arr[o+j]:=by simp [Array.getD_eq_getD_getElem?,hlt2]
        rw [e1];refine ⟨?_,q3 _ (by simp)⟩;unfold ai.claimAll;dsimp only;rw [if_pos ⟨l,hln,hlt,.inl rfl⟩,cell_of_row w (g.L l) (o+j) arr ty (0,0) q1];simp [hlt2]
       ·simp at hj;have hlt2:o+j<arr.size:=by omega
        have e1:arr.getD (o+j) undef=arr[o+j]:=by simp [Array.getD_eq_getD_getElem?,hlt2]
        rw [e1,List.getElem_drop]
        have:=q2'.2 (o+j) (by simpa using hlt2) (by omega)
        rwa [Array.getElem_toList] at this
    ·cases hf
   ·rename_i l
    split at hf
    ·rename_i es hl
     cases hes:es.mapM (abJ (zV s1 n f)) with
     | none=>simp [hes] at hf
     | some es'=>
      simp [hes] at hf;subst hf
      cases hr with
      | mp _ hlt=>
       have hln:n≤l:=by
        simp only [AV.under,decide_eq_true_eq] at hu;omega
       obtain ⟨_,ents,clock,q1,q2,q3,hbn⟩:=h.heap.obj l _ ((hs l).2.1 es hl);obtain ⟨m1,m2⟩:=Qx es hes;have r1:=hM _ _ _ q2 m1;have r2:=hM _ _ _ q3 m2;have hlen:ents.toList.length=es'.length:=by have:=r1.1;simpa using this
       refine .im (g.L l) es' (ents.toList.map fun e=>(e.key,e.val)) ?_ (by simpa using hlen) (fun i hi hi'=>?_) (fun i hi hi'=>?_)
       ·unfold ai.claimAll;dsimp only;rw [if_pos ⟨l,hln,hlt,.inl rfl⟩,q1];simp only [hbn,if_true]
       ·have:=r1.2 i (by simpa using hi) (by simpa using hi');simpa using this
       ·have:=r2.2 i (by simpa using hi) (by simpa using hi');simpa using this
    ·cases hf
   ·rename_i l ver sz o m
    split at hf
    ·rename_i t2 sz2 ver2 cs hl
     split at hf
     ·rename_i hcond;obtain ⟨rfl,rfl,hfit⟩:=hcond
      cases hcs:((cs.drop o).take (m * sz)).mapM (zV s1 n f) with
      | none=>simp [hcs] at hf
      | some cs'=>
       simp only [hcs,Option.bind_some] at hf
       split at hf
       ·rename_i hc2;obtain ⟨hpos,hone⟩:=hc2;cases hf;obtain ⟨b,off,len,cap,cur,h1,h2,h3,h4,h5,h6,h7,h8,h9,h10,h11⟩:=h.heap.obj l _ ((hs l).2.2 _ _ _ _ hl);have hpart:=hM _ _ _ ((h10.drop o).take (m * sz)) hcs;have hlc:=Nat.mul_le_mul_right sz h5;have hlen':cs'.length=m * sz:=by rw [←hpart.1];simp;omega
        obtain ⟨c1,c2⟩:=Ro hpos m cs' hlen' hone
        cases hr with
        | skE _ _ _ _ ad hk=>simpa [chunk] using Rep.slE ad
        | sk _ _ _ _ _ b' off' len' cap' c hk hh ho hc hcc=>
         rw [h1] at hh;cases hh
         have hln:n≤l:=by
          simp only [AV.under,decide_eq_true_eq] at hu;omega
         have key:=ER (g:=g.claimAll n s.length w) (n:=n) (b:=b) (off:=off+o) (cap:=c) (sz:=sz) (es:=chunk sz m cs') (xs:=(((cur.toList.drop off).take cs.length).drop o).take (m * sz)) (by rw [Eb];exact hc) c2 (by rw [c1];exact hpart) ((h11.drop o).take _) (fun j hj=>?_)
         ·rw [Eb] at key;exact key
         ·have hj2:j<m * sz:=by simp at hj;omega
          unfold ai.claimAll;dsimp only;rw [if_pos ⟨l,hln,hk,.inr ⟨ver,_,h1,rfl⟩⟩,cell_of_row w b (off+o+j) cur t2 (0,0) h8]
          have hj3:off+o+j<cur.size:=by
           have:=Nat.mul_le_mul_right sz h5
           omega
          simp [hj3,Nat.add_assoc]
       ·cases hf
     ·cases hf
    ·cases hf
   ·rename_i cs
    cases hcs:cs.mapM (zV s1 n f) with
    | none=>simp [hcs] at hf
    | some cs'=>
     simp [hcs] at hf;subst hf
     cases hr with
     | ag vs _ hl h1 hr1=>
      have q1:=hM cs vs.toList cs' ⟨by simpa using hl,fun i hi hi'=>by rw [Array.getElem_toList];exact hr1 i (by simpa using hi) hi'⟩ hcs;refine .ag vs cs' (by have:=q1.1;simpa using this) h1 (fun i hi hi'=>?_)
      have:=q1.2 i (by simpa using hi) hi';rwa [Array.getElem_toList] at this
   ·rename_i cs
    cases hcs:cs.mapM (zV s1 n f) with
    | none=>simp [hcs] at hf
    | some cs'=>
     simp [hcs] at hf;subst hf
     cases hr with
     | tu vs _ hl hr1=>
      have q1:=hM cs vs.toList cs' ⟨by simpa using hl,fun i hi hi'=>by rw [Array.getElem_toList];exact hr1 i (by simpa using hi) hi'⟩ hcs;refine .tu vs cs' (by have:=q1.1;simpa using this) (fun i hi hi'=>?_)
      have:=q1.2 i (by simpa using hi) hi';rwa [Array.getElem_toList] at this
   ·rename_i l es
    split at hf
    ·rename_i hue;cases hf
     cases hr with
     | st _ _ _ hl hh hr1=>exact (hr1.mono hle).restrict (by simpa [AV.under] using hue)
    ·cases hf
   ·rename_i es
    split at hf
    ·rename_i hue;cases hf;exact ((Yt hr).mono hle).restrict (by simpa [AV.under] using hue)
    ·cases hf
   ·rename_i fn as cs
    split at hf
    ·rename_i as' cs' h1 h2;cases hf
     cases hr with
     | fn _ vs ws _ _ hl hl' hr1 hr2=>
      have q1:=hM as vs.toList as' ⟨by simpa using hl,fun i hi hi'=>by rw [Array.getElem_toList];exact hr1 i (by simpa using hi) hi'⟩ h1;have q2:=hM cs ws.toList cs' ⟨by simpa using hl',fun i hi hi'=>by rw [Array.getElem_toList];exact hr2 i (by simpa using hi) hi'⟩ h2;refine .fn fn vs ws as' cs' (by have:=q1.1;simpa using this) (by have:=q2.1;simpa using this) (fun i hi hi'=>?_) (fun i hi hi'=>?_)
      ·have:=q1.2 i (by simpa using hi) hi';rwa [Array.getElem_toList] at this
      ·have:=q2.2 i (by simpa using hi) hi';rwa [Array.getElem_toList] at this
    ·cases hf
   ·cases hf
theorem abI {n:Nat} (h:Base P glob g s w) {s1:St} (hs:Lj s1 s) (hn:n≤s.length) {v:Value} {x y:AV} (hr:Rep g s.length v x) (hf:frz s1 n x=some y):
  Rep (g.claimAll n s.length w) n v y:=by
 unfold frz at hf
 split at hf
 ·rename_i hu;cases hf;exact (hr.mono (zi (n:=n) h)).restrict hu
 ·exact Y0 h hs hn 6 v x y hr hf
theorem DV:∀(args:List AV) (i k:Nat) {e:EV},lk (xJ args i) k=some e→∃(h:k - i<args.length),i≤k∧e=.v args[k - i]
 | [],i,k,e,h=>by simp [xJ,lk] at h
 | x::args,i,k,e,h=>by
  simp only [xJ,jI] at h
  split at h
  ·rename_i hik;subst hik;cases h;exact ⟨by simp,Nat.le_refl _,by simp⟩
  ·obtain ⟨h1,h2,h3⟩:=DV args (i+1) k h;refine ⟨by simp;omega,by omega, ?_⟩;rw [h3]
   have:k - i=(k - (i+1))+1:=by omega
   simp only [this,List.getElem_cons_succ]
def bf (P:Program) (f:FuncId) (fn:bU):Prop:=
 ∃rf c,P.funcs[f]?=some rf∧(rf.name == "runtime.NumGoroutine")=false∧rf.body=some c∧wM P (.std rf.ntmps) c fn.code=true∧fn.np≤rf.ntmps∧yL P rf.results.toList fn.res=true
theorem xG {fn:bU} {r r0:AV} {g2:ai} {s1:St} {w2:World} {ls:List Nat} {u:Value} (hb:Base P glob g s w) (he:Ext (fn.inner s cx) s s1) (hdf:∀l∈ls,s1[l]?=some fZ.dfr) (hlo:∀l∈ls,(if fn.keep then s1.length else s.length)≤l)
  (q3:Base P glob g2 (kills ls s1) w2) (hst':Step qt g s.length w.heap.size w g2 s1.length w2) (hrep:Rep g2 s1.length u r0) (hh:finish fn.pure fn.keep s s1 r0=.ret r s'):
  ∃g',Step qt g s.length w.heap.size w g' s'.length w2∧Base P glob g' s' w2∧Rep g' s'.length u r:=by
 have hkl:(kills ls s1).length=s1.length:=DW ls s1
 have hkq:∀(l:Nat) (ob:fZ),ob≠.dfr→s1[l]?=some ob→(kills ls s1)[l]?=some ob:=by
  intro l ob hne hl;rw [Gv ls s1 l (fun hm=>by rw [hdf l hm] at hl;cases hl;exact hne rfl)];exact hl
 have hsame:Lj s1 (kills ls s1):=fun l=>⟨fun _=>hkq l _ (by simp),fun _=>hkq l _ (by simp),fun _ _ _ _=>hkq l _ (by simp)⟩;by_cases hkeep:fn.keep=true
 ·have hls:ls=[]:=by
   cases ls with
   | nil=>rfl
   | cons l ls=>
    have h1:=hlo l (by simp);have h2:=(List.getElem?_eq_some_iff.1 (hdf l (by simp))).1;rw [if_pos hkeep] at h1;omega
  subst hls;unfold finish at hh;rw [if_pos hkeep] at hh;cases hh;exact ⟨g2,hst',q3,hrep⟩
 have hbase':(fn.inner s cx).base=s.length:=by simp only [bU.inner];rw [if_neg hkeep]
 have hn:s.length≤(kills ls s1).length:=by rw [hkl];exact he.len
 have hbelow:∀l,l<s.length→(kills ls s1)[l]?=s1[l]?:=fun l hl=>Gv ls s1 l (fun hm=>by have:=hlo l hm;rw [if_neg hkeep] at this;omega)
 have htake:(kills ls s1).take s.length=s1.take s.length:=by
  apply List.ext_getElem?;intro l;by_cases hl:l<s.length
  ·rw [List.getElem?_take_of_lt hl,List.getElem?_take_of_lt hl,hbelow l hl]
  ·rw [List.getElem?_eq_none (by simp;omega),List.getElem?_eq_none (by simp;omega)]
 have hbt:Base P glob g2 (s1.take s.length) w2:=by
  rw [←htake];refine q3.take hn (fun l hl=>?_);have h1:=hb.jF l;have h2:=he.base s.length (by rw [hbase'];exact Nat.le_refl _) l hl h1;unfold Ai.jF at h2 ⊢;rw [hbelow l hl];exact h2
 have hpure:fn.pure=true→s1.take s.length=s:=by
  intro hp;apply List.ext_getElem?;intro l;by_cases hl:l<s.length
  ·rw [List.getElem?_take_of_lt hl];exact he.lim l (by simp only [bU.inner,hp,if_true];exact hl)
  ·rw [List.getElem?_eq_none (by simp;omega),List.getElem?_eq_none (by omega)]
 have hstT:Step qt g s.length w.heap.size w g2 s.length w2:=by
  refine ⟨⟨hst'.le.m,hst'.le.mm,hst'.le.L,hst'.le.hist,Nat.le_refl _⟩,hst'.size,hst'.keep,hst'.m,hst'.mm,fun b hb'=>hst'.new b ?_,hst'.io⟩;obtain ⟨l,hl,hbl⟩:=hb';exact ⟨l,Nat.lt_of_lt_of_le hl he.len,hbl⟩
 unfold finish at hh;rw [if_neg hkeep] at hh
 split at hh
 ·rename_i hl1;have hts:s1.take s.length=s1:=by rw [←hl1,List.take_length]
  cases hp:fn.pure with
  | true=>
   rw [hp] at hh;simp only [if_true] at hh;cases hh;rw [hpure hp] at hbt;exact ⟨g2,hstT,hbt,by rw [hl1] at hrep;exact hrep⟩
  | false=>
   rw [hp] at hh;simp only [Bool.false_eq_true,if_false] at hh;cases hh;rw [hts] at hbt;exact ⟨g2,hst',hbt,hrep⟩
 ·split at hh
  ·rename_i y hy;have hrep':Rep g2 (kills ls s1).length u (r0):=by rw [hkl];exact hrep
   have hfz:=abI (n:=s.length) q3 hsame hn hrep' hy;have hbt':=SN q3 hn (by rw [htake];exact hbt);rw [htake] at hbt'
   have hnot:∀b,b<w.heap.size→¬∃l,s.length≤l∧l<(kills ls s1).length∧g2.bl l b:=by
    intro b hbl;rintro ⟨l,h1,h2,h3⟩;rcases hst'.new b ⟨l,by rw [←hkl];exact h2,h3⟩ with ⟨l0,hl0,hb0⟩|hb0
    ·have:=q3.heap.inj l l0 b h2 (by omega) h3 (hst'.le.bl hl0 hb0)
     omega
    ·omega
   have hnew:∀b,b<w.heap.size→(g2.claimAll s.length (kills ls s1).length w2).m b=g2.m b:=by
    intro b hbl
    funext j
    unfold ai.claimAll;dsimp only;rw [if_neg (hnot b hbl)]
   have hnewm:∀b,b<w.heap.size→(g2.claimAll s.length (kills ls s1).length w2).mm b=g2.mm b:=by
    intro b hbl;unfold ai.claimAll;dsimp only;rw [if_neg (hnot b hbl)]
   have hstF:Step qt g s.length w.heap.size w (g2.claimAll s.length (kills ls s1).length w2) s.length w2:=by
    refine hstT.trans ⟨⟨(zi (n:=s.length) q3).m,(zi (n:=s.length) q3).mm,fun _ _=>rfl,fun _ _ _ _ h=>h,Nat.le_refl _⟩,Nat.le_refl _,fun _ _ _=>rfl,fun b hb' _=>hnew b hb',fun b hb'=>hnewm b hb',fun b hb'=>.inl hb',rfl,rfl,fun _=>⟨rfl,Nat.le_refl _⟩⟩
   cases hp:fn.pure with
   | true=>
    rw [hp] at hh;simp only [if_true] at hh;cases hh;rw [hpure hp] at hbt';exact ⟨_,hstF,hbt',hfz⟩
   | false=>
    rw [hp] at hh;simp only [Bool.false_eq_true,if_false] at hh;cases hh;have htl:(s1.take s.length).length=s.length:=by simp;have:=he.len;omega
    exact ⟨_,by rw [htl];exact hstF,hbt',by rw [htl];exact hfz⟩
  ·cases hh
theorem Oc (hcall:tH qt P glob call) (hext:jh call) (hdraw:Gi qt P glob call) (hM:P.follows .mixedOrders=true) {f:FuncId} {fn:bU} (hfn:bf P f fn) {N m:Nat} {args:List AV} {r:AV} (hcx:gq cx s)
  (hb:Base P glob g s w) {vs:Array Value} (hv:aW g s.length vs.toList args):(wO glob call N fn args s cx=.ret r s'→CallsIn Fence.wide m P f vs w (Ret qt P glob g s w r s'))∧(wO glob call N fn args s cx=.pan r s'→CallsIn Fence.wide m P f vs w (Pan qt P glob g s w r s')):=by
 obtain ⟨rf,c,hf,hname,hbody,hchk,hnp,hres⟩:=hfn;by_cases hlen:args.length=fn.np
 case neg=>unfold wO;rw [if_neg hlen];exact ⟨fun h=>(by cases h),fun h=>(by cases h)⟩
 ·rw [wO,if_pos hlen];have hvs:vs.size=fn.np:=by have:=hv.1;simp at this;omega
  have hcx':gq (fn.inner s cx) s:=bU.cxOK hcx
  let a0:Act:={ tmps:=vs++Array.replicate (rf.ntmps - vs.size) undef,defers:=[] }
  have hsz:a0.tmps.size=rf.ntmps:=by simp [a0];omega
  have htm:∀k (hk:k<args.length) (hk':k<vs.size),Act.tm a0 k=vs[k]:=by
   intro k hk hk';simp only [Act.tm,a0,Array.getD_eq_getD_getElem?];rw [Array.getElem?_append_left hk'];simp [hk']
  have hfr:∀b0,Fr P glob g s w.heap.size w a0 (xJ args 0) (.std rf.ntmps) b0 []:=by
   intro b0
   have hown:∀k e,lk (xJ args 0) k=some e→e.owns=false:=by
    intro k e hk;obtain ⟨_,_,rfl⟩:=DV args 0 k hk;rfl
   refine ⟨⟨hb,⟨fun k e hk=>?_,fun k k' e e' hk _ ho=>?_,fun k e hk ho=>?_,fun k e j hk hr=>?_⟩,Nat.le_refl _⟩,hsz,rfl,fun l hl=>by simp at hl,List.nodup_nil,fun l hl=>by simp at hl,fun p hp=>by simp at hp⟩
   ·obtain ⟨h1,_,rfl⟩:=DV args 0 k hk;simp only [Nat.sub_zero] at h1;have hk':k<vs.size:=by omega
    show Rep g s.length (Act.tm a0 k) args[k - 0];rw [htm k h1 hk']
    have:=hv.2 k (by simpa using hk') h1
    rwa [Array.getElem_toList] at this
   ·rw [hown k e hk] at ho;cases ho
   ·rw [hown k e hk] at ho;cases ho
   ·obtain ⟨_,_,rfl⟩:=DV args 0 k hk;simp [EV.refers] at hr
  -- how the call is left
  have leave:∀env1 s1,Ext (fn.inner s cx) s s1→(match nX glob env1 s1 fn.res with|some rs=>finish fn.pure fn.keep s s1 (sZ rs)|none=>.fail)=.ret r s'→
    ∀g1 ls w1 a1,Step qt g s.length w.heap.size w g1 s1.length w1→Fr P glob g1 s1 w.heap.size w1 a1 env1 (.std rf.ntmps) (if fn.keep then s1.length else s.length) ls→LeavesInM Fence.wide m P rf a1.tmps (Ret qt P glob g s w r s') a1.defers .returning w1:=by
   intro env1 s1 he hh g1 ls w1 a1 hst hf1;rw [hf1.dl,Wd.std_dd,List.append_nil];refine Kq (qt:=qt) rfl ls hf1.sim hf1.df hf1.nd (fun w2 hs2 hst2=>?_)
   have hkq:∀(l:Nat) (ob:fZ),ob≠.dfr→s1[l]?=some ob→(kills ls s1)[l]?=some ob:=by
    intro l ob hne hl;rw [Gv ls s1 l (fun hm=>by rw [hf1.df l hm] at hl;cases hl;exact hne rfl)];exact hl
   have hsame:Lj s1 (kills ls s1):=fun l=>⟨fun _=>hkq l _ (by simp),fun _=>hkq l _ (by simp),fun _ _ _ _=>hkq l _ (by simp)⟩
   split at hh
   ·rename_i rs hrs;obtain ⟨us,g2,q1,q2,q3,q4⟩:=Gq (a:=a1) hres hs2 (Iz (fun l=>⟨(hsame l).1,(hsame l).2.2⟩) fn.res hrs);refine ⟨TR us,Bh q1, ?_⟩;have hkl:(kills ls s1).length=s1.length:=DW ls s1;rw [hkl] at q2 q4;have hrep:=DK q4;have hst':Step qt g s.length w.heap.size w g2 s1.length w2:=(hst.trans hst2).trans q2;obtain ⟨g',f1,f2,f3⟩:=xG hb he hf1.df hf1.lo q3 hst' hrep hh;exact ⟨_,g',rfl,f1,f2,f3⟩
   ·cases hh
  have leaveP:∀v s1,Ext (fn.inner s cx) s s1→finish fn.pure fn.keep s s1 v=.ret r s'→
    ∀u g1 ls w1 a1,Step qt g s.length w.heap.size w g1 s1.length w1→Fr P glob g1 s1 w.heap.size w1 a1 [] (.std rf.ntmps) (if fn.keep then s1.length else s.length) ls→Rep g1 s1.length u v→LeavesInM Fence.wide m P rf a1.tmps (Pan qt P glob g s w r s') a1.defers (.panicking [{ v:=u,recovered:=false }]) w1:=by
   intro v s1 he hh u g1 ls w1 a1 hst hf1 hrep;rw [hf1.dl,Wd.std_dd,List.append_nil];refine Kr (qt:=qt) rfl ls hf1.sim hf1.df hf1.nd (fun w2 hs2 hst2=>?_);obtain ⟨g',f1,f2,f3⟩:=xG hb he hf1.df hf1.lo hs2.base (hst.trans hst2) hrep hh;exact ⟨u,g',rfl,f1,f2,f3⟩
  have wp:=fun {out:Out} (hr1:bF glob call ⟨if fn.pure then s.length else cx.lim,if fn.keep then cx.base else s.length⟩ fn.keep N fn.code (xJ args 0) s=out) {s1:St} (hst:out.st=some s1)=>
   eH (F:=Fence.wide) (n:=m) hcall hext hdraw (.inl rfl) (fun _=>rfl) hM fn.code c hchk hcx' (b0:=if fn.keep then s1.length else s.length) (fun hk=>by rw [hk];exact Nat.le_refl _) (hfr _) hr1 (by rw [hst];rfl)
  have hx:=fun {out:Out} (hr1:bF glob call ⟨if fn.pure then s.length else cx.lim,if fn.keep then cx.base else s.length⟩ fn.keep N fn.code (xJ args 0) s=out) {s1:St} (hst:out.st=some s1)=>
   dO hext fn.code hcx' (ro:=fn.keep) (N:=N) (env:=xJ args 0) (s':=s1) ((congrArg Out.st hr1).trans hst)
  refine ⟨fun h=>?_,fun h=>?_⟩
  ·refine callsIn_of_wp_marks hf hbody trivial ?_
   split at h
   ·rename_i env1 s1 hr1;refine wpIn_mono (wp hr1 (s1:=s1) rfl) (fun e a1 w1 hq=>?_);obtain ⟨rfl,g1,ls,hst,hf1⟩:=hq;exact leave env1 s1 (hx hr1 rfl) h g1 ls w1 a1 hst hf1
   ·rename_i env1 s1 hr1;refine wpIn_mono (wp hr1 (s1:=s1) rfl) (fun e a1 w1 hq=>?_);obtain ⟨rfl,g1,ls,hst,hf1⟩:=hq;exact leave env1 s1 (hx hr1 rfl) h g1 ls w1 a1 hst hf1
   ·exact (VZ h).elim
   ·cases h
  ·refine callsIn_of_wp_marks hf hbody trivial ?_
   split at h
   ·exfalso;(repeat' split at h)<;>first | (cases h;done) | (unfold finish at h;(repeat' split at h)<;>cases h)
   ·exfalso;(repeat' split at h)<;>first | (cases h;done) | (unfold finish at h;(repeat' split at h)<;>cases h)
   ·rename_i v s1 hr1;refine wpIn_mono (wp hr1 (s1:=s1) rfl) (fun e a1 w1 hq=>?_);obtain ⟨u,rfl,g1,ls,hst,hf1,hrp⟩:=hq;exact leaveP v s1 (hx hr1 rfl) (Tz h) u g1 ls w1 a1 hst hf1 hrp
   ·cases h
theorem VE (hcall:tH qt P glob call) (hext:jh call) (hdraw:Gi qt P glob call) (hM:P.follows .mixedOrders=true) {f:FuncId} {fn:bU} (hfn:bf P f fn) {N m:Nat} {args:List AV} {r:AV} (hcx:gq cx s)
  (h:wO glob call N fn args s cx=.ret r s') (hb:Base P glob g s w) {vs:Array Value} (hv:aW g s.length vs.toList args):CallsIn Fence.wide m P f vs w (Ret qt P glob g s w r s'):=
 (Oc hcall hext hdraw hM hfn hcx hb hv).1 h
theorem Zc (hcall:tH qt P glob call) (hext:jh call) (hdraw:Gi qt P glob call) (hM:P.follows .mixedOrders=true) {f:FuncId} {fn:bU} (hfn:bf P f fn) {N m:Nat} {args:List AV} {r:AV} (hcx:gq cx s)
  (h:wO glob call N fn args s cx=.pan r s') (hb:Base P glob g s w) {vs:Array Value} (hv:aW g s.length vs.toList args):CallsIn Fence.wide m P f vs w (Pan qt P glob g s w r s'):=
 (Oc hcall hext hdraw hM hfn hcx hb hv).2 h
end Go.Ai
