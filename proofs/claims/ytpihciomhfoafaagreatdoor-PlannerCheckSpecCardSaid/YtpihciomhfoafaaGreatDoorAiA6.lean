/-
 One operation of a region.
-/
import Derived.Test.YtpihciomhfoafaaGreatDoorAiA7
import Derived.Test.YtpihciomhfoafaaGreatDoorAiA8
import Derived.Test.YtpihciomhfoafaaGreatDoorAiA5
import Derived.RangeFuncLeaves
set_option maxRecDepth 100000
set_option linter.unusedSimpArgs false
set_option linter.unusedVariables false
set_option linter.unusedSectionVars false
namespace Go.Ai
variable {qt:Prop} {P:Program} {glob:Nat→Option (List AV)} {g:af} {s:St} {B:Nat} {w:World} {env:Env} {a:Act} {o:Oper} {call:AV→List AV→St→Ctx→CO} {cx:Ctx} {e:EV} {env':Env} {s':St}
theorem Oe:∀{args:List IX} {as:List AV},rds glob env args=some as→wF glob env args=some (as,env)
 | [],as,h=>by simp only [rds,Option.some.injEq] at h;subst h;rfl
 | x::r,as,h=>by
  unfold rds at h
  split at h
  ·cases h
  ·rename_i a ha
   split at h
   ·cases h
   ·rename_i as' has
    cases h
    have hx:esc glob env x=some (a,env):=by
     unfold rd at ha
     unfold esc
     split at ha
     ·rename_i a' he;rw [he];cases ha;rfl
     ·cases ha
    simp only [wF,hx,Oe has]
theorem UE {d:Nat} {f:IX} {args:List IX} {k:Option (Nat×Nat)} {o:RO} (h:aop glob call cx env s (.callh d f args k)=o) (ho:o≠.fail):aop glob call cx env s (.call f args)=o:=by
 simp only [aop] at h ⊢
 split at h
 ·exact absurd h.symm ho
 ·split at h
  ·rename_i fv as hf ha
   rw [hf,Oe ha]
   dsimp only
   split at h
   ·split at h
    ·exact h
    ·exact absurd h.symm ho
   ·exact h
   ·exact absurd h.symm ho
  ·exact absurd h.symm ho
theorem XJ {ao:AOp} (h:Sim P glob g s B w (Act.tm a) env) (hc:au P o.op ao=true) (hn:∀f as,ao≠.call f as∧ao≠.callp f as∧∀d k,ao≠.callh d f as k) (hr:aop glob call cx env s ao=.ok e env' s'):Good P glob g s B w a (execOp a.eval o) e env' s':=by
 cases ao with
 | mov x=>exact Xk h hc hr
 | asg x=>exact Xy h hc hr
 | cpy x=>exact Xt h hc hr
 | nbuf t sz=>exact VA h hc hr
 | pick c x y=>exact Vz h hc hr
 | lbox x=>exact VH h hc hr
 | lalloc zs=>exact L9 h hc hr
 | hbox x=>exact VP h hc hr
 | halloc zs=>exact Mc h hc hr
 | load n x=>exact BQ h hc hr
 | loadp d n x=>
  have hc':au P o.op (.load n x)=true:=by simpa only [au] using hc
  have hr':aop glob call cx env s (.load n x)=.ok e env' s':=by
   simp only [aop] at hr ⊢
   split at hr
   ·exact hr
   ·cases hr
  exact BQ h hc' hr'
 | store n x y=>exact IC h hc hr
 | fld off x=>exact Xp h hc hr
 | idx sz x i=>exact Xo h hc hr
 | idxa len sz x i=>exact VK h hc hr
 | getf off n x=>exact absurd hc Bool.false_ne_true
 | idxv len sz n x i=>exact VI h hc hr
 | idxs x i=>exact VJ h hc hr
 | bin op x y=>exact Xw h hc hr
 | beq neg x y=>exact Xx h hc hr
 | ieq neg n x y=>exact Xn h hc hr
 | nileq neg k x=>exact Ut h hc hr
 | un op x=>exact X4 h hc hr
 | toInt k x=>exact Us h hc hr
 | s2b x=>exact Xj h hc hr
 | b2s x=>exact absurd hc Bool.false_ne_true
 | same x=>exact absurd hc Bool.false_ne_true
 | mark x=>exact absurd hc Bool.false_ne_true
 | markk x=>exact absurd hc Bool.false_ne_true
 | build zs ps=>exact Ux h hc hr
 | bsl own t sz len zs ps=>exact Xu h hc hr
 | app t sz x y=>exact Xz h hc hr
 | apps t x y=>exact absurd hc Bool.false_ne_true
 | appr t sz x y=>exact QG h hc hr
 | apprp d t sz x y=>
  have hc':au P o.op (.appr t sz x y)=true:=by simpa only [au] using hc
  rcases MI hr with hr' | ⟨v,hy,hxv,hvk,rfl,rfl,rfl⟩
  ·exact QG h hc' hr'
  ·simp only [au] at hc
   split at hc
   case h_2=>cases hc
   rename_i c hop
   split at hc
   case h_2=>cases hc
   rename_i ts x' y' hcal hargs
   split at hc
   case h_2=>cases hc
   rename_i t1 t2 htys
   simp only [Bool.and_eq_true,beq_iff_eq] at hc
   obtain ⟨⟨⟨⟨rfl,hx⟩,hyy⟩,hsl⟩,hinf⟩:=hc
   obtain ⟨hu,hsz⟩:=fV hsl
   obtain ⟨i,hi,hisz⟩:=gm hsz
   have hnone:∀z∈([]:List AV),z.cells.length=sz:=fun z hm=>absurd hm List.not_mem_nil
   obtain ⟨news,q1,q2⟩:=ku hyy h hy hnone
   have hrep:=fE (a:=a) hx h.env h.base.glob hxv
   refine ⟨a.eval x',w,g,.inl ?_,.refl _ _ _ _,h,.v hrep⟩
   refine dI hop hcal hargs htys ?_
   generalize a.eval x'=ax at hrep
   rcases hvk with rfl|rfl|⟨l,es,rfl⟩
   ·cases hrep with
    | ns=>exact rO hu hi hisz (Nat.le_refl _) q1
   ·cases hrep with
    | se=>exact rO hu hi hisz (Nat.le_refl _) q1
   ·cases hrep with
    | st _ _ _ hl hh hr2=>
     cases hr2 with
     | slNil=>exact rO hu hi hisz (Nat.le_refl _) q1
     | slE=>exact rO hu hi hisz (Nat.le_refl _) q1
     | sl _ _ _ _ _ _ hcc=>exact rO hu hi hisz hcc q1
 | appk t sz x y=>exact La h hc hr
 | mks t sz zs x=>exact Xl h hc hr
 | appz t sz zs x y=>exact VT h hc hr
 | appe t sz x y=>exact VW h hc hr
 | appv t sz x y=>exact VU h hc hr
 | appks t x y=>exact absurd hc Bool.false_ne_true
 | capn x=>exact VS h hc hr
 | asgk t sz x=>exact absurd hc Bool.false_ne_true
 | lallocp d zs=>
  have hc':au P o.op (.lalloc zs)=true:=by simpa only [au] using hc
  have hr':aop glob call cx env s (.lalloc zs)=.ok e env' s':=by
   simp only [aop] at hr ⊢
   split at hr
   ·cases hr
   ·exact hr
  exact L9 h hc' hr'
 | hallocp d zs=>
  have hc':au P o.op (.halloc zs)=true:=by simpa only [au] using hc
  have hr':aop glob call cx env s (.halloc zs)=.ok e env' s':=by
   simp only [aop] at hr ⊢
   split at hr
   ·cases hr
   ·exact hr
  exact Mc h hc' hr'
 | storep n x y=>exact Tc h hc hr
 | loadl n x=>
  have hc':au P o.op (.load n x)=true:=by simpa only [au] using hc
  have hr':aop glob call cx env s (.load n x)=.ok e env' s':=by
   simp only [aop] at hr ⊢
   split at hr<;>first|exact hr|cases hr
  exact BQ h hc' hr'
 | storel n k x=>
  have hc':au P o.op (.store n (.t k) x)=true:=by simpa only [au] using hc
  have hr':aop glob call cx env s (.store n (.t k) x)=.ok e env' s':=by
   simp only [aop] at hr ⊢
   split at hr
   ·rename_i cs xv hk hx
    split at hr
    ·rename_i hcd
     obtain ⟨q1,q2,q3,q4⟩:=hcd
     have he:FH glob env x=some (xv,env):=by unfold FH;rw [hx]
     have hs:lS glob cx env s n (.t k) xv=some ((k,.bx (splice cs 0 xv.cells))::env,s):=by
      unfold lS
      have hev:ev glob env (.t k)=some (.bx cs):=hk
      rw [if_pos ⟨q1,q2,q3⟩,hev]
      simp only [if_pos q4]
     rw [he]
     simp only [hs]
     exact hr
    ·cases hr
   ·cases hr
  exact IC h hc' hr'
 | umap d=>exact absurd hc Bool.false_ne_true
 | uins m k v=>exact absurd hc Bool.false_ne_true
 | bse=>exact Xv h hc hr
 | clrk zs x=>exact VR h hc hr
 | len k x=>exact Xm h hc hr
 | lenA n=>exact absurd hc Bool.false_ne_true
 | minmax isMin x y=>exact Tf h hc hr
 | slc sz x lo hi=>exact Xi h hc hr
 | slcs x lo hi=>exact Vy h hc hr
 | slc3 sz x hi mx=>exact absurd hc Bool.false_ne_true
 | ext x i=>exact Xq h hc hr
 | mkfn f as cs=>exact VE h hc hr
 | mkif t x=>exact VD h hc hr
 | look kk z ok m k=>exact VG h hc hr
 | mkmap=>exact Uu h hc hr
 | ins kk m k v=>exact absurd hc Bool.false_ne_true
 | hmap=>exact VL h hc hr
 | hmapo=>exact Uw h hc hr
 | ment kk z m k=>exact VF h hc hr
 | msto m i v=>exact VB h hc hr
 | hins kk m k v=>exact VN h hc hr
 | hdel kk m k=>exact VO h hc hr
 | call f as=>exact absurd rfl (hn f as).1
 | callp f as=>exact absurd rfl (hn f as).2.1
 | callh d f as k=>exact absurd rfl ((hn f as).2.2 d k)
 | loadw n x bs=>
  have hc':au P o.op (.load n x)=true:=by simpa only [au] using hc
  have hr':aop glob call cx env s (.load n x)=.ok e env' s':=by
   simp only [aop] at hr ⊢
   split at hr
   ·split at hr
    ·exact hr
    ·cases hr
   ·cases hr
  exact BQ h hc' hr'
 | loadv x k off=>
  have hc':au P o.op (.load none x)=true:=by simpa only [au] using hc
  have hr':aop glob call cx env s (.load none x)=.ok e env' s':=by
   simp only [aop] at hr ⊢
   split at hr
   ·rename_i l o l' o' hx hk
    split at hr
    ·split at hr
     ·rename_i m hm
      unfold Ui at hm
      unfold dQ
      rw [hx]
      dsimp only
      cases hs:s[l]? with
      | none=>rw [hs] at hm;cases hm
      | some ob=>
       rw [hs] at hm
       cases ob with
       | cells cs=>
        dsimp only at hm ⊢
        cases hcs:cs[o]? with
        | none=>rw [hcs] at hm;cases hm
        | some v=>
         rw [hcs] at hm
         cases v<;>(try (cases hm;done))
         cases hm
         simpa [okv,part,hcs] using hr
       | _=>cases hm
     ·cases hr
    ·cases hr
   ·cases hr
  exact BQ h hc' hr'
 | nilchk x=>exact Td h hc hr
 | panic x=>simp only [aop] at hr;split at hr<;>cases hr
theorem Step.lower {g g':af} {n n' B B':Nat} {w w':World} (h:Step qt g n B' w g' n' w') (hB:B≤B'):Step qt g n B w g' n' w':=
 ⟨h.le,h.size,fun b hb=>h.keep b (by omega),fun b hb=>h.m b (by omega),fun b hb=>h.mm b (by omega),fun b hb=>(h.new b hb).imp id (fun hh=>by omega),h.io⟩
def Ret (qt:Prop) (P:Program) (glob:Nat→Option (List AV)) (g:af) (s:St) (w:World) (r:AV) (s':St):Ending→World→Prop:=
 fun e w'=>∃v g',e=.returned v∧Step qt g s.length w.heap.size w g' s'.length w'∧Base P glob g' s' w'∧Rep g' s'.length v r
def callOf (f:Value) (args:Array Value):Sem Next:=do let d ←Deferred.ofValue f args;invoke d.target d.args
def Pan (qt:Prop) (P:Program) (glob:Nat→Option (List AV)) (g:af) (s:St) (w:World) (r:AV) (s':St):Ending→World→Prop:=
 fun e w'=>∃u g',e=.panicked [{ v:=u,recovered:=false }]∧Step qt g s.length w.heap.size w g' s'.length w'∧Base P glob g' s' w'∧Rep g' s'.length u r
structure l7 (qt:Prop) (P:Program) (glob:Nat→Option (List AV)) (call:AV→List AV→St→Ctx→CO):Prop where
 fn:∀fv args s cx r s',bQ cx s→(∀l,fv≠.yl l)→call fv args s cx=.ret r s'→∀g w f vs,Base P glob g s w→Rep g s.length f fv→aB g s.length vs.toList args→
  ∃fid args',(callOf f vs).run P w=.ok (.enter fid args') w∧∀m,CallsIn Fence.wide m P fid args' w (Ret qt P glob g s w r s')
 yl:∀l args s cx r s',bQ cx s→call (.yl l) args s cx=.ret r s'→∀g w f vs,Base P glob g s w→Rep g s.length f (.yl l)→aB g s.length vs.toList args→
  ∃l' fid tmps asg body,(callOf f vs).run P w=.ok (.round l' fid tmps asg body) w∧∀m,RoundIn Fence.wide m P l' fid tmps asg body w (Ret qt P glob g s w r s')
 pan:∀fv args s cx r s',bQ cx s→call fv args s cx=.pan r s'→∀g w f vs,Base P glob g s w→Rep g s.length f fv→aB g s.length vs.toList args→
  ∃fid args',(callOf f vs).run P w=.ok (.enter fid args') w∧∀m,CallsIn Fence.wide m P fid args' w (Pan qt P glob g s w r s')
def isF (F:Fence):Prop:=F=Fence.wide∨∃l,F=Fence.wide.inRound l
theorem isF.fn {F:Fence} (h:isF F) (f:FuncId):F.fn f:=by rcases h with rfl|⟨l,rfl⟩<;>trivial
theorem isF.depth {F:Fence} (h:isF F):F.depth=none:=by rcases h with rfl|⟨l,rfl⟩<;>rfl
theorem isF.calls {F:Fence} (h:isF F) {m:Nat} {f:FuncId} {args:Array Value} {R:Ending→World→Prop} (hc:CallsIn Fence.wide m P f args w R):CallsIn F m P f args w R:=by
 rcases h with rfl|⟨l,rfl⟩
 ·exact hc
 ·exact hc
theorem isF.rounds {F:Fence} (h:isF F) {m l:Nat} {f:FuncId} {tmps:Array Value} {asg body:Code} {R:Ending→World→Prop} (hc:RoundIn Fence.wide m P l f tmps asg body w R):RoundIn F m P l f tmps asg body w R:=by
 rcases h with rfl|⟨l,rfl⟩
 ·exact hc
 ·exact hc
structure Fr (P:Program) (glob:Nat→Option (List AV)) (g:af) (s:St) (B:Nat) (w:World) (a:Act) (env:Env) (N:Wd) (b0:Nat) (ls:List Nat):Prop where
 sim:Sim P glob g s B w (Act.tm a) env
 sz:a.tmps.size=N.n
 dl:a.defers=(ls.map fun l=>{ target:=.collected (g.L l),args:=#[] })++N.dd
 df:∀l∈ls,s[l]?=some .dfr
 nd:ls.Nodup
 lo:∀l∈ls,b0≤l
 pin:∀p∈N.pn,p.1<N.lo∧p.2<s.length∧Act.tm a p.1=.pointer (some ⟨g.L p.2,0,none⟩)
theorem TS {a:Act} {d:Nat} {v:Value} (h:d<a.tmps.size):Act.tm (a.put (some d) v)=upd (Act.tm a) d v:=by
 funext k
 simp only [Act.put,Act.tm,upd]
 by_cases hk:k=d
 ·subst hk;simp [Array.getD_eq_getD_getElem?,h]
 ·rw [if_neg hk];simp [Array.getD_eq_getD_getElem?,Array.getElem?_setIfInBounds,Ne.symm hk]
theorem put_defers {a:Act} {d:Option Nat} {v:Value}:(a.put d v).defers=a.defers:=by cases d<;>rfl
theorem WJ {a:Act} {d:Option Nat} {v:Value}:(a.put d v).tmps.size=a.tmps.size:=by cases d<;>simp [Act.put]
theorem Fr.next {b0:Nat} {N:Wd} {ls:List Nat} {g':af} {w':World} {a':Act} (h:Fr P glob g s B w a env N b0 ls) (hs:Sim P glob g' s' B w' (Act.tm a') env') (hsz:a'.tmps.size=a.tmps.size) (hd:a'.defers=a.defers)
  (hle:g.le s.length g' s'.length) (he:∀l:Nat,s[l]?=some eH.dfr→s'[l]?=some eH.dfr) (hp:∀k,k<N.lo→Act.tm a' k=Act.tm a k):Fr P glob g' s' B w' a' env' N b0 ls:=by
 refine ⟨hs,hsz.trans h.sz,hd.trans (h.dl.trans (congrArg (·++N.dd) (List.map_congr_left fun l hl=>?_))),fun l hl=>he l (h.df l hl),h.nd,h.lo,fun p hpn=>?_⟩
 ·rw [hle.L l (List.getElem?_eq_some_iff.1 (h.df l hl)).1]
 ·obtain ⟨q1,q2,q3⟩:=h.pin p hpn
  exact ⟨q1,Nat.lt_of_lt_of_le q2 hle.n,by rw [hp _ q1,q3,hle.L _ q2]⟩
theorem Fr.put {b0:Nat} {N:Wd} {ls:List Nat} {g':af} {w':World} {v:Value} {dst:Option Nat} (h:Fr P glob g s B w a env N b0 ls) (hd:∀d,dst=some d→d<N.n∧N.lo≤d) (hs:Sim P glob g' s' B w' (Act.tm a) env') (hn:New g' s'.length B w' (Act.tm a) env' e v)
  (href:∀d,dst=some d→e.refers d=false) (hle:g.le s.length g' s'.length) (he:∀l:Nat,s[l]?=some eH.dfr→s'[l]?=some eH.dfr):
  Fr P glob g' s' B w' (a.put dst v) (match dst with|some d=>put env' d e|none=>env') N b0 ls:=by
 cases dst with
 | none=>exact h.next hs rfl rfl hle he (fun _ _=>rfl)
 | some d=>
  refine h.next ?_ WJ put_defers hle he (fun k hk=>?_)
  ·rw [TS (by rw [h.sz];exact (hd d rfl).1)]
   exact hs.put hn d (href d rfl)
  ·rw [TS (by rw [h.sz];exact (hd d rfl).1)]
   exact if_neg (by have:=(hd d rfl).2;omega)
theorem getD_some {tmps:Array Value} {k:Nat} {v:Value} (h:tmps.getD k undef=v) (hv:v≠undef):tmps[k]?=some v:=by
 rw [Array.getD_eq_getD_getElem?] at h
 cases hk:tmps[k]? with
 | none=>rw [hk] at h;simp at h;exact absurd h.symm hv
 | some u=>rw [hk] at h;simp at h;rw [h]
theorem BZ {ops:Array Oper} {gd:Option (Nat×Bool)} (hg:FD ops o.guard gd=true) (h:dH g s.length B w (Act.tm a) env) {b:Bool} (hw:aZ env gd=some b):Region.wanted o (yielded ops a.tmps)=b:=by
 unfold Region.wanted
 cases hog:o.guard with
 | none=>
  cases gd with
  | none=>simp [aZ] at hw;subst hw;rfl
  | some p=>simp [FD,hog] at hg
 | some p=>
  obtain ⟨j,want⟩:=p
  cases gd with
  | none=>simp [FD,hog] at hg
  | some q=>
  obtain ⟨k,want'⟩:=q
  simp only [FD,hog] at hg
  simp only []
  simp only [Bool.and_eq_true,beq_iff_eq] at hg
  obtain ⟨rfl,hd⟩:=hg
  simp only [aZ] at hw
  split at hw
  ·rename_i x hk
   cases hw
   have hr:=h.rel k _ hk
   have ht:Act.tm a k=.bool x:=jS hr
   have:=getD_some (tmps:=a.tmps) (k:=k) ht (by simp [undef])
   simp only [yielded,hd,Option.bind_some,this]
   cases x<;>cases want<;>rfl
  ·rename_i hk
   cases hw
   have hr:Rep g s.length (Act.tm a k) (.tu []):=h.rel k _ hk
   have ht:Act.tm a k=undef:=by
    generalize Act.tm a k=t at hr
    cases hr with
    | tu vs _ hl _=>
     have:vs=#[]:=Array.eq_empty_of_size_eq_zero (by simpa using hl)
     subst this;rfl
   have hy:yielded ops a.tmps j=none:=by
    simp only [yielded,hd,Option.bind_some]
    cases hk2:a.tmps[k]? with
    | none=>rfl
    | some u=>
     have:u=undef:=by
      rw [←ht];simp [Act.tm,Array.getD_eq_getD_getElem?,hk2]
     subst this;rfl
   simp only [hy]
   cases want<;>rfl
  ·cases hw
theorem Qx {ao:AOp} (hc:au P o.op ao=true):∀c,o.op≠.defer c:=by
 intro c hd
 rw [hd] at hc
 cases ao<;>simp [au] at hc
theorem EO {F:Fence} {n i b0:Nat} {N:Wd} {ls:List Nat} {ops:Array Oper} {ao:ak} {Q:Exit→Act→World→Prop} {K:Act→World→Prop} (hcall:l7 qt P glob call) (hext:dO call) (hF:isF F) (hcx:bQ cx s) (h:Fr P glob g s B w a env N b0 ls)
  (hi:ops[i]?=some o) (hc:sK P N ops o ao=true) (hr:bD glob call cx ao env s=.norm env' s')
  (hK:∀g' w' a',Step qt g s.length B w g' s'.length w'→Fr P glob g' s' B w' a' env' N b0 ls→K a' w'):wpOpIn F n P ops Q i K a w:=by
 have hext2:Ext cx s s':=jR hext hcx (o:=ao) (by rw [hr];rfl)
 simp only [sK,Bool.and_eq_true,beq_iff_eq] at hc
 obtain ⟨⟨⟨hdst,hdN⟩,hguard⟩,hop⟩:=hc
 have hdN':∀d,o.dst=some d→d<N.n∧N.lo≤d:=fun d hd=>by rw [hd] at hdN;simpa using hdN
 unfold wpOpIn
 rw [hi]
 simp only []
 unfold bD at hr
 split at hr
 ·cases hr
 ·rename_i hw
  have hwant:=BZ hguard h.sim.env hw
  rw [hwant]
  simp only [Bool.false_eq_true,if_false]
  refine ⟨fun f _=>hF.fn f, ?_⟩
  have hnew:New g s.length B w (Act.tm a) env (.v (.tu [])) undef:=.v (.tu #[] [] rfl (fun i hi=>by simp at hi))
  rw [←hdst] at hr
  cases hd:o.dst with
  | none=>rw [hd] at hr;simp at hr;obtain ⟨rfl,rfl⟩:=hr;exact hK g w _ (.refl _ _ _ _) h
  | some d=>
   rw [hd] at hr;simp at hr;obtain ⟨rfl,rfl⟩:=hr
   have:=h.put (dst:=some d) (fun d' hd'=>by cases hd';exact hdN' d hd) h.sim hnew (fun d' _=>by simp [EV.refers]) (.refl _ _) (fun _ hl=>hl)
   exact hK g w _ (.refl _ _ _ _) this
 ·rename_i hw
  have hwant:=BZ hguard h.sim.env hw
  rw [hwant]
  simp only [if_true]
  refine ⟨fun f _=>hF.fn f, ?_⟩
  rw [Oper.semAt_eq _ _ _ (Qx hop)]
  split at hr
  ·cases hr
  ·cases hr
  ·rename_i e1 env1 s1 ha
   -- the entry that is set
   have hfin:∀g' w' v,Step qt g s.length B w g' s1.length w'→Sim P glob g' s1 B w' (Act.tm a) env1→New g' s1.length B w' (Act.tm a) env1 e1 v→K (a.put o.dst v) w':=by
    intro g' w' v hs hsim hnew
    rw [←hdst] at hr
    cases hd:o.dst with
    | none=>
     rw [hd] at hr;simp at hr;obtain ⟨rfl,rfl⟩:=hr
     have:=h.put (dst:=none) (fun d' hd'=>by cases hd') hsim hnew (fun d' hd'=>by cases hd') hs.le hext2.dfr
     exact hK g' w' _ hs this
    | some d=>
     rw [hd] at hr
     simp only [] at hr
     split at hr
     ·cases hr
     ·rename_i href
      simp at hr;obtain ⟨rfl,rfl⟩:=hr
      have:=h.put (dst:=some d) (fun d' hd'=>by cases hd';exact hdN' d hd) hsim hnew (fun d' hd'=>by cases hd';simpa using href) hs.le hext2.dfr
      exact hK g' w' _ hs this
   by_cases hcl:∃f as,ao.op=.call f as∨ao.op=.callp f as∨∃d k,ao.op=.callh d f as k
   ·obtain ⟨f,as,hcop⟩:=hcl
    replace ha:aop glob call cx env s (.call f as)=.ok e1 env1 s1:=by
     rcases hcop with hcop|hcop|⟨d,k,hcop⟩<;>rw [hcop] at ha
     ·exact ha
     ·exact ha
     ·exact UE ha (by simp)
    replace hop:au P o.op (.call f as)=true:=by rcases hcop with hcop|hcop|⟨d,k,hcop⟩<;>(rw [hcop] at hop;exact hop)
    simp only [aop] at ha
    split at ha
    ·rename_i fv args env2 hfv hargs
     split at ha
     ·rename_i r s2 hcr
      cases ha
      simp only [au] at hop
      split at hop
      ·rename_i c hoc
       split at hop
       ·rename_i f' hcal
        simp only [Bool.and_eq_true] at hop
        obtain ⟨g1,s1',m1,r1⟩:=qB hop.2 h.sim hargs
        have hfr:Rep g1 s.length (a.eval f') fv:=(ai (a:=a) hop.1 h.sim.env h.sim.base.glob hfv).mono s1'.le
        have hex:execOp a.eval o=callOf (a.eval f') (c.args.map a.eval):=by
         simp only [execOp,hoc,resolve,hcal,callOf]
        have r1':aB g1 s.length (c.args.map a.eval).toList args:=by simpa using r1
        have hback:∀v w',(∃v' g',Ending.returned v=.returned v'∧Step qt g1 s.length w.heap.size w g' s1.length w'∧Base P glob g' s1 w'∧Rep g' s1.length v' r)→K (a.put o.dst v) w':=by
         rintro v w' ⟨v',g',hv,hst,hb,hrep⟩
         cases hv
         have hB:=m1.B
         have hst':Step qt g1 s.length B w g' s1.length w':=hst.lower hB
         refine hfin g' w' v (s1'.weak.trans hst') ⟨hb, ?_,by have:=hst.size;omega⟩ (.v hrep)
         refine m1.env.next hst.le (fun k e hk ho b hbk=>?_)
         have hlt:=yt m1.env hk ho hbk
         have hoff:=m1.env.off k e hk ho b hbk
         exact ⟨hst.keep b hlt hoff,hst.m b hlt hoff,hst.mm b hlt,fun ht=>(hst.new b ht).elim id (fun hh=>by omega)⟩
        rw [hex]
        cases hyl:fv with
        | yl l=>
         rw [hyl] at hcr hfr
         obtain ⟨l',fid,tmps,asg,body,q1,q2⟩:=hcall.yl l args s cx r _ hcx hcr g1 w _ _ m1.base hfr r1'
         rw [q1,Oper.uponIn_round]
         refine ⟨fun hd=>by rw [hF.depth] at hd;simp at hd,hF.rounds ((q2 (n - 1)).mono fun e w' he=>?_)⟩
         obtain ⟨v,g',rfl,hrest⟩:=he
         exact hback v w' ⟨v,g',rfl,hrest⟩
        | _=>
         all_goals
          obtain ⟨fid,args',q1,q2⟩:=hcall.fn fv args s cx r _ hcx (by rw [hyl];intro l hl;cases hl) hcr g1 w _ _ m1.base hfr r1'
          rw [q1,Oper.uponIn_enter]
          refine ⟨fun hd=>by rw [hF.depth] at hd;simp at hd,hF.calls ((q2 (n - 1)).mono fun e w' he=>?_)⟩
          obtain ⟨v,g',rfl,hrest⟩:=he
          exact hback v w' ⟨v,g',rfl,hrest⟩
       ·cases hop
      ·cases hop
     ·cases ha
     ·cases ha
    ·cases ha
   ·obtain ⟨v,w',g',hx,hst,hsim,hnew⟩:=XJ (o:=o) h.sim hop (fun f as=>⟨fun hfa=>hcl ⟨f,as,.inl hfa⟩,fun hfa=>hcl ⟨f,as,.inr (.inl hfa)⟩,fun d k hfa=>hcl ⟨f,as,.inr (.inr ⟨d,k,hfa⟩)⟩⟩) ha
    rcases hx with hx|⟨hx,rfl⟩
    ·rw [hx,Oper.uponIn_value];exact hfin g' w' v hst.weak hsim hnew
    ·rw [hx,Oper.uponIn_skip];exact hfin g' w' _ hst.weak hsim hnew
theorem Yj {op:AOp} {v:AV} (h:aop glob call cx env s op=.pan v s'):(∃f as fv args env2,(op=.call f as∨op=.callp f as∨∃d k,op=.callh d f as k)∧rd glob env f=some fv∧wF glob env as=some (args,env2)∧call fv args s cx=.pan v s')∨
  ∃x t a env2,op=.panic x∧esc glob env x=some (.ifc t a,env2)∧v=.ifc t a∧s'=s:=by
 cases op with
 | call f args=>
  simp only [aop] at h
  split at h
  ·rename_i h1 h2
   split at h
   ·cases h
   ·rename_i hc;cases h;exact .inl ⟨_,_,_,_,_,.inl rfl,h1,h2,hc⟩
   ·cases h
  ·cases h
 | callp f args=>
  simp only [aop] at h
  split at h
  ·rename_i h1 h2
   split at h
   ·cases h
   ·rename_i hc;cases h;exact .inl ⟨_,_,_,_,_,.inr (.inl rfl),h1,h2,hc⟩
   ·cases h
  ·cases h
 | loadw n a bs=>
  exfalso
  simp only [aop,okv] at h
  (repeat' split at h)<;>cases h
 | loadv a k off=>
  exfalso
  simp only [aop] at h
  (repeat' split at h)<;>cases h
 | callh d f args k=>
  simp only [aop] at h
  split at h
  ·cases h
  ·split at h
   ·rename_i h1 h2
    split at h
    ·split at h<;>cases h
    ·rename_i hc;cases h;exact .inl ⟨_,_,_,_,_,.inr (.inr ⟨_,_,rfl⟩),h1,Oe h2,hc⟩
    ·cases h
   ·cases h
 | panic x=>
  simp only [aop] at h
  split at h
  ·rename_i h1;cases h;exact .inr ⟨_,_,_,_,rfl,h1,rfl,rfl⟩
  ·cases h
 | len k x=>
  exfalso
  match k with
  | 0=>simp only [aop] at h;(repeat' split at h)<;>cases h
  | 1=>simp only [aop] at h;(repeat' split at h)<;>cases h
  | 2=>simp only [aop] at h;(repeat' split at h)<;>cases h
  | k+3=>simp only [aop] at h;cases h
 | _=>
  exfalso
  simp only [aop,okv] at h
  (repeat' split at h)<;>cases h
theorem Fr.bare {b0:Nat} {N:Wd} {ls:List Nat} (h:Fr P glob g s B w a env N b0 ls):Fr P glob g s B w a [] N b0 ls:=
 ⟨⟨h.sim.base,h.sim.env.keep [],h.sim.B⟩,h.sz,h.dl,h.df,h.nd,h.lo,h.pin⟩
theorem WR {F:Fence} {n i b0:Nat} {N:Wd} {ls:List Nat} {ops:Array Oper} {ao:ak} {v:AV} {Q:Exit→Act→World→Prop} {K:Act→World→Prop} (hcall:l7 qt P glob call) (hext:dO call) (hF:isF F) (hcx:bQ cx s) (h:Fr P glob g s B w a env N b0 ls)
  (hi:ops[i]?=some o) (hc:sK P N ops o ao=true) (hr:bD glob call cx ao env s=.pan v s')
  (hQ:∀u g' w' a',Step qt g s.length B w g' s'.length w'→Fr P glob g' s' B w' a' [] N b0 ls→Rep g' s'.length u v→Q (.panic [{ v:=u,recovered:=false }]) a' w'):wpOpIn F n P ops Q i K a w:=by
 have hext2:Ext cx s s':=jR hext hcx (o:=ao) (by rw [hr];rfl)
 simp only [sK,Bool.and_eq_true,beq_iff_eq] at hc
 obtain ⟨⟨⟨hdst,hdN⟩,hguard⟩,hop⟩:=hc
 unfold wpOpIn
 rw [hi]
 simp only []
 unfold bD at hr
 split at hr
 ·cases hr
 ·split at hr<;>cases hr
 ·rename_i hw
  have hwant:=BZ hguard h.sim.env hw
  rw [hwant]
  simp only [if_true]
  refine ⟨fun f _=>hF.fn f, ?_⟩
  rw [Oper.semAt_eq _ _ _ (Qx hop)]
  split at hr
  ·cases hr
  ·rename_i v1 s1 ha
   cases hr
   rcases Yj ha with ⟨f,as,fv,args,env2,hcop,hfv,hargs,hcr⟩|⟨x,t,av,env2,hpo,hx,rfl,rfl⟩
   ·replace hop:au P o.op (.call f as)=true:=by rcases hcop with hcop|hcop|⟨d,k,hcop⟩<;>(rw [hcop] at hop;exact hop)
    simp only [au] at hop
    split at hop
    ·rename_i c hoc
     split at hop
     ·rename_i f' hcal
      simp only [Bool.and_eq_true] at hop
      obtain ⟨g1,s1',m1,r1⟩:=qB hop.2 h.sim hargs
      have hfr:Rep g1 s.length (a.eval f') fv:=(ai (a:=a) hop.1 h.sim.env h.sim.base.glob hfv).mono s1'.le
      have hex:execOp a.eval o=callOf (a.eval f') (c.args.map a.eval):=by
       simp only [execOp,hoc,resolve,hcal,callOf]
      have r1':aB g1 s.length (c.args.map a.eval).toList args:=by simpa using r1
      obtain ⟨fid,args',q1,q2⟩:=hcall.pan fv args s cx v s' hcx hcr g1 w _ _ m1.base hfr r1'
      rw [hex,q1,Oper.uponIn_enter]
      refine ⟨fun hd=>by rw [hF.depth] at hd;simp at hd,hF.calls ((q2 (n - 1)).mono fun e w' he=>?_)⟩
      obtain ⟨u,g',rfl,hst,hb,hrep⟩:=he
      have hB:=m1.B
      have hst':Step qt g1 s.length B w g' s'.length w':=hst.lower hB
      have hst2:Step qt g s.length B w g' s'.length w':=s1'.weak.trans hst'
      have hf0:=h.bare
      refine hQ u g' w' a hst2 ?_ hrep
      refine hf0.next ⟨hb, ?_,by have:=hst.size;omega⟩ rfl rfl hst2.le hext2.dfr (fun _ _=>rfl)
      exact ⟨fun k e hk=>by simp [lk] at hk,fun k k' e e' hk=>by simp [lk] at hk,fun k e hk=>by simp [lk] at hk,fun k e j hk=>by simp [lk] at hk⟩
     ·cases hop
    ·cases hop
   ·rw [hpo] at hop
    simp only [au] at hop
    split at hop
    ·rename_i x' hox
     have hex:execOp a.eval o=(do pure (.value (←Instr.panic (a.eval x')))):=by simp only [execOp,hox]
     obtain ⟨g1,s1',m1,r1⟩:=jZ hop h.sim hx
     obtain ⟨vv,hvv,hrv⟩:∃vv,a.eval x'=.iface t vv∧Rep g1 s'.length vv av:=by
      generalize a.eval x'=z at r1
      cases r1 with
      | ifc _ vv _ hr=>exact ⟨vv,rfl,hr⟩
     have hrun:(execOp a.eval o).run P w=.halt (.panic (.iface t vv)) w:=by rw [hex,hvv];rfl
     rw [hrun,Oper.uponIn_panic]
     have hst2:Step qt g s'.length B w g1 s'.length w:=s1'.weak
     have hf0:=h.bare
     refine hQ _ g1 w a hst2 ?_ (.ifc t vv av hrv)
     refine hf0.next ⟨m1.base, ?_,m1.B⟩ rfl rfl hst2.le (fun _ hl=>hl) (fun _ _=>rfl)
     exact ⟨fun k e hk=>by simp [lk] at hk,fun k k' e e' hk=>by simp [lk] at hk,fun k e hk=>by simp [lk] at hk,fun k e j hk=>by simp [lk] at hk⟩
    ·cases hop
  ·split at hr
   ·split at hr<;>cases hr
   ·cases hr
end Go.Ai
namespace Go.Ai
variable {qt:Prop} {P:Program} {glob:Nat→Option (List AV)} {g:af} {s:St} {B:Nat} {w:World} {env:Env} {a:Act} {call:AV→List AV→St→Ctx→CO} {cx:Ctx} {env':Env} {s':St}
theorem Ba {F:Fence} {n b0:Nat} {N:Wd} {ls:List Nat} {ops:Array Oper} {Q:Exit→Act→World→Prop} (hcall:l7 qt P glob call) (hext:dO call) (hF:isF F):
  ∀(os:List Oper) (aos:List ak) (i:Nat) {g:af} {s:St} {w:World} {a:Act} {env:Env},ops.toList.drop i=os→iw P N ops os aos=true→bQ cx s→Fr P glob g s B w a env N b0 ls→
    gq glob call cx aos env s=.norm env' s'→(∀g' w' a',Step qt g s.length B w g' s'.length w'→Fr P glob g' s' B w' a' env' N b0 ls→Q .normal a' w')→wpOpsIn F n P ops Q (List.range' i os.length) a w
 | [],aos,i,g,s,w,a,env,hos,hc,hcx,h,hr,hQ=>by
  cases aos with
  | nil=>simp [gq] at hr;obtain ⟨rfl,rfl⟩:=hr;exact hQ g w a (.refl _ _ _ _) h
  | cons x r=>simp [iw] at hc
 | o::os,aos,i,g,s,w,a,env,hos,hc,hcx,h,hr,hQ=>by
  cases aos with
  | nil=>simp [iw] at hc
  | cons ao aos=>
   simp only [iw,Bool.and_eq_true] at hc
   have hi:ops[i]?=some o:=by
    have:(ops.toList.drop i)[0]?=some o:=by rw [hos];rfl
    simpa using this
   have hos':ops.toList.drop (i+1)=os:=by
    have:=congrArg List.tail hos
    simpa using this
   unfold gq at hr
   split at hr
   ·rename_i env1 s1 hr1
    simp only [List.length_cons,List.range'_succ]
    rw [wpOpsIn_cons]
    have he:Ext cx s s1:=jR hext hcx (o:=ao) (by rw [hr1];rfl)
    refine EO hcall hext hF hcx h hi hc.1 hr1 (fun g1 w1 a1 st1 h1=>?_)
    exact Ba hcall hext hF os aos (i+1) hos' hc.2 (hcx.ext he) h1 hr (fun g2 w2 a2 st2 h2=>hQ g2 w2 a2 (st1.trans st2) h2)
   ·rename_i hne
    exact absurd hr (by intro hh;exact hne _ _ hh)
theorem UU {F:Fence} {n b0:Nat} {N:Wd} {ls:List Nat} {ops:Array Oper} {v:AV} {Q:Exit→Act→World→Prop} (hcall:l7 qt P glob call) (hext:dO call) (hF:isF F):
  ∀(os:List Oper) (aos:List ak) (i:Nat) {g:af} {s:St} {w:World} {a:Act} {env:Env},ops.toList.drop i=os→iw P N ops os aos=true→bQ cx s→Fr P glob g s B w a env N b0 ls→
    gq glob call cx aos env s=.pan v s'→(∀u g' w' a',Step qt g s.length B w g' s'.length w'→Fr P glob g' s' B w' a' [] N b0 ls→Rep g' s'.length u v→Q (.panic [{ v:=u,recovered:=false }]) a' w')→wpOpsIn F n P ops Q (List.range' i os.length) a w
 | [],aos,i,g,s,w,a,env,hos,hc,hcx,h,hr,hQ=>by
  cases aos with
  | nil=>simp [gq] at hr
  | cons x r=>simp [iw] at hc
 | o::os,aos,i,g,s,w,a,env,hos,hc,hcx,h,hr,hQ=>by
  cases aos with
  | nil=>simp [iw] at hc
  | cons ao aos=>
   simp only [iw,Bool.and_eq_true] at hc
   have hi:ops[i]?=some o:=by
    have:(ops.toList.drop i)[0]?=some o:=by rw [hos];rfl
    simpa using this
   have hos':ops.toList.drop (i+1)=os:=by
    have:=congrArg List.tail hos
    simpa using this
   simp only [List.length_cons,List.range'_succ]
   rw [wpOpsIn_cons]
   unfold gq at hr
   split at hr
   ·rename_i env1 s1 hr1
    have he:Ext cx s s1:=jR hext hcx (o:=ao) (by rw [hr1];rfl)
    refine EO hcall hext hF hcx h hi hc.1 hr1 (fun g1 w1 a1 st1 h1=>?_)
    exact UU hcall hext hF os aos (i+1) hos' hc.2 (hcx.ext he) h1 hr (fun u g2 w2 a2 st2 h2 hv=>hQ u g2 w2 a2 (st1.trans st2) h2 hv)
   ·exact WR hcall hext hF hcx h hi hc.1 hr hQ
theorem N9 {o:ak} {out:Out} (h:bD glob call cx o env s=out):out=.fail∨(∃v s1,out=.pan v s1)∨∃e1 s1,out=.norm e1 s1:=by
 unfold bD at h
 split at h
 ·exact .inl h.symm
 ·split at h<;>exact .inr (.inr ⟨_,_,h.symm⟩)
 ·split at h
  ·exact .inl h.symm
  ·exact .inr (.inl ⟨_,_,h.symm⟩)
  ·split at h
   ·split at h
    ·exact .inl h.symm
    ·exact .inr (.inr ⟨_,_,h.symm⟩)
   ·exact .inr (.inr ⟨_,_,h.symm⟩)
theorem LD:∀(l:List ak) {env:Env} {s:St} {out:Out},gq glob call cx l env s=out→out=.fail∨(∃v s1,out=.pan v s1)∨∃e1 s1,out=.norm e1 s1
 | [],env,s,out,h=>by simp [gq] at h;exact .inr (.inr ⟨_,_,h.symm⟩)
 | o::r,env,s,out,h=>by
  unfold gq at h
  split at h
  ·exact LD r h
  ·exact N9 h
theorem Vb {o:ak} {out:Out} (h:bV glob call cx o env s=out):out=.fail∨(∃v s1,out=.pan v s1)∨∃e1 s1,out=.norm e1 s1:=by
 unfold bV at h
 split at h
 ·unfold xE at h
  split at h
  ·exact .inl h.symm
  ·split at h
   ·exact .inr (.inr ⟨_,_,h.symm⟩)
   ·split at h
    ·exact .inr (.inr ⟨_,_,h.symm⟩)
    ·exact .inl h.symm
 ·exact N9 h
theorem IZ {aops:List ak}:∀(l:List Nat) {env:Env} {s:St} {out:Out},dX glob call cx aops l env s=out→out=.fail∨(∃v s1,out=.pan v s1)∨∃e1 s1,out=.norm e1 s1
 | [],env,s,out,h=>by simp [dX] at h;exact .inr (.inr ⟨_,_,h.symm⟩)
 | o::r,env,s,out,h=>by
  unfold dX at h
  split at h
  ·exact .inl h.symm
  ·split at h
   ·exact IZ r h
   ·exact Vb h
theorem Sz {aops:List ak} {ord:Option (List Nat×List Nat)} {out:Out} (h:kP glob call cx aops env s ord=out):out=.fail∨(∃v s1,out=.pan v s1)∨∃e1 s1,out=.norm e1 s1:=by
 cases ord with
 | none=>exact LD _ h
 | some p=>
  simp only [kP] at h
  rcases IZ (glob:=glob) (call:=call) (cx:=cx) (aops:=aops) p.1 (env:=AX env p.2) (s:=s) rfl with hd|⟨v,s1,hd⟩|⟨e1,s1,hd⟩
  ·rw [hd] at h;exact .inl h.symm
  ·rw [hd] at h
   replace h:yj glob call cx aops p.1 (AX env p.2) s=out:=h
   by_cases hf:out=.fail
   ·exact .inl hf
   ·obtain ⟨_,_,_,_,v',s2,_,_,_,_,h3⟩:=zA h hf
    exact .inr (.inl ⟨v',s2,h3⟩)
  ·rw [hd] at h;exact .inr (.inr ⟨e1,s1,h.symm⟩)
def FZ (qt:Prop) (P:Program) (glob:Nat→Option (List AV)) (call:AV→List AV→St→Ctx→CO):Prop:=
 (∀{F:Fence} {n id B b0:Nat} {N:Wd} {ls:List Nat} {ops:Array Oper} {aops:List ak} {π ts:List Nat} {Q:Exit→Act→World→Prop} {cx:Ctx} {g:af} {s s':St} {w:World} {a:Act} {env env':Env},isF F→iw P N ops ops.toList aops=true→JW ops aops π=true→bQ cx s→
  Fr P glob g s B w a env N b0 ls→kP glob call cx aops env s (some (π,ts))=.norm env' s'→(∀g' w' a',Step qt g s.length B w g' s'.length w'→Fr P glob g' s' B w' a' env' N b0 ls→Q .normal a' w')→
  (Code.region id ops true).wpIn F n P Q a w)∧
 ∀{F:Fence} {n id B b0:Nat} {N:Wd} {ls:List Nat} {ops:Array Oper} {aops:List ak} {π ts:List Nat} {Q:Exit→Act→World→Prop} {cx:Ctx} {g:af} {s s':St} {w:World} {a:Act} {env:Env} {v:AV},isF F→iw P N ops ops.toList aops=true→JW ops aops π=true→bQ cx s→
  Fr P glob g s B w a env N b0 ls→kP glob call cx aops env s (some (π,ts))=.pan v s'→(∀u g' w' a',Step qt g s.length B w g' s'.length w'→Fr P glob g' s' B w' a' [] N b0 ls→Rep g' s'.length u v→Q (.panic [{ v:=u,recovered:=false }]) a' w')→
  (Code.region id ops true).wpIn F n P Q a w
def PX (qt:Prop) (P:Program) (glob:Nat→Option (List AV)) (g:af) (s:St) (B:Nat) (w:World) (N:Wd) (b0:Nat):Out→Exit→Act→World→Prop
 | .norm env' s',e,a',w'=>e=.normal∧∃g' ls',Step qt g s.length B w g' s'.length w'∧Fr P glob g' s' B w' a' env' N b0 ls'
 | .exit id env' s',e,a',w'=>e=.exit id∧∃g' ls',Step qt g s.length B w g' s'.length w'∧Fr P glob g' s' B w' a' env' N b0 ls'
 | .ret env' s',e,a',w'=>e=.ret∧∃g' ls',Step qt g s.length B w g' s'.length w'∧Fr P glob g' s' B w' a' env' N b0 ls'
 | .goto l env' s',e,a',w'=>e=.goto l∧∃g' ls',Step qt g s.length B w g' s'.length w'∧Fr P glob g' s' B w' a' env' N b0 ls'
 | .pan v s',e,a',w'=>∃u,e=.panic [{ v:=u,recovered:=false }]∧∃g' ls',Step qt g s.length B w g' s'.length w'∧Fr P glob g' s' B w' a' [] N b0 ls'∧Rep g' s'.length u v
 | _,_,_,_=>False
theorem PX.step {g0:af} {s0:St} {w0:World} {b0:Nat} {N:Wd} {out:Out} {e:Exit} {a':Act} {w':World} (hs:Step qt g0 s0.length B w0 g s.length w) (h:PX qt P glob g s B w N b0 out e a' w'):PX qt P glob g0 s0 B w0 N b0 out e a' w':=by
 cases out with
 | norm env1 s1=>obtain ⟨h1,g',ls',h2,h3⟩:=h;exact ⟨h1,g',ls',hs.trans h2,h3⟩
 | exit id env1 s1=>obtain ⟨h1,g',ls',h2,h3⟩:=h;exact ⟨h1,g',ls',hs.trans h2,h3⟩
 | ret env1 s1=>obtain ⟨h1,g',ls',h2,h3⟩:=h;exact ⟨h1,g',ls',hs.trans h2,h3⟩
 | goto l env1 s1=>obtain ⟨h1,g',ls',h2,h3⟩:=h;exact ⟨h1,g',ls',hs.trans h2,h3⟩
 | fail=>exact h
 | pan v s1=>obtain ⟨u,h1,g',ls',h2,h3,h4⟩:=h;exact ⟨u,h1,g',ls',hs.trans h2,h3,h4⟩
theorem exists_least (p:Nat→Prop):∀k,p k→∃m,p m∧∀j,p j→m≤j:=by
 intro k
 induction k using Nat.strongRecOn with
 | _ k ih=>
  intro hk
  by_cases h:∃j,j<k∧p j
  ·obtain ⟨j,hj,hp⟩:=h;exact ih j hj hp
  ·exact ⟨k,hk,fun j hj=>Nat.le_of_not_lt fun hlt=>h ⟨j,hlt,hj⟩⟩
theorem NR {F:Fence} {n:Nat} {c:Code} {Q:Exit→Act→World→Prop} (Inv:Nat→Act→World→Prop) (h0:∀a w,¬Inv 0 a w)
  (hs:∀k a w,Inv (k+1) a w→c.wpIn F n P (Exit.then (Inv k) Q) a w) (k:Nat) (h:Inv k a w):(Code.loop c).wpIn F n P Q a w:=by
 classical
 let least:Act→World→Nat:=fun a w=>if hx:∃k,Inv k a w then (exists_least (fun k=>Inv k a w) hx.choose hx.choose_spec).choose else 0
 have hle:∀a w k,Inv k a w→least a w≤k∧Inv (least a w) a w:=by
  intro a w k hk
  have hx:∃k,Inv k a w:=⟨k,hk⟩
  have hsp:=(exists_least (fun k=>Inv k a w) hx.choose hx.choose_spec).choose_spec
  simp only [least,hx,dif_pos]
  exact ⟨hsp.2 k hk,hsp.1⟩
 refine wpIn_loop (fun a w=>∃k,Inv k a w) least ⟨k,h⟩ (fun a w ⟨k,hk⟩=>?_)
 obtain ⟨_,h2⟩:=hle a w k hk
 cases hl:least a w with
 | zero=>rw [hl] at h2;exact absurd h2 (h0 a w)
 | succ m=>
  rw [hl] at h2
  refine wpIn_mono (hs m a w h2) (fun e a' w' hq=>?_)
  cases e with
  | normal=>exact ⟨⟨m,hq⟩,by have:=(hle a' w' m hq).1;omega⟩
  | _=>exact hq
theorem Uj {body:Env→St→Out} {keep:List Nat}:∀k,qR body keep 0 env s=.fail∧qR body keep (k+1) env s=(match body (ig env keep) s with | .norm env s=>qR body keep k env s|out=>out):=fun _=>⟨rfl,rfl⟩
def Xa (l:Nat) (J:Act→World→Prop) (Q:Exit→Act→World→Prop):Exit→Act→World→Prop
 | .goto l',a,w=>l'=l∧J a w
 | e,a,w=>Q e a w
theorem mW {b:Frame} {k:List Item} {cs:List Frame} {c:Code}:step P (lone (b.atR a (.code (.scope c)::k)) cs w)=.next (lone (b.atR a (.code c::.inScope c::k)) cs w):=
 step_lone_go (by simp [stepG,stepG.exec,Frame.atR])
theorem GL {b:Frame} {k:List Item} {cs:List Frame} {c:Code}:step P (lone (b.atR a (.inScope c::k)) cs w)=.next (lone (b.atR a k) cs w):=
 step_lone_go (by simp [stepG,stepG.exec,Frame.atR])
theorem ML {F:Fence} {n:Nat} {c rest:Code} {l:Nat} {Q:Exit→Act→World→Prop} (hf:findLabel c l=some rest) (Inv:Nat→Act→World→Prop) (h0:∀a w,¬Inv 0 a w)
  (first:c.wpIn F n P (Xa l (fun a w=>∃k,Inv k a w) Q) a w) (hs:∀k a w,Inv (k+1) a w→rest.wpIn F n P (Xa l (Inv k) Q) a w):(Code.scope c).wpIn F n P Q a w:=by
 intro b k cs hro hb hr
 have hg:gotoIn l (.inScope c::k)=some (.code rest::.inScope c::k):=by simp [gotoIn,hf]
 have hx:∀id,exitTo id (.inScope c::k)=exitTo id k:=fun id=>by simp [exitTo]
 have key:∀j a w,Inv j a w→∃e a' w',Q e a' w'∧ArrivesIn (Machine.fenced P F) P (lone (b.atR a (.code rest::.inScope c::k)) cs w) b k cs e a' w':=by
  intro j
  induction j with
  | zero=>intro a w hi;exact absurd hi (h0 a w)
  | succ j ih=>
   intro a w hi
   obtain ⟨e,a₁,w₁,hq,harr⟩:=hs j a w hi b (.inScope c::k) cs hro hb hr
   cases e with
   | normal=>exact ⟨.normal,a₁,w₁,hq,StepsIn.trans harr (.one (fenced_calm hb hr rfl) GL)⟩
   | exit id=>exact ⟨.exit id,a₁,w₁,hq,fun k' hk=>harr.1 k' (by rw [hx];exact hk),fun hr' hk=>harr.2 hr' (by rw [hx];exact hk)⟩
   | goto l'=>
    obtain ⟨rfl,hJ⟩:=hq
    obtain ⟨e₂,a₂,w₂,hq₂,harr₂⟩:=ih a₁ w₁ hJ
    exact ⟨e₂,a₂,w₂,hq₂,.of_steps (harr.1 _ hg) harr₂⟩
   | ret=>exact ⟨_,a₁,w₁,hq,harr⟩
   | panic ch=>exact ⟨_,a₁,w₁,hq,harr⟩
   | outgrown=>exact ⟨_,a₁,w₁,hq,harr⟩
 have s0:(lone (b.atR a (.code (.scope c)::k)) cs w).fenced P F:=fenced_calm hb hr rfl
 obtain ⟨e,a₁,w₁,hq,harr⟩:=first b (.inScope c::k) cs hro hb hr
 cases e with
 | normal=>exact ⟨.normal,a₁,w₁,hq,.head s0 mW (StepsIn.trans harr (.one (fenced_calm hb hr rfl) GL))⟩
 | exit id=>exact ⟨.exit id,a₁,w₁,hq,fun k' hk=>.head s0 mW (harr.1 k' (by rw [hx];exact hk)),fun hr' hk=>let ⟨k₁,h1,h2⟩:=harr.2 hr' (by rw [hx];exact hk);⟨k₁,h1,.head s0 mW h2⟩⟩
 | goto l'=>
  obtain ⟨rfl,j,hJ⟩:=hq
  obtain ⟨e₂,a₂,w₂,hq₂,harr₂⟩:=key j a₁ w₁ hJ
  exact ⟨e₂,a₂,w₂,hq₂,.of_steps (.head s0 mW (harr.1 _ hg)) harr₂⟩
 | ret=>exact ⟨_,a₁,w₁,hq,.of_steps (.one s0 mW) harr⟩
 | panic ch=>exact ⟨_,a₁,w₁,hq,.of_steps (.one s0 mW) harr⟩
 | outgrown=>exact ⟨_,a₁,w₁,hq,.of_steps (.one s0 mW) harr⟩
theorem Sm {body:Env→St→Out} {l:Nat} {keep:List Nat}:∀k,jQ body l keep (k+1) env s=(match body (ig env keep) s with | .goto l' env s=>if l'=l then jQ body l keep k env s else .fail|out=>out):=fun _=>rfl
theorem Base.kill (h:Base P glob g s w) {l:Nat} (hl:l<s.length) (hnc:fP g (g.L l)) (o:Obj):Base P glob g (s.set l .dead) { w with heap:=w.heap.setIfInBounds (g.L l) o }:=by
 refine ⟨⟨fun c o' v hv=>?_,fun c es hc=>?_⟩,h.heap.setAt hl (.refl _ _) (fun _ _ _=>rfl) (fun b hb=>.inl hb) (fun b hb=>by simpa using h.heap.lt l b hl hb) (by simp) (fun b _ hb=>⟨aT (fun hbe=>hb (.inl hbe.symm)),rfl,rfl⟩) trivial,h.glob⟩
 ·have hcb:c≠g.L l:=fun hcb=>by subst hcb;rw [hnc.m o'] at hv;cases hv
  rw [World.cell?_of_block (aT hcb)];exact h.imm.m c o' v hv
 ·have hcb:c≠g.L l:=fun hcb=>by subst hcb;rw [hnc.mm] at hc;cases hc
  exact (h.imm.mm c es hc).keep (aT hcb)
theorem Sim.called {tm:Nat→Value} {g':af} {w':World} (h:Sim P glob g s B w tm env) (hst:Step qt g s.length w.heap.size w g' s'.length w') (hb:Base P glob g' s' w'):Sim P glob g' s' B w' tm env∧Step qt g s.length B w g' s'.length w':=by
 have hB:=h.B
 refine ⟨⟨hb,h.env.next hst.le (fun k e hk ho b hbk=>?_),by have:=hst.size;omega⟩,
  hst.lower hB⟩
 have hlt:=yt h.env hk ho hbk
 have hoff:=h.env.off k e hk ho b hbk
 exact ⟨hst.keep b hlt hoff,hst.m b hlt hoff,hst.mm b hlt,fun ht=>(hst.new b ht).elim id (fun hh=>by omega)⟩
theorem Vj {tm:Nat→Value} {n:Nat} (h:dH g n B w tm env) {k:Nat} {e:EV} (hk:lk (mX env) k=some e):∃v,e=.v v∧Rep g n (tm k) v:=by
 rcases Vr hk with ⟨v,rfl,hv⟩|rfl
 ·exact ⟨v,rfl,h.rel k _ hv⟩
 ·exact ⟨.u,rfl,.u _⟩
theorem bg {F:Fence} {n M b0:Nat} {N:Wd} {ro:Bool} (hcall:l7 qt P glob call) (hext:dO call) (hdraw:FZ qt P glob call) (hF:isF F) (hro:ro=false→F=Fence.wide) (hM:P.follows .mixedOrders=true):
  ∀(ac:ah) (c:Code),sN P N c ac=true→∀{cx:Ctx} {g:af} {s:St} {w:World} {a:Act} {env:Env} {ls:List Nat} {out:Out},bQ cx s→(ro=false→b0≤s.length)→Fr P glob g s B w a env N b0 ls→
    aI glob call cx ro M ac env s=out→out.st.isSome=true→c.wpIn F n P (PX qt P glob g s B w N b0 out) a w
 | .skip,c,hc,cx,g,s,w,a,env,ls,out,hcx,hb0,h,hr,ho=>by
  cases c<;>simp [sN] at hc
  simp only [aI] at hr;subst hr
  exact wpIn_skip ⟨rfl,g,ls,.refl _ _ _ _,h⟩
 | .ret,c,hc,cx,g,s,w,a,env,ls,out,hcx,hb0,h,hr,ho=>by
  cases c<;>simp [sN] at hc
  simp only [aI] at hr;subst hr
  exact wpIn_ret ⟨rfl,g,ls,.refl _ _ _ _,h⟩
 | .exit id,c,hc,cx,g,s,w,a,env,ls,out,hcx,hb0,h,hr,ho=>by
  cases c<;>simp [sN] at hc
  simp only [aI] at hr;subst hr;subst hc
  exact wpIn_exit ⟨rfl,g,ls,.refl _ _ _ _,h⟩
 | .region aops ord keep,c,hc,cx,g,s,w,a,env,ls,out,hcx,hb0,h,hr,ho=>by
  cases c<;>simp only [sN,Bool.false_eq_true] at hc
  rename_i id ops draw
  simp only [Bool.and_eq_true] at hc
  simp only [aI] at hr
  split at hr
  ·rename_i env1 s1 hr1
   subst hr
   have hQ:∀g' w' a',Step qt g s.length B w g' s1.length w'→Fr P glob g' s1 B w' a' env1 N b0 ls→PX qt P glob g s B w N b0 (.norm (ig env1 keep) s1) .normal a' w':=
    fun g' w' a' hs hf=>⟨rfl,g',ls,hs,⟨hf.sim.base,hf.sim.env.keep keep,hf.sim.B⟩,hf.sz,hf.dl,hf.df,hf.nd,hf.lo,hf.pin⟩
   have hd:=hc.2
   split at hd
   ·refine wpIn_region ?_
    rw [List.range_eq_range']
    have:=Ba (Q:=PX qt P glob g s B w N b0 (.norm (ig env1 keep) s1)) (F:=F) (n:=n) hcall hext hF ops.toList aops 0 (by simp) hc.1 hcx h hr1 hQ
    simpa using this
   ·rename_i π
    exact hdraw.1 hF hc.1 hd hcx h hr1 hQ
   ·cases hd
  ·rename_i hne
   subst hr
   rcases Sz (glob:=glob) (call:=call) (cx:=cx) (aops:=aops) (env:=env) (s:=s) (ord:=ord) rfl with hro' | ⟨v,s1,hro'⟩|⟨e1,s1,hro'⟩
   ·rw [hro'] at ho;simp [Out.st] at ho
   ·rw [hro']
    have hd:=hc.2
    split at hd
    ·refine wpIn_region ?_
     rw [List.range_eq_range']
     have:=UU (Q:=PX qt P glob g s B w N b0 (.pan v s1)) (F:=F) (n:=n) hcall hext hF ops.toList aops 0 (by simp) hc.1 hcx h hro' (fun u g' w' a' hs hf hrp=>⟨u,rfl,g',ls,hs,hf,hrp⟩)
     simpa using this
    ·exact hdraw.2 hF hc.1 hd hcx h hro' (fun u g' w' a' hs hf hrp=>⟨u,rfl,g',ls,hs,hf,hrp⟩)
    ·cases hd
   ·exact absurd hro' (hne e1 s1)
 | .seq x y,c,hc,cx,g,s,w,a,env,ls,out,hcx,hb0,h,hr,ho=>by
  cases c<;>simp only [sN,Bool.false_eq_true] at hc
  simp only [Bool.and_eq_true] at hc
  simp only [aI] at hr
  refine wpIn_seq ?_
  split at hr
  ·rename_i env1 s1 hr1
   have he:Ext cx s s1:=aW hext x hcx (env:=env) (by rw [hr1];rfl)
   refine wpIn_mono (bg hcall hext hdraw hF hro hM x _ hc.1 hcx hb0 h hr1 rfl) (fun e a' w' hq=>?_)
   obtain ⟨rfl,g',ls',hs,hf⟩:=hq
   exact wpIn_mono (bg hcall hext hdraw hF hro hM y _ hc.2 (hcx.ext he) (fun hh=>Nat.le_trans (hb0 hh) he.len) hf hr ho) (fun e a2 w2 hq2=>hq2.step hs)
  ·rename_i hne
   refine wpIn_mono (bg hcall hext hdraw hF hro hM x _ hc.1 hcx hb0 h hr ho) (fun e a' w' hq=>?_)
   subst hr
   cases hro':aI glob call cx ro M x env s with
   | norm e1 s1=>exact absurd hro' (hne e1 s1)
   | fail=>rw [hro'] at ho;simp [Out.st] at ho
   | pan v s1=>rw [hro'] at hq;obtain ⟨u,rfl,hq⟩:=hq;exact ⟨u,rfl,hq⟩
   | exit id e1 s1=>rw [hro'] at hq;obtain ⟨rfl,hq⟩:=hq;exact ⟨rfl,hq⟩
   | ret e1 s1=>rw [hro'] at hq;obtain ⟨rfl,hq⟩:=hq;exact ⟨rfl,hq⟩
   | goto l e1 s1=>rw [hro'] at hq;obtain ⟨rfl,hq⟩:=hq;exact ⟨rfl,hq⟩
 | .cond ix x y,c,hc,cx,g,s,w,a,env,ls,out,hcx,hb0,h,hr,ho=>by
  cases c<;>simp only [sN,Bool.false_eq_true] at hc
  simp only [Bool.and_eq_true] at hc
  simp only [aI] at hr
  split at hr
  ·rename_i hb
   exact wpIn_cond_true (jS (ai (a:=a) hc.1.1 h.sim.env h.sim.base.glob hb)) (bg hcall hext hdraw hF hro hM x _ hc.1.2 hcx hb0 h hr ho)
  ·rename_i hb
   exact wpIn_cond_false (jS (ai (a:=a) hc.1.1 h.sim.env h.sim.base.glob hb)) (bg hcall hext hdraw hF hro hM y _ hc.2 hcx hb0 h hr ho)
  ·subst hr;simp [Out.st] at ho
 | .block id b,c,hc,cx,g,s,w,a,env,ls,out,hcx,hb0,h,hr,ho=>by
  cases c<;>simp only [sN,Bool.false_eq_true] at hc
  simp only [Bool.and_eq_true,beq_iff_eq] at hc
  obtain ⟨rfl,hc⟩:=hc
  simp only [aI] at hr
  refine wpIn_block ?_
  split at hr
  ·rename_i id' env1 s1 hr1
   refine wpIn_mono (bg hcall hext hdraw hF hro hM b _ hc hcx hb0 h hr1 rfl) (fun e a' w' hq=>?_)
   obtain ⟨rfl,hq⟩:=hq
   split at hr
   ·rename_i hid
    subst hr;subst hid
    simp only [Exit.inBlock,if_true]
    exact ⟨rfl,hq⟩
   ·rename_i hid
    subst hr
    simp only [Exit.inBlock,hid,if_false]
    exact ⟨rfl,hq⟩
  ·rename_i hne
   refine wpIn_mono (bg hcall hext hdraw hF hro hM b _ hc hcx hb0 h hr ho) (fun e a' w' hq=>?_)
   subst hr
   cases hro':aI glob call cx ro M b env s with
   | norm e1 s1=>rw [hro'] at hq;obtain ⟨rfl,hq⟩:=hq;exact ⟨rfl,hq⟩
   | fail=>rw [hro'] at ho;simp [Out.st] at ho
   | pan v s1=>rw [hro'] at hq;obtain ⟨u,rfl,hq⟩:=hq;exact ⟨u,rfl,hq⟩
   | exit id' e1 s1=>exact absurd hro' (hne id' e1 s1)
   | ret e1 s1=>rw [hro'] at hq;obtain ⟨rfl,hq⟩:=hq;exact ⟨rfl,hq⟩
   | goto l e1 s1=>rw [hro'] at hq;obtain ⟨rfl,hq⟩:=hq;exact ⟨rfl,hq⟩
 | .loop keep b,c,hc,cx,g,s,w,a,env,ls,out,hcx,hb0,h,hr,ho=>by
  cases c<;>simp only [sN,Bool.false_eq_true] at hc
  rename_i body
  simp only [aI] at hr
  refine NR (fun k a' w'=>∃g' s' env' ls',bQ cx s'∧(ro=false→b0≤s'.length)∧Step qt g s.length B w g' s'.length w'∧Fr P glob g' s' B w' a' env' N b0 ls'∧qR (aI glob call cx ro M b) keep k env' s'=out) ?_ ?_ M ⟨g,s,env,ls,hcx,hb0,.refl _ _ _ _,h,hr⟩
  ·rintro a' w' ⟨g',s',env',ls',_,_,_,_,hl⟩
   simp only [qR] at hl
   subst hl;simp [Out.st] at ho
  ·rintro k a' w' ⟨g',s',env',ls',hcx',hb1,hst,hf,hl⟩
   rw [(Uj k).2] at hl
   have hf':Fr P glob g' s' B w' a' (ig env' keep) N b0 ls':=⟨⟨hf.sim.base,hf.sim.env.keep keep,hf.sim.B⟩,hf.sz,hf.dl,hf.df,hf.nd,hf.lo,hf.pin⟩
   split at hl
   ·rename_i env1 s1 hr1
    have he:Ext cx s' s1:=aW hext b hcx' (env:=ig env' keep) (by rw [hr1];rfl)
    refine wpIn_mono (bg hcall hext hdraw hF hro hM b _ hc hcx' hb1 hf' hr1 rfl) (fun e a2 w2 hq=>?_)
    obtain ⟨rfl,g2,ls2,hs2,hf2⟩:=hq
    exact ⟨g2,s1,env1,ls2,hcx'.ext he,fun hh=>Nat.le_trans (hb1 hh) he.len,hst.trans hs2,hf2,hl⟩
   ·rename_i hne
    refine wpIn_mono (bg hcall hext hdraw hF hro hM b _ hc hcx' hb1 hf' hl ho) (fun e a2 w2 hq=>?_)
    have hq':=hq.step hst
    subst hl
    cases hro':aI glob call cx ro M b (ig env' keep) s' with
    | norm e1 s1=>exact absurd hro' (hne e1 s1)
    | fail=>rw [hro'] at ho;simp [Out.st] at ho
    | pan v s1=>rw [hro'] at hq';obtain ⟨u,rfl,hq'⟩:=hq';exact ⟨u,rfl,hq'⟩
    | exit id' e1 s1=>rw [hro'] at hq';obtain ⟨rfl,hq'⟩:=hq';exact ⟨rfl,hq'⟩
    | ret e1 s1=>rw [hro'] at hq';obtain ⟨rfl,hq'⟩:=hq';exact ⟨rfl,hq'⟩
    | goto l e1 s1=>rw [hro'] at hq';obtain ⟨rfl,hq'⟩:=hq';exact ⟨rfl,hq'⟩
 | .range ix ps asg body,c,hc,cx,g,s,w,a,env,ls,out,hcx,hb0,h,hr,ho=>by
  cases c<;>simp only [sN,Bool.false_eq_true] at hc
  rename_i f' ps' asg' body'
  simp only [Bool.and_eq_true,beq_iff_eq] at hc
  obtain ⟨⟨⟨⟨hfx,hps⟩,hpsN⟩,hasg⟩,hbody⟩:=hc
  simp only [aI] at hr
  split at hr
  ·subst hr;simp [Out.st] at ho
  ·rename_i hrof
   have hFw:F=Fence.wide:=hro (by simpa using hrof)
   subst hFw
   split at hr
   ·rename_i ff as0 cs0 hfv
    split at hr
    ·rename_i r s3 hcr
     refine wpIn_rangeFunc (fun fn _=>?_)
     let rec0:Loop:={ state:=.ready,pending:=none,fn:=fn,tmps:=a.tmps,params:=ps',assign:=asg',body:=body',defers:=w.heap.size }
     -- the two new objects
     obtain ⟨st1,m1⟩:=O4 h.sim (ob:=.deferred (some [])) (ho:=.dfr) ⟨(fun _ _ _ hh=>by cases hh),(fun _ hh=>by cases hh),(fun _ _ _ _ hh=>by cases hh),(fun _ hh=>by cases hh),(fun _ hh=>by cases hh)⟩ (fun cs hcs=>by cases hcs) (fun _ _ _ _ _ hh=>by cases hh) (fun _=>rfl)
     have hlr:DR P (g.place s.length w.heap.size) (s++[eH.dfr]).length rec0 (mX env) ps asg body .ready:=by
      refine ⟨hps,by rw [h.sz];exact hasg,by rw [h.sz];exact hbody,fun k e hk=>?_,fun p hp=>?_,rfl,rfl⟩
      ·exact Vj m1.env hk
      ·rw [h.sz];simpa using List.all_eq_true.1 hpsN p (by rw [hps];exact hp)
     obtain ⟨st2,m2⟩:=O4 m1 (ob:=.loop rec0) (ho:=.loop (mX env) ps asg body .ready) ⟨(fun _ _ _ hh=>by cases hh),(fun _ hh=>by cases hh),(fun _ _ _ _ hh=>by cases hh),(fun _ hh=>by cases hh),(fun _ hh=>by cases hh)⟩ (fun cs hcs=>by cases hcs) (fun e2 p2 a2 b2 pd2 hh=>by cases hh;exact ⟨rec0,rfl,hlr⟩) (fun hh=>by cases hh)
     have hsz1:(w.alloc (.deferred (some []))).heap.size=w.heap.size+1:=by simp
     have hlen1:(s++[eH.dfr]).length=s.length+1:=by simp
     rw [hsz1,hlen1] at st2 m2
     have hs2:(s++[eH.dfr])++[eH.loop (mX env) ps asg body .ready]=s++[.dfr,.loop (mX env) ps asg body .ready]:=by simp
     rw [hs2] at st2 m2
     -- shorter names
     let g2:af:=(g.place s.length w.heap.size).place (s.length+1) (w.heap.size+1)
     let s2:St:=s++[.dfr,.loop (mX env) ps asg body .ready]
     let w2:World:=(w.alloc (.deferred (some []))).alloc (.loop rec0)
     have m2':Sim P glob g2 s2 B w2 (Act.tm a) env:=m2
     have st2':Step qt g s.length B w g2 s2.length w2:=by
      have st1':=st1
      rw [hlen1] at st1'
      exact (st1'.trans st2).weak
     have hl2:s2.length=s.length+2:=by simp [s2]
     have hL0:g2.L s.length=w.heap.size:=by simp [g2,af.place]
     have hL1:g2.L (s.length+1)=w.heap.size+1:=by simp [g2,af.place]
     have hcx2:bQ cx s2:=hcx.ext (.push hcx _)
     have hfrep:Rep g2 s2.length (a.eval f') (.fn ff as0 cs0):=ai (a:=a) hfx m2'.env m2'.base.glob hfv
     have hyrep:Rep g2 s2.length (.func (.yield (w.heap.size+1)) #[] #[]) (.yl (s.length+1)):=by
      have:=Rep.yl (g:=g2) (n:=s2.length) (s.length+1) (by omega)
      rwa [hL1] at this
     have hext3:Ext cx s2 s3:=hext _ _ _ _ _ _ hcx2 (.inl hcr)
     -- what the interpreter says of the loop's end
     have hpend:∃e3 p3 a3 b3 pd,s3[s.length+1]?=some (.loop e3 p3 a3 b3 pd)∧out=(match pd with | .ready=>Out.norm env (s3.set (s.length+1) .dead) | .ret=>.ret env (s3.set (s.length+1) .dead) | .exit id=>.exit id env (s3.set (s.length+1) .dead) | .busy=>.fail):=by
      unfold Oh at hr
      split at hr
      ·rename_i e3 p3 a3 b3 h3;exact ⟨e3,p3,a3,b3,.ready,h3,hr.symm⟩
      ·rename_i e3 p3 a3 b3 h3;exact ⟨e3,p3,a3,b3,.ret,h3,hr.symm⟩
      ·rename_i e3 p3 a3 b3 id h3;exact ⟨e3,p3,a3,b3,.exit id,h3,hr.symm⟩
      ·subst hr;simp [Out.st] at ho
     obtain ⟨e3,p3,a3,b3,pd,h3,hout⟩:=hpend
     obtain ⟨fid,args',q1,q2⟩:=hcall.fn (.fn ff as0 cs0) _ _ _ _ _ hcx2 (fun l hl=>by cases hl) hcr g2 w2 _ #[.func (.yield (w.heap.size+1)) #[] #[]] m2'.base hfrep (by simpa using aB.cons hyrep (.nil _ _))
     obtain ⟨d,hd1,hd2⟩:∃d,Deferred.ofValue (a.eval f') #[.func (.yield (w.heap.size+1)) #[] #[]]=pure d∧(invoke d.target d.args).run P w2=.ok (.enter fid args') w2:=by
      unfold callOf at q1
      cases hv:a.eval f' with
      | func fn' fs cs=>rw [hv] at q1;exact ⟨_,rfl,by simpa [Deferred.ofValue] using q1⟩
      | nilFunc=>rw [hv] at q1;exact ⟨_,rfl,by simpa [Deferred.ofValue] using q1⟩
      | _=>rw [hv] at q1;simp [Deferred.ofValue,stuck,Sem.run,Sem.bind,bind] at q1
     refine ⟨w.heap.size+1,[{ target:=.collected w.heap.size,args:=#[] }],w2,d,w2,fid,args',w2, ?_, ?_,fun f' _=>trivial,hd2,fun hh=>by simp [Fence.wide] at hh,(q2 (n - 1)).mono fun e w3 he=>?_⟩
     ·simp [Instr.enterLoop,Sem.run_bind,w2,rec0,Fence.wide]
     ·have:resolve a.eval (rangeCall f' (w.heap.size+1)) 0=pure d:=by
       have hm:Array.map a.eval #[Operand.const (Value.func (Fn.yield (w.heap.size+1)) #[] #[])]=#[Value.func (Fn.yield (w.heap.size+1)) #[] #[]]:=by simp [Act.eval]
       simp only [resolve,rangeCall,hm]
       exact hd1
      rw [this];rfl
     ·obtain ⟨v,g3,rfl,hst3,hb3,hrep3⟩:=he
      obtain ⟨m3,st3⟩:=m2'.called hst3 hb3
      obtain ⟨rl,hrl,hlok⟩:=hb3.heap.loop (s.length+1) e3 p3 a3 b3 pd h3
      have hg3L:g3.L (s.length+1)=w.heap.size+1:=by rw [hst3.le.L _ (by omega),hL1]
      have hg3L0:g3.L s.length=w.heap.size:=by rw [hst3.le.L _ (by omega),hL0]
      rw [hg3L] at hrl
      obtain ⟨_,_,_,_,_,hstate⟩:=hlok
      have hlt3:s.length+1<s3.length:=(List.getElem?_eq_some_iff.1 h3).1
      let w4:World:={ w3 with heap:=w3.heap.setIfInBounds (w.heap.size+1) (.loop { rl with state:=.exhausted }) }
      have hend:(Instr.endLoop (w.heap.size+1)).run P w3=.ok rl.pending w4:=by
       have hnb:rl.state≠.busy:=by
        cases pd with
        | ready=>rw [hstate.1];simp
        | busy=>subst hout;simp [Out.st] at ho
        | ret=>rw [hstate.1];simp
        | exit id=>rw [hstate.1];simp
       simp [Instr.endLoop,Instr.getLoop,Sem.run_bind,getObj,setObj,Sem.run,hrl,hnb,w4]
      have hb4:Base P glob g3 (s3.set (s.length+1) .dead) w4:=by
       have:=hb3.kill hlt3 (hb3.heap.obj _ _ h3).1 (.loop { rl with state:=.exhausted })
       rwa [hg3L] at this
      have hoff:∀k e,lk env k=some e→e.owns=true→∀b,aQ (Act.tm a k)=some b→b≠w.heap.size+1:=by
       intro k e hk ho' b hbk hbe
       exact m3.env.off k e hk ho' b hbk (by rw [hbe,←hg3L];exact .L hlt3)
      have m4:Sim P glob g3 (s3.set (s.length+1) .dead) B w4 (Act.tm a) env:=by
       refine ⟨hb4, ?_,by simpa [w4] using m3.B⟩
       simp only [List.length_set]
       exact m3.env.next (.refl _ _) (fun k e hk ho' b hbk=>⟨aT (hoff k e hk ho' b hbk),rfl,rfl,fun ht=>ht⟩)
      have st4:Step qt g s.length B w g3 (s3.set (s.length+1) .dead).length w4:=by
       simp only [List.length_set]
       refine (st2'.trans st3).trans ⟨.refl _ _,by simp [w4],fun b hb hbl=>aT (fun hbe=>?_),fun _ _ _=>rfl,fun _ _=>rfl,fun b hb=>.inl hb,rfl,rfl,fun _=>⟨rfl,Nat.le_refl _⟩⟩
       exact hbl (by rw [hbe,←hg3L];exact .L hlt3)
      have hf4:Fr P glob g3 (s3.set (s.length+1) .dead) B w4 { a with defers:=[{ target:=.collected w.heap.size,args:=#[] }]++a.defers } env N b0 (s.length::ls):=by
       refine ⟨m4,h.sz, ?_,fun l hl=>?_, ?_,fun l hl=>?_,fun p hp=>?_⟩
       ·simp only [List.map_cons,hg3L0,List.singleton_append,List.cons_append]
        congr 1
        rw [h.dl]
        simp only [List.nil_append]
        congr 1
        refine List.map_congr_left fun l hl=>?_
        have hll:l<s.length:=(List.getElem?_eq_some_iff.1 (h.df l hl)).1
        rw [st4.le.L l hll]
       ·rcases List.mem_cons.1 hl with rfl|hl
        ·rw [List.getElem?_set_ne (by omega)]
         exact hext3.dfr _ (by simp [s2])
        ·have hll:l<s.length:=(List.getElem?_eq_some_iff.1 (h.df l hl)).1
         rw [List.getElem?_set_ne (by omega)]
         exact hext3.dfr _ (by simp [s2,List.getElem?_append_left hll,h.df l hl])
       ·refine List.nodup_cons.2 ⟨fun hm=>?_,h.nd⟩
        have:=(List.getElem?_eq_some_iff.1 (h.df _ hm)).1
        omega
       ·rcases List.mem_cons.1 hl with rfl|hl
        ·exact hb0 (by simpa using hrof)
        ·exact h.lo l hl
       ·obtain ⟨p1,p2,p3⟩:=h.pin p hp
        refine ⟨p1,by have:=st4.le.n;omega, ?_⟩
        show Act.tm a p.1=_
        rw [p3,st4.le.L _ p2]
      refine ⟨rl.pending,w4,hend, ?_⟩
      cases pd with
      | ready=>
       simp only [] at hout hstate
       rw [hstate.2,hout]
       exact ⟨rfl,g3,s.length::ls,st4,hf4⟩
      | busy=>subst hout;simp [Out.st] at ho
      | ret=>
       simp only [] at hout hstate
       rw [hstate.2,hout]
       exact wpIn_ret ⟨rfl,g3,s.length::ls,st4,hf4⟩
      | exit id=>
       simp only [] at hout hstate
       rw [hstate.2,hout]
       exact wpIn_exit ⟨rfl,g3,s.length::ls,st4,hf4⟩
    ·subst hr;simp [Out.st] at ho
   ·subst hr;simp [Out.st] at ho
 | .cut,c,hc,cx,g,s,w,a,env,ls,out,hcx,hb0,h,hr,ho=>by
  simp only [aI] at hr
  subst hr;simp [Out.st] at ho
 | .label l,c,hc,cx,g,s,w,a,env,ls,out,hcx,hb0,h,hr,ho=>by
  cases c<;>simp only [sN,Bool.false_eq_true] at hc
  simp only [aI] at hr
  subst hr
  exact wpIn_label ⟨rfl,g,ls,.refl _ _ _ _,h⟩
 | .goto l,c,hc,cx,g,s,w,a,env,ls,out,hcx,hb0,h,hr,ho=>by
  cases c<;>simp only [sN,Bool.false_eq_true] at hc
  simp only [beq_iff_eq] at hc
  subst hc
  simp only [aI] at hr
  subst hr
  exact wpIn_goto ⟨rfl,g,ls,.refl _ _ _ _,h⟩
 | .scope l keep x y,c,hc,cx,g,s,w,a,env,ls,out,hcx,hb0,h,hr,ho=>by
  cases c<;>simp only [sN,Bool.false_eq_true] at hc
  rename_i c
  simp only [Bool.and_eq_true] at hc
  obtain ⟨hcx1,hcy⟩:=hc
  split at hcy
  case h_2=>cases hcy
  rename_i rest hfl
  simp only [aI] at hr
  refine ML hfl (fun k a' w'=>∃g' s' env' ls',bQ cx s'∧(ro=false→b0≤s'.length)∧Step qt g s.length B w g' s'.length w'∧Fr P glob g' s' B w' a' env' N b0 ls'∧jQ (aI glob call cx ro M y) l keep k env' s'=out) ?_ ?_ ?_
  ·rintro a' w' ⟨g',s',env',ls',_,_,_,_,hl⟩
   simp only [jQ] at hl
   subst hl;simp [Out.st] at ho
  ·split at hr
   ·rename_i l' env1 s1 hr1
    have he:Ext cx s s1:=aW hext x hcx (env:=env) (by rw [hr1];rfl)
    refine wpIn_mono (bg hcall hext hdraw hF hro hM x _ hcx1 hcx hb0 h hr1 rfl) (fun e a' w' hq=>?_)
    obtain ⟨rfl,g',ls',hs,hf⟩:=hq
    split at hr
    ·rename_i hl
     exact ⟨hl,M,g',s1,env1,ls',hcx.ext he,fun hh=>Nat.le_trans (hb0 hh) he.len,hs,hf,hr⟩
    ·subst hr;simp [Out.st] at ho
   ·rename_i hne
    refine wpIn_mono (bg hcall hext hdraw hF hro hM x _ hcx1 hcx hb0 h hr ho) (fun e a' w' hq=>?_)
    subst hr
    cases hro':aI glob call cx ro M x env s with
    | norm e1 s1=>rw [hro'] at hq;obtain ⟨rfl,hq⟩:=hq;exact ⟨rfl,hq⟩
    | fail=>rw [hro'] at ho;simp [Out.st] at ho
    | pan v s1=>rw [hro'] at hq;obtain ⟨u,rfl,hq⟩:=hq;exact ⟨u,rfl,hq⟩
    | exit id e1 s1=>rw [hro'] at hq;obtain ⟨rfl,hq⟩:=hq;exact ⟨rfl,hq⟩
    | ret e1 s1=>rw [hro'] at hq;obtain ⟨rfl,hq⟩:=hq;exact ⟨rfl,hq⟩
    | goto l' e1 s1=>exact absurd hro' (hne l' e1 s1)
  ·rintro k a' w' ⟨g',s',env',ls',hcx',hb1,hst,hf,hl⟩
   rw [Sm k] at hl
   have hf':Fr P glob g' s' B w' a' (ig env' keep) N b0 ls':=⟨⟨hf.sim.base,hf.sim.env.keep keep,hf.sim.B⟩,hf.sz,hf.dl,hf.df,hf.nd,hf.lo,hf.pin⟩
   split at hl
   ·rename_i l' env1 s1 hr1
    have he:Ext cx s' s1:=aW hext y hcx' (env:=ig env' keep) (by rw [hr1];rfl)
    refine wpIn_mono (bg hcall hext hdraw hF hro hM y _ hcy hcx' hb1 hf' hr1 rfl) (fun e a2 w2 hq=>?_)
    obtain ⟨rfl,g2,ls2,hs2,hf2⟩:=hq
    split at hl
    ·rename_i hl'
     exact ⟨hl',g2,s1,env1,ls2,hcx'.ext he,fun hh=>Nat.le_trans (hb1 hh) he.len,hst.trans hs2,hf2,hl⟩
    ·subst hl;simp [Out.st] at ho
   ·rename_i hne
    refine wpIn_mono (bg hcall hext hdraw hF hro hM y _ hcy hcx' hb1 hf' hl ho) (fun e a2 w2 hq=>?_)
    have hq':=hq.step hst
    subst hl
    cases hro':aI glob call cx ro M y (ig env' keep) s' with
    | norm e1 s1=>rw [hro'] at hq';obtain ⟨rfl,hq'⟩:=hq';exact ⟨rfl,hq'⟩
    | fail=>rw [hro'] at ho;simp [Out.st] at ho
    | pan v s1=>rw [hro'] at hq';obtain ⟨u,rfl,hq'⟩:=hq';exact ⟨u,rfl,hq'⟩
    | exit id' e1 s1=>rw [hro'] at hq';obtain ⟨rfl,hq'⟩:=hq';exact ⟨rfl,hq'⟩
    | ret e1 s1=>rw [hro'] at hq';obtain ⟨rfl,hq'⟩:=hq';exact ⟨rfl,hq'⟩
    | goto l' e1 s1=>exact absurd hro' (hne l' e1 s1)
end Go.Ai
namespace Go.Ai
variable {P:Program} {glob:Nat→Option (List AV)} {s:St} {env env2:Env} {call:AV→List AV→St→Ctx→CO} {cx:Ctx} {s':St} {D:Nat→Prop}
structure Agr (D:Nat→Prop) (env env2:Env):Prop where
 same:∀k,¬D k→lk env k=lk env2 k
 own1:∀k e,D k→lk env k=some e→e.owns=true→lk env2 k=some e
theorem Agr.refl (env:Env):Agr (fun _=>False) env env:=⟨fun _ _=>rfl,fun _ _ h=>h.elim⟩
theorem Agr.own (h:Agr D env env2) {k:Nat} {e:EV} (ho:e.owns=true) (he:lk env k=some e):lk env2 k=some e:=by
 by_cases hd:D k
 ·exact h.own1 k e hd he ho
 ·rw [←h.same k hd];exact he
def IX.off (D:Nat→Prop) (x:IX):Prop:=∀k∈x.slots,¬D k
theorem qA (h:Agr D env env2) {x:IX} (hx:x.off D):ev glob env x=ev glob env2 x:=by
 cases x with
 | t k=>exact h.same k (hx k (by simp [IX.slots]))
 | _=>rfl
theorem WI (h:Agr D env env2) {x:IX} (hx:x.off D):rd glob env x=rd glob env2 x:=by
 simp only [rd,qA h hx]
theorem Ue (h:Agr D env env2) {x:IX} (hx:x.off D):gZ env x=gZ env2 x:=by
 cases x with
 | t k=>simp only [gZ,h.same k (hx k (by simp [IX.slots]))]
 | _=>rfl
theorem Ld (h:Agr D env env2) {x:IX} (hx:x.off D) {es:List AV} (he:elems glob env x=some es):elems glob env2 x=some es:=by
 unfold elems at he ⊢
 rw [←qA h hx]
 cases hv:ev glob env x with
 | none=>rw [hv] at he;cases he
 | some e=>
  rw [hv] at he
  cases e with
  | al j=>
   simp only [] at he ⊢
   cases hj:lk env j with
   | none=>rw [hj] at he;cases he
   | some o=>
    rw [hj] at he
    cases o with
    | own tip t sz es'=>rw [h.own rfl hj];exact he
    | _=>cases he
  | v a=>cases a<;>exact he
  | _=>exact he
theorem WW (h:Agr D env env2) {x:IX} (hx:x.off D):Jl glob env x=Jl glob env2 x:=by
 unfold Jl;rw [qA h hx]
theorem XL (h:Agr D env env2) {x:IX} (hx:x.off D) {off:Nat}:addr glob env off x=addr glob env2 off x:=by
 unfold addr;rw [qA h hx]
theorem Gg (h:Agr D env env2) {x:Option IX} (hx:∀y∈oxs x,y.off D) {d:Nat}:bound glob env d x=bound glob env2 d x:=by
 cases x with
 | none=>rfl
 | some x=>simp only [bound,WI h (hx x (by simp [oxs]))]
theorem Vq (h:Agr D env env2) {x:IX} (hx:x.off D) {n:Option Nat} {v:AV} (hl:dQ glob env s n x=some v):dQ glob env2 s n x=some v:=by
 unfold dQ at hl ⊢
 rw [←qA h hx]
 cases hv:ev glob env x with
 | none=>rw [hv] at hl;cases hl
 | some e=>
  rw [hv] at hl
  cases e with
  | lp k o=>
   simp only [] at hl ⊢
   cases hk:lk env k with
   | none=>rw [hk] at hl;cases hl
   | some o'=>
    rw [hk] at hl
    cases o' with
    | bx cs=>rw [h.own rfl hk];exact hl
    | _=>cases hl
  | ep k sz i o=>
   simp only [] at hl ⊢
   cases hk:lk env k with
   | none=>rw [hk] at hl;cases hl
   | some o'=>
    rw [hk] at hl
    cases o' with
    | own tip t sz' es=>rw [h.own rfl hk];exact hl
    | _=>cases hl
  | v a=>cases a<;>exact hl
  | _=>exact hl
theorem Rq {env:Env} {k:Nat} {e:EV} (h:lk env k=some e) (j:Nat):lk ((k,e)::env) j=lk env j:=by
 show (if k=j then some e else lk env j)=lk env j
 split
 ·rename_i hk;subst hk;exact h.symm
 ·rfl
theorem NH (h:Agr D env env2) {x:IX} (hx:x.off D) (hk:G9 glob env x=true) {a:AV} {env1:Env} (he:esc glob env x=some (a,env1)):
  (∀k,lk env1 k=lk env k)∧∃env3,esc glob env2 x=some (a,env3)∧∀k,lk env3 k=lk env2 k:=by
 unfold esc at he ⊢
 unfold G9 at hk
 rw [←qA h hx]
 cases hv:ev glob env x with
 | none=>rw [hv] at he;simp at he
 | some e=>
  rw [hv] at he hk
  cases e with
  | v b=>simp only [Option.some.injEq,Prod.mk.injEq] at he;obtain ⟨rfl,rfl⟩:=he;exact ⟨fun _=>rfl,env2,rfl,fun _=>rfl⟩
  | al j=>
   simp only [] at he hk ⊢
   cases hj:lk env j with
   | none=>rw [hj] at he;simp at he
   | some o=>
    rw [hj] at he hk
    cases o with
    | own tip t sz es=>
     simp only [] at hk;subst hk
     simp only [Option.some.injEq,Prod.mk.injEq] at he
     obtain ⟨rfl,rfl⟩:=he
     have hj2:=h.own (k:=j) (e:=.own true t sz es) rfl hj
     rw [hj2]
     exact ⟨Rq hj,_,rfl,Rq hj2⟩
    | _=>simp at he
  | own tip t sz es=>
   simp only [] at he hk ⊢
   subst hk
   cases x with
   | t k=>
    simp only [Option.some.injEq,Prod.mk.injEq] at he ⊢
    obtain ⟨rfl,rfl⟩:=he
    have hk1:lk env k=some (.own true t sz es):=hv
    have hk2:=h.own (k:=k) (e:=.own true t sz es) rfl hk1
    exact ⟨Rq hk1,_,⟨rfl,rfl⟩,Rq hk2⟩
   | _=>simp at he
  | _=>simp at hk
theorem Agr.lk (h:Agr D env env2) {env1 env3:Env} (h1:∀k,Ai.lk env1 k=Ai.lk env k) (h3:∀k,Ai.lk env3 k=Ai.lk env2 k):Agr D env1 env3:=
 ⟨fun k hk=>by rw [h1,h3];exact h.same k hk,fun k e hd he ho=>by rw [h3];exact h.own1 k e hd (by rw [←h1];exact he) ho⟩
theorem Tn {env1:Env} (h1:∀k,lk env1 k=lk env k) (x:IX):G9 glob env1 x=G9 glob env x:=by
 have hev:ev glob env1 x=ev glob env x:=by cases x<;>first|rfl|exact h1 _
 unfold G9;rw [hev];split<;>first|rfl|skip
 rw [h1]
theorem BR:∀(xs:List IX) {env env2:Env},Agr D env env2→(∀x∈xs,x.off D)→xs.all (G9 glob env)=true→∀{as:List AV} {env1:Env},wF glob env xs=some (as,env1)→
  (∀k,lk env1 k=lk env k)∧∃env3,wF glob env2 xs=some (as,env3)∧∀k,lk env3 k=lk env2 k
 | [],env,env2,h,_,_,as,env1,he=>by
  simp only [wF,Option.some.injEq,Prod.mk.injEq] at he ⊢;obtain ⟨rfl,rfl⟩:=he;exact ⟨fun _=>rfl,env2,⟨rfl,rfl⟩,fun _=>rfl⟩
 | x::xs,env,env2,h,hx,hk,as,env1,he=>by
  simp only [List.all_cons,Bool.and_eq_true] at hk
  unfold wF at he ⊢
  split at he
  ·cases he
  ·rename_i a env' he1
   obtain ⟨q1,env3,q2,q3⟩:=NH h (hx x (by simp)) hk.1 he1
   rw [q2]
   split at he
   ·cases he
   ·rename_i as' env'' he2
    simp only [Option.some.injEq,Prod.mk.injEq] at he
    obtain ⟨rfl,rfl⟩:=he
    obtain ⟨p1,env4,p2,p3⟩:=BR xs (h.lk q1 q3) (fun y hy=>hx y (by simp [hy])) (by rw [←hk.2];congr 1;funext y;exact Tn q1 y) he2
    simp only [p2]
    exact ⟨fun k=>(p1 k).trans (q1 k),env4,rfl,fun k=>(p3 k).trans (q3 k)⟩
theorem NM {x:IX} (hom:OC glob env x=true):aop glob call cx env s (.mov x)=(match Jl glob env x with|some e=>.ok e env s|none=>.fail):=by
 simp only [aop]
 split
 ·rename_i es k hv;simp [OC,hv] at hom
 ·rfl
theorem U2 (h:Agr D env env2) {op:AOp} {rs es:List IX} (hq:op.quiet=some (rs,es)) (hoff:∀x∈rs++es,x.off D) (hom:rs.all (OC glob env)=true) (hesc:es.all (G9 glob env)=true)
  {e:EV} {env1:Env} {s1:St} (ha:aop glob call cx env s op=.ok e env1 s1):(∀k,lk env1 k=lk env k)∧∃env3,aop glob call cx env2 s op=.ok e env3 s1∧∀k,lk env3 k=lk env2 k:=by
 have hrd:∀x∈rs++es,rd glob env2 x=rd glob env x:=fun x hx=>(WI h (hoff x hx)).symm
 have hld:∀x∈rs++es,∀n v,dQ glob env s n x=some v→dQ glob env2 s n x=some v:=fun x hx n v=>Vq h (hoff x hx)
 have had:∀x∈rs++es,∀n,addr glob env2 n x=addr glob env n x:=fun x hx n=>(XL h (hoff x hx)).symm
 have hel:∀x∈rs++es,∀v,elems glob env x=some v→elems glob env2 x=some v:=fun x hx v=>Ld h (hoff x hx)
 have hok:∀x∈rs++es,gZ env2 x=gZ env x:=fun x hx=>(Ue h (hoff x hx)).symm
 cases op
 case mov x=>
  simp only [AOp.quiet,Option.some.injEq,Prod.mk.injEq] at hq
  obtain ⟨rfl,rfl⟩:=hq
  simp only [List.all_cons,List.all_nil,Bool.and_true] at hom
  have hom2:OC glob env2 x=true:=by unfold OC at hom ⊢;rw [←qA h (hoff x (by simp))];exact hom
  rw [NM hom] at ha
  rw [NM hom2,←WW h (hoff x (by simp))]
  split at ha
  ·rename_i e1 hm;cases ha;exact ⟨fun _=>rfl,env2,by simp [hm],fun _=>rfl⟩
  ·cases ha
 case pick c a b=>
  simp only [AOp.quiet,Option.some.injEq,Prod.mk.injEq] at hq
  obtain ⟨rfl,rfl⟩:=hq
  simp only [aop,okv] at ha ⊢
  rw [hrd c (by simp)]
  split at ha
  ·rename_i x hx
   have hp:rd glob env2 (if x then a else b)=rd glob env (if x then a else b):=by cases x<;>exact hrd _ (by simp)
   simp only [hp]
   split at ha
   ·rename_i v hv;cases ha;exact ⟨fun _=>rfl,env2,by simp [hv],fun _=>rfl⟩
   ·cases ha
  ·cases ha
 case loadp d n x=>
  simp only [AOp.quiet,Option.some.injEq,Prod.mk.injEq] at hq
  obtain ⟨rfl,rfl⟩:=hq
  simp only [aop] at ha ⊢
  have hd:lk env2 d=lk env d:=(h.same d (hoff (.t d) (by simp) d (by simp [IX.slots]))).symm
  rw [hd,←qA h (hoff x (by simp))]
  split at ha
  ·rename_i h1 h2
   simp only [okv] at ha ⊢
   split at ha
   ·rename_i v hv;cases ha;exact ⟨fun _=>rfl,env2,by simp [hld x (by simp) _ _ hv],fun _=>rfl⟩
   ·cases ha
  ·cases ha
 case loadw n x bs=>
  simp only [AOp.quiet,Option.some.injEq,Prod.mk.injEq] at hq
  obtain ⟨rfl,rfl⟩:=hq
  have haw:∀l,Pv env2 l bs=Pv env l bs:=fun l=>by
   unfold Pv
   have hb:∀b∈bs,lk env2 b=lk env b:=fun b hb=>(h.same b (hoff (.t b) (by simp [hb]) b (by simp [IX.slots]))).symm
   rw [Bool.eq_iff_iff,List.all_eq_true,List.all_eq_true]
   exact ⟨fun q b hb'=>by rw [←hb b hb'];exact q b hb',fun q b hb'=>by rw [hb b hb'];exact q b hb'⟩
  simp only [aop] at ha ⊢
  rw [←qA h (hoff x (by simp))]
  split at ha
  ·rename_i l o1 h1
   rw [haw]
   split at ha
   ·rename_i hc
    simp only [okv] at ha ⊢
    split at ha
    ·rename_i v hv;cases ha;exact ⟨fun _=>rfl,env2,by simp [hc,hld x (by simp) _ _ hv],fun _=>rfl⟩
    ·cases ha
   ·cases ha
  ·cases ha
 case loadv x k off=>
  simp only [AOp.quiet,Option.some.injEq,Prod.mk.injEq] at hq
  obtain ⟨rfl,rfl⟩:=hq
  simp only [aop] at ha ⊢
  have hd:lk env2 k=lk env k:=(h.same k (hoff (.t k) (by simp) k (by simp [IX.slots]))).symm
  rw [hd,←qA h (hoff x (by simp))]
  split at ha
  ·rename_i h1 h2
   split at ha
   ·rename_i hc
    split at ha
    ·rename_i m hm
     cases ha
     exact ⟨fun _=>rfl,env2,by simp [hc,hm],fun _=>rfl⟩
    ·cases ha
   ·cases ha
  ·cases ha
 case loadl n x=>
  simp only [AOp.quiet,Option.some.injEq,Prod.mk.injEq] at hq
  obtain ⟨rfl,rfl⟩:=hq
  simp only [aop] at ha ⊢
  rw [←qA h (hoff x (by simp))]
  split at ha<;>first | (cases ha;done)|skip
  all_goals
   simp only [okv] at ha ⊢
   split at ha
   ·rename_i v hv;cases ha;exact ⟨fun _=>rfl,env2,by simp [hld x (by simp) _ _ hv],fun _=>rfl⟩
   ·cases ha
 case load n x=>
  simp only [AOp.quiet,Option.some.injEq,Prod.mk.injEq] at hq
  obtain ⟨rfl,rfl⟩:=hq
  simp only [aop,okv] at ha ⊢
  split at ha
  ·rename_i v hv;cases ha;exact ⟨fun _=>rfl,env2,by simp [hld x (by simp) _ _ hv],fun _=>rfl⟩
  ·cases ha
 case b2s x=>
  simp only [AOp.quiet,Option.some.injEq,Prod.mk.injEq] at hq
  obtain ⟨rfl,rfl⟩:=hq
  simp only [aop,okv] at ha ⊢
  split at ha
  ·rename_i es' hes
   rw [hel x (by simp) _ hes]
   simp only []
   split at ha
   ·rename_i v hv;cases ha;exact ⟨fun _=>rfl,env2,by simp [hv],fun _=>rfl⟩
   ·cases ha
  ·cases ha
 case idx sz x i=>
  simp only [AOp.quiet,Option.some.injEq,Prod.mk.injEq] at hq
  obtain ⟨rfl,rfl⟩:=hq
  simp only [aop] at ha ⊢
  rw [hrd i (by simp),hok x (by simp),hrd x (by simp)]
  split at ha
  ·split at ha
   ·split at ha
    ·rename_i _ k hk _ tip t sz' es hl
     split at ha
     ·rename_i hc
      cases ha
      have hl2:=h.own (k:=k) (e:=.own tip t sz' es) rfl hl
      exact ⟨fun _=>rfl,env2,by simp [hl2,hc],fun _=>rfl⟩
     ·cases ha
    ·cases ha
   ·(repeat' split at ha)<;>first | (cases ha;done) | (cases ha;exact ⟨fun _=>rfl,env2,by simp [*],fun _=>rfl⟩)
  ·cases ha
 case lenA n=>cases ha;exact ⟨fun _=>rfl,env2,rfl,fun _=>rfl⟩
 case len k x=>
  simp only [AOp.quiet,Option.some.injEq,Prod.mk.injEq] at hq
  obtain ⟨rfl,rfl⟩:=hq
  match k with
  | 0=>
   simp only [aop] at ha ⊢
   split at ha
   ·rename_i es' hes
    cases ha
    exact ⟨fun _=>rfl,env2,by rw [hel x (by simp) _ hes],fun _=>rfl⟩
   ·split at ha
    ·rename_i l ver sz o m hrx
     cases ha
     have hn:elems glob env2 x=none:=by
      have hr2:rd glob env2 x=some (.sk l ver sz o m):=(hrd x (by simp)).trans hrx
      unfold rd at hr2
      unfold elems
      split at hr2
      ·rename_i a hev
       rw [hev]
       cases a<;>first|rfl | (simp [AV.plain] at hr2;done)
      ·cases hr2
     exact ⟨fun _=>rfl,env2,by rw [hn,hrd x (by simp),hrx],fun _=>rfl⟩
    ·cases ha
  | 1=>simp only [aop] at ha ⊢;rw [hrd x (by simp)];(repeat' split at ha)<;>first | (cases ha;done) | (cases ha;exact ⟨fun _=>rfl,env2,by simp [*],fun _=>rfl⟩)
  | 2=>simp only [aop] at ha ⊢;rw [hrd x (by simp)];(repeat' split at ha)<;>first | (cases ha;done) | (cases ha;exact ⟨fun _=>rfl,env2,by simp [*],fun _=>rfl⟩)
  | k+3=>simp only [aop] at ha;cases ha
 case slcs x lo hi=>
  simp only [AOp.quiet,Option.some.injEq,Prod.mk.injEq] at hq
  obtain ⟨rfl,rfl⟩:=hq
  simp only [aop] at ha ⊢
  have b1:∀d,bound glob env2 d lo=bound glob env d lo:=fun d=>(Gg h (fun y hy=>hoff y (by simp [hy]))).symm
  have b2:∀d,bound glob env2 d hi=bound glob env d hi:=fun d=>(Gg h (fun y hy=>hoff y (by simp [hy]))).symm
  simp only [hrd x (by simp),b1,b2]
  (repeat' split at ha)<;>first | (cases ha;done) | (cases ha;exact ⟨fun _=>rfl,env2,by simp [*],fun _=>rfl⟩)
 case slc sz x lo hi=>
  simp only [AOp.quiet,Option.some.injEq,Prod.mk.injEq] at hq
  obtain ⟨rfl,rfl⟩:=hq
  simp only [List.all_cons,List.all_nil,Bool.and_true] at hesc
  simp only [aop] at ha ⊢
  cases he:esc glob env x with
  | none=>rw [he] at ha;cases ha
  | some p=>
   obtain ⟨a,env'⟩:=p
   obtain ⟨q1,env3,q2,q3⟩:=NH h (hoff x (by simp)) hesc he
   have h':Agr D env' env3:=h.lk q1 q3
   have b1:∀d,bound glob env3 d lo=bound glob env' d lo:=fun d=>(Gg h' (fun y hy=>hoff y (by simp [hy]))).symm
   have b2:∀d,bound glob env3 d hi=bound glob env' d hi:=fun d=>(Gg h' (fun y hy=>hoff y (by simp [hy]))).symm
   rw [he] at ha
   rw [q2]
   cases a<;>simp only [reduceCtorEq] at ha ⊢<;>simp only [b1,b2] <;>
    ((repeat' split at ha)<;>first | (cases ha;done) | (cases ha;exact ⟨q1,env3,by simp [*],q3⟩))
 case cpy x=>
  simp only [AOp.quiet,Option.some.injEq,Prod.mk.injEq] at hq
  obtain ⟨rfl,rfl⟩:=hq
  simp only [List.all_cons,List.all_nil,Bool.and_true] at hesc
  simp only [aop] at ha ⊢
  split at ha
  ·rename_i a env' he
   cases ha
   obtain ⟨q1,env3,q2,q3⟩:=NH h (hoff x (by simp)) hesc he
   exact ⟨q1,env3,by simp [q2],q3⟩
  ·cases ha
 case build zs ps=>
  simp only [AOp.quiet,Option.some.injEq,Prod.mk.injEq] at hq
  obtain ⟨rfl,rfl⟩:=hq
  simp only [aop,okv] at ha ⊢
  split at ha
  ·rename_i vs env' he
   obtain ⟨q1,env3,q2,q3⟩:=BR _ h (fun y hy=>hoff y (by simpa using hy)) hesc he
   rw [q2]
   (repeat' split at ha)<;>first | (cases ha;done) | (cases ha;exact ⟨q1,env3,by simp [*],q3⟩)
  ·cases ha
 case bsl own t sz len zs ps=>
  cases own
  ·simp only [AOp.quiet,Option.some.injEq,Prod.mk.injEq] at hq
   obtain ⟨rfl,rfl⟩:=hq
   simp only [aop] at ha ⊢
   split at ha
   ·rename_i vs env' he
    obtain ⟨q1,env3,q2,q3⟩:=BR _ h (fun y hy=>hoff y (by simpa using hy)) hesc he
    rw [q2]
    simp only [Bool.false_eq_true,if_false] at ha ⊢
    split at ha
    ·rename_i hc;cases ha;exact ⟨q1,env3,by rw [if_pos hc],q3⟩
    ·cases ha
   ·cases ha
  ·simp [AOp.quiet] at hq
 case mkfn f as cs=>
  simp only [AOp.quiet,Option.some.injEq,Prod.mk.injEq] at hq
  obtain ⟨rfl,rfl⟩:=hq
  simp only [List.all_append,Bool.and_eq_true] at hesc
  simp only [aop] at ha ⊢
  split at ha
  ·rename_i vs env' he
   obtain ⟨q1,env3,q2,q3⟩:=BR _ h (fun y hy=>hoff y (by simp [hy])) hesc.1 he
   rw [q2]
   split at ha
   ·rename_i ws env'' he2
    obtain ⟨p1,env4,p2,p3⟩:=BR _ (h.lk q1 q3) (fun y hy=>hoff y (by simp [hy])) (by rw [←hesc.2];congr 1;funext y;exact Tn q1 y) he2
    cases ha
    simp only [p2]
    exact ⟨fun k=>(p1 k).trans (q1 k),env4,rfl,fun k=>(p3 k).trans (q3 k)⟩
   ·cases ha
  ·cases ha
 case mkif t x=>
  simp only [AOp.quiet,Option.some.injEq,Prod.mk.injEq] at hq
  obtain ⟨rfl,rfl⟩:=hq
  simp only [List.all_cons,List.all_nil,Bool.and_true] at hesc
  simp only [aop] at ha ⊢
  split at ha
  ·rename_i a env' he
   cases ha
   obtain ⟨q1,env3,q2,q3⟩:=NH h (hoff x (by simp)) hesc he
   exact ⟨q1,env3,by simp [q2],q3⟩
  ·cases ha
 case call f as=>
  simp only [AOp.quiet,Option.some.injEq,Prod.mk.injEq] at hq
  obtain ⟨rfl,rfl⟩:=hq
  simp only [aop] at ha ⊢
  rw [hrd f (by simp)]
  split at ha
  ·rename_i fv vs env' hf he
   obtain ⟨q1,env3,q2,q3⟩:=BR _ h (fun y hy=>hoff y (by simp [hy])) hesc he
   simp only [hf,q2]
   split at ha
   ·rename_i r s2 hr;cases ha;exact ⟨q1,env3,rfl,q3⟩
   ·cases ha
   ·cases ha
  ·cases ha
 all_goals
  first
  | (simp [AOp.quiet] at hq;done)
  | (simp only [AOp.quiet,Option.some.injEq,Prod.mk.injEq] at hq
     obtain ⟨rfl,rfl⟩:=hq
     simp only [List.append_nil,List.mem_cons,List.not_mem_nil,or_false,forall_eq_or_imp,forall_eq] at hrd had hok
     simp only [aop,okv,hrd,had,hok] at ha ⊢
     (repeat' split at ha)<;>first | (cases ha;done) | (cases ha;exact ⟨fun _=>rfl,env2,by simp [*],fun _=>rfl⟩))
end Go.Ai
