/-
 Open regions: operations change places.
-/
import Derived.Test.YtcofenimejmoeaaGreatDoorAiD2
import Derived.Test.YtcofenimejmoeaaGreatDoorAiA8
set_option maxRecDepth 100000
set_option linter.unusedSimpArgs false
set_option linter.unusedVariables false
set_option linter.unusedSectionVars false
namespace Go.Ai
variable {qt:Prop} {P:Program} {glob:Nat→Option (List AV)} {g:ai} {s:St} {B:Nat} {w:World} {env env2:Env} {a:Act} {call:AV→List AV→St→Ctx→CO} {cx:Ctx} {env':Env} {s':St} {ops:Array Oper} {aops:List aI}
theorem eG {o:aI} (h:o.op.quiet.isSome=true):fD glob call cx o env s=yh glob call o env s:=by
 unfold fD;rw [if_pos h]
theorem iU {o:aI} (h:o.op.quiet.isSome=false):fD glob call cx o env s=dX glob call cx o env s:=by
 unfold fD;rw [if_neg (by rw [h];simp)]
theorem Iq {d:Nat} {e:EV} (h:oV env d=false):put env d e=(d,e)::env:=by
 unfold put;unfold oV at h;split
 ·rename_i o ho;rw [ho] at h;simp [h]
 ·rfl
def Runs (glob:Nat→Option (List AV)) (call:AV→List AV→St→Ctx→CO) (cx:Ctx) (aops:List aI):List Nat→Env→St→Env→St→Prop
 | [],env,s,env',s'=>EqE env env'∧s'=s
 | i::r,env,s,env',s'=>∃o uK env1 s1,aops[i]?=some o∧EqE env uK∧fD glob call cx o uK s=.norm env1 s1∧Runs glob call cx aops r env1 s1 env' s'
theorem EqE.trans {env3:Env} (h:EqE env env2) (h':EqE env2 env3):EqE env env3:=fun k=>(h k).trans (h' k)
theorem EqE.symm (h:EqE env env2):EqE env2 env:=fun k=>(h k).symm
theorem EqE.refl (env:Env):EqE env env:=fun _=>rfl
theorem Runs.eqE {l:List Nat} (h:Runs glob call cx aops l env s env' s') (he:EqE env2 env):Runs glob call cx aops l env2 s env' s':=by
 cases l with
 | nil=>exact ⟨he.trans h.1,h.2⟩
 | cons i r=>obtain ⟨o,e0,e1,s1,h1,h2,h3,h4⟩:=h;exact ⟨o,e0,e1,s1,h1,he.trans h2,h3,h4⟩
theorem Qh:∀(l:List Nat) {env:Env} {s:St},iD glob call cx aops l env s=.norm env' s'→Runs glob call cx aops l env s env' s'
 | [],env,s,h=>by simp only [iD,Out.norm.injEq] at h;exact ⟨by rw [h.1];exact .refl _,h.2.symm⟩
 | i::r,env,s,h=>by
  simp only [iD] at h
  split at h
  ·cases h
  ·rename_i o ho
   split at h
   ·rename_i env1 s1 hr;exact ⟨o,env,env1,s1,ho,.refl _,hr,Qh r h⟩
   ·rename_i hne;exact absurd h (hne _ _)
theorem UZ {d:Nat} {e:EV} {k:Nat} (hk:k≠d):lk (put env d e) k=(if oV env d=true then (lk env k).map (fun x=>if x.refers d then .v .u else x) else lk env k):=by
 by_cases ho:oV env d=true
 ·rw [if_pos ho];unfold oV at ho;unfold put;split
  ·rename_i o hlo;rw [hlo] at ho;simp only [] at ho;rw [if_pos ho,eH _ _ (Ne.symm hk),rZ]
  ·rename_i hlo;rw [hlo] at ho;cases ho
 ·rw [if_neg ho,Iq (by simpa using ho),eH _ _ (Ne.symm hk)]
theorem YS {d k:Nat} {e:EV} (he:e.owns=true) {x:AV} (hx:x≠.u) (h:lk (put env d e) k=some (.v x)):lk env k=some (.v x):=by
 have hk:k≠d:=fun hk=>by subst hk;rw [tZ] at h;cases h;cases he
 rw [UZ hk] at h
 split at h
 ·cases hl:lk env k with
  | none=>rw [hl] at h;cases h
  | some y=>
   rw [hl] at h;simp only [Option.map_some,Option.some.injEq] at h
   split at h
   ·cases h;exact absurd rfl hx
   ·rw [h]
 ·exact h
section
variable {d:Nat} {v:AV} (hd:lk env d=none)
include hd
end
theorem aeZ {o p:aI} (hap:aam o p=true) {env1 env2:Env} {s1 s2:St} (h1:fD glob call cx o env s=.norm env1 s1) (h2:fD glob call cx p env1 s1=.norm env2 s2):
  s1=s∧s2=s∧∃f1 f2,fD glob call cx p env s=.norm f1 s∧fD glob call cx o f1 s=.norm f2 s∧EqE f2 env2:=absurd hap Bool.false_ne_true
theorem zi {o:aI} (hq:o.op.quiet.isSome=true) {env1:Env} {s1:St} (h:fD glob call cx o env s=.norm env1 s1):s1=s:=by
 rw [eG hq] at h;exact (iY.1 h).1
theorem Xd {o:aI} (hq:o.op.quiet.isSome=true) (he:EqE env env2) {env1:Env} {s1:St} (h:fD glob call cx o env s=.norm env1 s1):∃env3,fD glob call cx o env2 s=.norm env3 s∧EqE env1 env3:=by
 have hs:=zi hq h;subst hs;rw [eG hq] at h ⊢;exact YN he h
def Keeps (s1 s:St):Prop:=(∀(l:Nat) cs,s1[l]?=some (fE.cells cs)→s[l]?=some (fE.cells cs))∧(∀(l:Nat) es,s1[l]?=some (fE.map es)→s[l]?=some (fE.map es))∧∀(l:Nat) t sz ver cs,s1[l]?=some (fE.buf t sz ver cs)→s[l]?=some (fE.buf t sz ver cs)
theorem L9 {o o':fE} {l:Nat} (hne:o'≠o) (h:(s++[o])[l]?=some o'):s[l]?=some o':=by
 by_cases hl:l<s.length
 ·rwa [List.getElem?_append_left hl] at h
 ·rw [List.getElem?_append_right (by omega)] at h
  cases hx:l - s.length with
  | zero=>rw [hx] at h;simp at h;exact absurd h.symm hne
  | succ k=>rw [hx] at h;simp at h
theorem Qg {o o':fE} {l k:Nat} (hl:l<s.length) (hne:o'≠o) (h:(s.set l o)[k]?=some o'):s[k]?=some o':=by
 by_cases hk:l=k
 ·subst hk;rw [List.getElem?_set_self hl] at h;simp at h;exact absurd h.symm hne
 ·rwa [List.getElem?_set_ne hk] at h
theorem Keeps.push {t sz n:Nat}:Keeps (s++[.row t sz n]) s:=
 ⟨fun _ _ h=>L9 (by simp) h,fun _ _ h=>L9 (by simp) h,fun _ _ _ _ _ h=>L9 (by simp) h⟩
theorem Keeps.set {l t sz n:Nat} (hl:l<s.length):Keeps (s.set l (.row t sz n)) s:=
 ⟨fun _ _ h=>Qg hl (by simp) h,fun _ _ h=>Qg hl (by simp) h,fun _ _ _ _ _ h=>Qg hl (by simp) h⟩
theorem JE {s1:St} (hk:Keeps s1 s) {n:Option Nat} {x:IX} {v:AV} (h:jo glob env s1 n x=some v):jo glob env s n x=some v:=by
 unfold jo at h ⊢
 split at h
 ·exact h
 ·exact h
 ·exact h
 ·exact h
 ·split at h
  ·rename_i cs hl;rw [hk.1 _ cs hl];exact h
  ·cases h
 ·split at h
  ·rename_i hl;rw [hk.2.2 _ _ _ _ _ hl];exact h
  ·cases h
 ·cases h
theorem abm {s1:St} (hk:Keeps s1 s) {op:AOp} (hc:op.calm=true) (hq:op.quiet.isSome=true) {cx1 cx2:Ctx} {e:EV} {env1:Env} {s2:St} (hno:okQ glob env op=true) (h:aop glob call cx1 env s1 op=.ok e env1 s2):aop glob call cx2 env s op=.ok e env1 s:=by
 cases op<;>first | (cases hc;done)|skip
 case mov x=>
  simp only [okQ,AOp.quiet,List.all_cons,List.all_nil,Bool.and_true] at hno;rw [Lj hno] at h ⊢
  cases hm:Gx glob env x with
  | none=>rw [hm] at h;cases h
  | some e1=>rw [hm] at h;cases h;rfl
 case load n x=>
  simp only [aop] at h ⊢;obtain ⟨r,hr,rfl,rfl,_⟩:=vG h;rw [JE hk hr];rfl
 case loadp d n x=>
  simp only [aop] at h ⊢
  split at h
  ·obtain ⟨r,hr,rfl,rfl,_⟩:=vG h;rw [JE hk hr];rfl
  ·cases h
 case look kk z ok m k=>
  simp only [aop] at h ⊢
  cases hkv:rd glob env k with
  | none=>rw [hkv] at h;cases h
  | some key=>
   rw [hkv] at h;simp only [] at h ⊢
   cases hm:rd glob env m with
   | none=>
    rw [hm] at h
    split at h
    ·cases h
    ·simp at h
   | some mv=>
    rw [hm] at h
    have key2:∀r:Option AV,(match mv with | .im es=>find kk key es | .nm=>if uX kk key then some none else none | .mp l=>(match s1[l]? with|some (.map es)=>find kk key es | _=>none) | _=>none)=some r→
      (match mv with | .im es=>find kk key es | .nm=>if uX kk key then some none else none | .mp l=>(match s[l]? with|some (.map es)=>find kk key es | _=>none) | _=>none)=some r:=by
     intro r hr
     cases mv<;>first|exact hr|skip
     simp only [] at hr ⊢
     split at hr
     ·rename_i es hl;rw [hk.2.1 _ es hl];exact hr
     ·cases hr
    by_cases h3k:3≤kk∧uX kk key=false
    ·rw [if_pos h3k] at h;cases h
    rw [if_neg h3k] at h;rw [if_neg h3k]
    split at h
    ·rename_i r hr
     have:=key2 r (by cases mv<;>exact hr)
     split
     ·rename_i r' hr'
      have e1:r=r':=Option.some.inj (this.symm.trans (by cases mv<;>exact hr'))
      subst e1
      split at h
      ·rename_i hok;cases h;simp [hok]
      ·rename_i hok;cases h;simp [hok]
     ·rename_i hr';exfalso
      have h3:=this.symm.trans (by cases mv<;>exact hr')
      cases h3
    ·cases h
 case len k x=>
  match k with
  | 0=>
   simp only [aop] at h ⊢
   split at h
   ·cases h;rfl
   ·split at h
    ·cases h;rfl
    ·cases h
  | 1=>
   simp only [aop] at h ⊢
   split at h
   ·cases h;rfl
   ·cases h
  | 2=>cases hc
  | k+3=>cases hc
 case bsl own t sz len zs ps=>
  cases own with
  | true=>cases hc
  | false=>
   simp only [aop] at h ⊢
   split at h
   ·rename_i vs env1 he;simp only [Bool.false_eq_true,if_false] at h ⊢
    split at h
    ·rename_i hc2;cases h;rw [if_pos hc2]
    ·cases h
   ·cases h
 all_goals
  simp only [aop,okv] at h ⊢
  ((repeat' split at h)<;>first | (cases h;done) | (cases h;simp [*];done))
theorem J3 {o p:aI} (h:NZ o p=true):(∃d t sz x y,o=⟨some d,none,.apprp d t sz x y⟩∧(∀dp,p.dst=some dp→dp ∉ x.slots∧dp ∉ y.slots∧dp≠d)∧aaw (fun k=>k=d) p)∧p.op.calm=true∧p.op.quiet.isSome=true:=by
 obtain ⟨od,og,oop⟩:=o;simp only [NZ,Bool.and_eq_true,Option.isNone_iff_eq_none] at h;obtain ⟨⟨⟨⟨⟨h1,h2⟩,h3⟩,h4⟩,h5⟩,h6⟩:=h;refine ⟨?_,h3,h4⟩;subst h2
 cases oop<;>first | (cases od<;>cases h1;done)|skip
 rename_i d t sz x y
 cases od with
 | none=>cases h1
 | some d'=>
  simp only [Bool.and_eq_true,beq_iff_eq] at h1;obtain ⟨rfl,h1⟩:=h1;refine ⟨d,t,sz,x,y,rfl,fun dp hdp=>?_,fun k hk hkd=>?_⟩
  ·rw [hdp] at h1 h6;simp [tX] at h1 h6;exact ⟨fun hm=>h1.1 dp hm rfl,fun hm=>h1.2 dp hm rfl,fun h=>h6 h.symm⟩
  ·subst hkd;simp [tX] at h5;exact h5 k hk rfl
theorem RU {d t sz:Nat} {x y:IX} {env1:Env} {s1:St} (h:dX glob call cx ⟨some d,none,.apprp d t sz x y⟩ env s=.norm env1 s1):
  ∃v,lk env d=none∧env1=(d,.v v)::env∧Keeps s1 s∧(∀env2,lk env2 d=none→(∀ys,elems glob env y=some ys→elems glob env2 y=some ys)→ev glob env2 x=ev glob env x→dX glob call cx ⟨some d,none,.apprp d t sz x y⟩ env2 s=.norm ((d,.v v)::env2) s1):=by
 simp only [dX,eY,aop] at h ⊢
 cases hd:lk env d with
 | some z=>rw [hd] at h;cases h
 | none=>
  rw [hd] at h;simp only [] at h;have hput:∀(env2:Env) e,lk env2 d=none→put env2 d e=(d,e)::env2:=fun env2 e h2=>by unfold put;rw [h2]
  cases hy:elems glob env y with
  | none=>rw [hy] at h;cases h
  | some ys=>
   rw [hy] at h
   cases hx:ev glob env x with
   | none=>rw [hx] at h;cases h
   | some z=>
    rw [hx] at h
    cases z<;>first | (cases h;done)|skip
    rename_i a
    cases a<;>first | (cases h;done)|skip
    ·by_cases hc:0<sz∧0<ys.length∧(ys.all fun e=>e.cells.length == sz)=true∧ys.length≤eu
     ·simp only [if_pos hc,EV.refers,Bool.false_eq_true,if_false,Out.norm.injEq] at h;obtain ⟨rfl,rfl⟩:=h;refine ⟨_,rfl,hput env _ hd,Keeps.push,fun env2 h2 hy2 hx2=>?_⟩;rw [h2,hy2 ys rfl,hx2];simp only [if_pos hc,EV.refers,Bool.false_eq_true,if_false,hput env2 _ h2]
     ·simp only [if_neg hc] at h;by_cases h0:ys.length=0
      ·simp only [if_pos h0,EV.refers,Bool.false_eq_true,if_false,Out.norm.injEq] at h;obtain ⟨rfl,rfl⟩:=h;refine ⟨_,rfl,hput env _ hd,⟨fun _ _ h=>h,fun _ _ h=>h,fun _ _ _ _ _ h=>h⟩,fun env2 h2 hy2 hx2=>?_⟩;rw [h2,hy2 ys rfl,hx2];simp only [if_neg hc,if_pos h0,EV.refers,Bool.false_eq_true,if_false,hput env2 _ h2]
      ·simp only [if_neg h0] at h;cases h
    ·rename_i l es;simp only [] at h
     cases hl:s[l]? with
     | none=>simp only [hl] at h;cases h
     | some ob=>
      simp only [hl] at h
      cases ob<;>first | (cases h;done)|skip
      rename_i t' sz' k;by_cases hc:t=t'∧sz=sz'∧k=es.length∧0<sz∧0<ys.length∧(ys.all fun e=>e.cells.length == sz)=true∧(es.all fun e=>e.cells.length == sz)=true∧es.length+ys.length≤eu∧cx.lim≤l
      ·simp only [if_pos hc,EV.refers,Bool.false_eq_true,if_false,Out.norm.injEq] at h;obtain ⟨rfl,rfl⟩:=h;refine ⟨_,rfl,hput env _ hd,Keeps.set (List.getElem?_eq_some_iff.1 hl).1,fun env2 h2 hy2 hx2=>?_⟩;rw [h2,hy2 ys rfl,hx2];simp only [hl,if_pos hc,EV.refers,Bool.false_eq_true,if_false,hput env2 _ h2]
      ·simp only [if_neg hc] at h;by_cases h0:ys.length=0
       ·simp only [if_pos h0,EV.refers,Bool.false_eq_true,if_false,Out.norm.injEq] at h;obtain ⟨rfl,rfl⟩:=h;refine ⟨_,rfl,hput env _ hd,⟨fun _ _ h=>h,fun _ _ h=>h,fun _ _ _ _ _ h=>h⟩,fun env2 h2 hy2 hx2=>?_⟩;rw [h2,hy2 ys rfl,hx2];simp only [hl,if_neg hc,if_pos h0,EV.refers,Bool.false_eq_true,if_false,hput env2 _ h2]
       ·simp only [if_neg h0] at h;cases h
    ·by_cases hc:0<sz∧0<ys.length∧(ys.all fun e=>e.cells.length == sz)=true∧ys.length≤eu
     ·simp only [if_pos hc,EV.refers,Bool.false_eq_true,if_false,Out.norm.injEq] at h;obtain ⟨rfl,rfl⟩:=h;refine ⟨_,rfl,hput env _ hd,Keeps.push,fun env2 h2 hy2 hx2=>?_⟩;rw [h2,hy2 ys rfl,hx2];simp only [if_pos hc,EV.refers,Bool.false_eq_true,if_false,hput env2 _ h2]
     ·simp only [if_neg hc] at h;by_cases h0:ys.length=0
      ·simp only [if_pos h0,EV.refers,Bool.false_eq_true,if_false,Out.norm.injEq] at h;obtain ⟨rfl,rfl⟩:=h;refine ⟨_,rfl,hput env _ hd,⟨fun _ _ h=>h,fun _ _ h=>h,fun _ _ _ _ _ h=>h⟩,fun env2 h2 hy2 hx2=>?_⟩;rw [h2,hy2 ys rfl,hx2];simp only [if_neg hc,if_pos h0,EV.refers,Bool.false_eq_true,if_false,hput env2 _ h2]
      ·simp only [if_neg h0] at h;cases h
theorem UL {s1:St} (hk:Keeps s1 s) {p:aI} (hc:p.op.calm=true) (hq:p.op.quiet.isSome=true) {e:EV} (h:ug glob call p env s1=some e):ug glob call p env s=some e:=by
 unfold ug at h ⊢
 split at h
 ·cases h
 ·exact h
 ·split at h
  ·rename_i hok;rw [if_pos hok]
   split at h
   ·rename_i e1 env1 s2 ha;rw [abm (cx2:=⟨s.length,s.length⟩) hk hc hq hok ha]
    split at h
    ·rename_i hcond;cases h;simp [hcond.2]
    ·cases h
   ·cases h
  ·cases h
theorem aeY {o p:aI} (hap:NZ o p=true) {env1 env2:Env} {s1 s2:St} (h1:fD glob call cx o env s=.norm env1 s1) (h2:fD glob call cx p env1 s1=.norm env2 s2):
  s2=s1∧∃f1 f2,fD glob call cx p env s=.norm f1 s∧fD glob call cx o f1 s=.norm f2 s1∧EqE f2 env2:=by
 obtain ⟨⟨d,t,sz,x,y,rfl,hdst,hoff⟩,hcalm,hq⟩:=J3 hap;have hloud:(AOp.apprp d t sz x y).quiet.isSome=false:=rfl;rw [iU hloud] at h1;rw [eG hq] at h2;obtain ⟨v,hdn,rfl,hk,hrun⟩:=RU h1;obtain ⟨rfl,e,hqv,hokd,rfl⟩:=iY.1 h2
 have hagr:Agr (fun k=>k=d) ((d,.v v)::env) env:=by
  refine ⟨fun k hkd=>eH _ _ (fun h=>hkd h.symm),fun k e' hkd hl ho=>?_⟩;subst hkd;rw [jy] at hl;cases hl;cases ho
 have hqv':ug glob call p env s=some e:=UL hk hcalm hq (xP hagr hoff hqv)
 have hok':okD env p.dst e:=fun dp hdp=>⟨(hokd dp hdp).1,by
  have:=(hokd dp hdp).2
  unfold oV at this ⊢
  rwa [eH _ _ (fun h=>(hdst dp hdp).2.2 h.symm)] at this⟩
 refine ⟨rfl,rU env p.dst e,(d,.v v)::rU env p.dst e,by rw [eG hq];exact iY.2 ⟨rfl,e,hqv',hok',rfl⟩, ?_,fun k=>?_⟩
 ·rw [iU hloud];have hagr2:=WJ (O5 hqv') hok';refine hrun _ ?_ ?_ ?_
  ·rw [dL (fun h=>(hdst d h).2.2 rfl)];exact hdn
  ·exact fun ys hys=>PS (Uu hok') (fun k hk hd=>(hdst k hd).2.1 hk) hys
  ·exact uJ hagr2 (fun k hk hd=>(hdst k hd).1 hk)
 ·by_cases hkd:k=d
  ·subst hkd;rw [jy,dL (fun h=>(hdst k h).2.2 rfl),jy]
  ·rw [eH _ _ (Ne.symm hkd)]
   cases hp:p.dst with
   | none=>show lk env k=lk ((d,.v v)::env) k;rw [eH _ _ (Ne.symm hkd)]
   | some dp=>
    show lk ((dp,e)::env) k=lk ((dp,e)::(d,.v v)::env) k;by_cases hkp:dp=k
    ·subst hkp;rw [jy,jy]
    ·rw [eH _ _ hkp,eH _ _ hkp,eH _ _ (Ne.symm hkd)]
theorem qO {op:AOp} (h:op.free=true):op.quiet.isSome=true:=by cases op<;>first|rfl | (cases h;done)
theorem xw {op:AOp} (h:∀(cx:Ctx) (s:St),aop glob call cx env s op=match (match aop glob call ⟨0,0⟩ env [] op with | .ok e env1 _=>some (e,env1) | _=>none) with|some (e,env1)=>RO.ok e env1 s|none=>.fail):
  ∀(cx:Ctx) (s:St),aop glob call cx env s op=match (match aop glob call ⟨0,0⟩ env [] op with | .ok e env1 _=>some (e,env1) | _=>none) with|some (e,env1)=>RO.ok e env1 s|none=>.fail:=h
theorem aap {op:AOp} (ho:op.free=true) (hok:okQ glob env op=true):∃r:Option (EV×Env),∀(cx:Ctx) (s:St),aop glob call cx env s op=match r with|some (e,env1)=>.ok e env1 s|none=>.fail:=by
 cases op<;>(try (cases ho;done))
 case mov x=>
  simp only [okQ,AOp.quiet,List.all_cons,List.all_nil,Bool.and_true] at hok;refine ⟨(Gx glob env x).map fun e=>(e,env),fun cx s=>?_⟩;rw [Lj hok]
  cases Gx glob env x<;>rfl
 case ext x i=>
  refine ⟨_,fun cx s=>xw ?_ cx s⟩;intro cx s;simp only [aop,okv]
  (repeat' split)<;>first|rfl | (simp_all;done)
 case idxa len sz x i=>
  refine ⟨_,fun cx s=>xw ?_ cx s⟩;intro cx s;simp only [aop,okv]
  (repeat' split)<;>first|rfl | (simp_all;done)
 case fld off x=>
  refine ⟨_,fun cx s=>xw ?_ cx s⟩;intro cx s;simp only [aop,okv]
  (repeat' split)<;>first|rfl | (simp_all;done)
 case bin bop x y=>
  refine ⟨_,fun cx s=>xw ?_ cx s⟩;intro cx s;simp only [aop,okv]
  (repeat' split)<;>first|rfl | (simp_all;done)
 case build zs ps=>
  refine ⟨_,fun cx s=>xw ?_ cx s⟩;intro cx s;simp only [aop,okv]
  (repeat' split)<;>first|rfl | (simp_all;done)
 case idx sz x i=>
  refine ⟨_,fun cx s=>xw ?_ cx s⟩;intro cx s;simp only [aop,okv]
  (repeat' split)<;>first|rfl | (simp_all;done)
 case slc sz x lo hi=>
  refine ⟨_,fun cx s=>xw ?_ cx s⟩;intro cx s;simp only [aop,okv]
  (repeat' split)<;>first|rfl | (simp_all;done)
 case nilchk x=>
  refine ⟨_,fun cx s=>xw ?_ cx s⟩;intro cx s;simp only [aop,okv]
  (repeat' split)<;>first|rfl | (simp_all;done)
 case b2s x=>
  refine ⟨_,fun cx s=>xw ?_ cx s⟩;intro cx s;simp only [aop,okv]
  (repeat' split)<;>first|rfl | (simp_all;done)
 case loadl n x=>
  cases hx:ev glob env x with
  | none=>exact ⟨none,fun cx s=>by simp only [aop,hx]⟩
  | some y=>
   have good:(∀s s',jo glob env s n x=jo glob env s' n x)→(∀cx s,aop glob call cx env s (.loadl n x)=okv env s (jo glob env s n x))→∃r:Option (EV×Env),∀(cx:Ctx) (s:St),aop glob call cx env s (.loadl n x)=match r with|some (e,env1)=>.ok e env1 s|none=>.fail:=by
    intro k1 k2;refine ⟨(jo glob env [] n x).map fun v=>(.v v,env),fun cx s=>?_⟩;rw [k2,k1 s []]
    cases jo glob env [] n x<;>rfl
   cases y with
   | bx cs=>exact good (fun s s'=>by unfold jo;rw [hx]) (fun cx s=>by simp only [aop,hx])
   | lp k o=>exact good (fun s s'=>by unfold jo;rw [hx]) (fun cx s=>by simp only [aop,hx])
   | v a=>
    cases a with
    | ip cs=>exact good (fun s s'=>by unfold jo;rw [hx]) (fun cx s=>by simp only [aop,hx])
    | _=>exact ⟨none,fun cx s=>by simp only [aop,hx]⟩
   | _=>exact ⟨none,fun cx s=>by simp only [aop,hx]⟩
theorem Dw {o:aI} (ho:o.op.free=true) (s s':St):ug glob call o env s=ug glob call o env s':=by
 unfold ug;split
 ·rfl
 ·rfl
 ·split
  ·rename_i hok;obtain ⟨r,hr⟩:=aap (call:=call) ho hok;rw [hr,hr]
   cases r<;>simp
  ·rfl
theorem yA {od:Option Nat} {op:AOp} {l:List Nat} (hl:op.heapy=some l) (hd:TP op od=true) {env1:Env} {s1:St}
  (h:dX glob call cx ⟨od,none,op⟩ env s=.norm env1 s1):
  ∃e,env1=rU env od e∧e.owns=false∧(∀d,od=some d→lk env d=none)∧∀env2,(∀k∈l,lk env2 k=lk env k)→(∀d,od=some d→lk env2 d=none)→dX glob call cx ⟨od,none,op⟩ env2 s=.norm (rU env2 od e) s1:=by
 have hev:∀(x:IX) (env2:Env),(∀k∈x.slots,lk env2 k=lk env k)→ev glob env2 x=ev glob env x:=by
  intro x env2 hx
  cases x with
  | t k=>exact hx k (by simp [IX.slots])
  | c a=>rfl
  | g k=>rfl
 cases op with
 | umap d=>
  cases od with
  | none=>cases hd
  | some d'=>
   have hd':d=d':=by simpa [TP] using hd
   subst hd';simp only [dX,eY,aop] at h ⊢
   cases hk:lk env d with
   | some e=>rw [hk] at h;cases h
   | none=>
    rw [hk] at h;simp only [EV.refers,Bool.false_eq_true,if_false,Out.norm.injEq] at h;obtain ⟨rfl,rfl⟩:=h;have hput:∀(env2:Env) e,lk env2 d=none→put env2 d e=(d,e)::env2:=fun env2 e h2=>by unfold put;rw [h2]
    refine ⟨.v (.mp s.length),by rw [hput env _ hk];rfl,rfl,(fun _ h=>by cases h;exact hk),fun env2 _ h2=>?_⟩;rw [h2 d rfl];simp only [EV.refers,Bool.false_eq_true,if_false,hput env2 _ (h2 d rfl)];rfl
 | uins m k v=>
  simp only [AOp.heapy,Option.some.injEq] at hl
  cases od with
  | some d=>cases hd
  | none=>
   subst hl;simp only [dX,eY] at h
   cases ha:aop glob call cx env s (.uins m k v) with
   | fail=>rw [ha] at h;cases h
   | pan _ _=>rw [ha] at h;cases h
   | ok e env' s'=>
    rw [ha] at h;simp only [Out.norm.injEq] at h;obtain ⟨rfl,rfl⟩:=h
    have henv:env'=env:=by
     simp only [aop] at ha
     (repeat' split at ha)<;>first | (cases ha;done) | (cases ha;rfl)
    subst henv;refine ⟨.v .u,rfl,rfl,(fun _ h=>by cases h),fun env2 h1 _=>?_⟩
    have:aop glob call cx env2 s (.uins m k v)=.ok e env2 s':=by
     simp only [aop] at ha ⊢;rw [hev m env2 (fun j hj=>h1 j (by simp [hj])),hev k env2 (fun j hj=>h1 j (by simp [hj])),hev v env2 (fun j hj=>h1 j (by simp [hj]))]
     (repeat' split at ha)<;>first | (cases ha;done) | (cases ha;simp [*];done)
    simp only [dX,eY,this];rfl
 | storep n x y=>
  simp only [AOp.heapy,Option.some.injEq] at hl
  cases od with
  | some d=>cases hd
  | none=>
   subst hl;simp only [dX,eY] at h
   cases ha:aop glob call cx env s (.storep n x y) with
   | fail=>rw [ha] at h;cases h
   | pan _ _=>rw [ha] at h;cases h
   | ok e env' s'=>
    rw [ha] at h;simp only [Out.norm.injEq] at h;obtain ⟨rfl,rfl⟩:=h
    have henv:env'=env:=by
     simp only [aop] at ha
     (repeat' split at ha)<;>first | (cases ha;done) | (cases ha;rfl)
    subst henv;refine ⟨.v .u,rfl,rfl,(fun _ h=>by cases h),fun env2 h1 _=>?_⟩;have ex:=hev x env2 (fun j hj=>h1 j (by simp [hj]));have ey:=hev y env2 (fun j hj=>h1 j (by simp [hj]))
    have:aop glob call cx env2 s (.storep n x y)=.ok e env2 s':=by
     simp only [aop] at ha ⊢;rw [ex,ey]
     split at ha
     ·rename_i av xv hx hy
      have hst:∀env3:Env,ev glob env3 x=some (.v av)→(qg glob cx env3 s n x xv).map (·.2)=(qg glob cx env' s n x xv).map (·.2):=by
       intro env3 h3;unfold qg;rw [h3,hx];by_cases hc:xv.cells.length=n∧n≠0∧(xv.cells.all AV.one)=true
       ·rw [if_pos hc,if_pos hc]
        cases av<;>first|rfl | (simp only [];(repeat' split)<;>first|rfl | (simp_all;done))
       ·rw [if_neg hc,if_neg hc]
      have h4:=hst env2 (ex.trans hx)
      split at ha
      ·rename_i q s1 hq;cases ha;rw [hq] at h4
       cases hq2:qg glob cx env2 s n x xv with
       | none=>rw [hq2] at h4;cases h4
       | some r=>
        rw [hq2] at h4;simp at h4;simp [h4]
      ·cases ha
     ·cases ha
    simp only [dX,eY,this];rfl
 | _=>simp [AOp.heapy] at hl
theorem sW {op:AOp} {l:List Nat} (h:op.heapy=some l):op.quiet.isSome=false:=by cases op<;>first|rfl | (simp [AOp.heapy] at h;done)
theorem ae2 {o p:aI} (hap:N8 o p=true) {env1 env2:Env} {s1 s2:St} (h1:fD glob call cx o env s=.norm env1 s1) (h2:fD glob call cx p env1 s1=.norm env2 s2):
  s2=s1∧∃f1 f2,fD glob call cx p env s=.norm f1 s∧fD glob call cx o f1 s=.norm f2 s1∧EqE f2 env2:=by
 obtain ⟨od,og,oop⟩:=o;simp only [N8,Bool.and_eq_true,Option.isNone_iff_eq_none] at hap;obtain ⟨⟨⟨⟨⟨a1,a2⟩,a3⟩,a4⟩,a5⟩,a6⟩:=hap;subst a3
 cases hl:oop.heapy with
 | none=>rw [hl] at a1;cases a1
 | some l=>
 rw [hl] at a1;simp only [] at a1;have hq:p.op.quiet.isSome=true:=qO a4;rw [iU (sW hl)] at h1;rw [eG hq] at h2;obtain ⟨eo,rfl,howns,hnone,hrun⟩:=yA hl a2 h1;obtain ⟨rfl,e,hqv,hokd,rfl⟩:=iY.1 h2
 have hne:∀d,od=some d→p.dst≠some d:=by
  intro d hd hp;subst hd;rw [hp] at a6;simp at a6
 have hqv':ug glob call p env s=some e:=by rw [Dw a4 s s2];exact xP (Ut howns) (E8 a5) hqv
 have hok':okD env p.dst e:=fun dp hdp=>⟨(hokd dp hdp).1,by
  have:=(hokd dp hdp).2
  unfold oV at this ⊢
  rwa [dL (fun h=>hne dp h hdp)] at this⟩
 refine ⟨rfl,rU env p.dst e,rU (rU env p.dst e) od eo,by rw [eG hq];exact iY.2 ⟨rfl,e,hqv',hok',rfl⟩, ?_,Ir hne⟩;rw [iU (sW hl)];refine hrun _ (fun k hk=>dL (fun hp=>?_)) (fun d hd=>?_)
 ·rw [hp] at a1;simp [tX] at a1;exact a1 k hk rfl
 ·rw [dL (hne d hd)];exact hnone d hd
theorem aeW {o p:aI} (hap:aak o p=true) {env1 env2:Env} {s1 s2:St} (h1:fD glob call cx o env s=.norm env1 s1) (h2:fD glob call cx p env1 s1=.norm env2 s2):
  ∃f1 t1 f2,fD glob call cx p env s=.norm f1 t1∧fD glob call cx o f1 t1=.norm f2 s2∧EqE f2 env2:=absurd hap Bool.false_ne_true
theorem JF {d:Nat} {zs:List AV} {env1:Env} {s1:St}:fD glob call cx ⟨some d,none,.lallocp d zs⟩ env s=.norm env1 s1 ↔ lk env d=none∧env1=(d,.bx zs)::env∧s1=s:=by
 have hl:(AOp.lallocp d zs).quiet.isSome=false:=rfl;rw [iU hl];simp only [dX,eY,aop]
 cases hk:lk env d with
 | some e=>simp
 | none=>
  have hput:put env d (.bx zs)=(d,.bx zs)::env:=by unfold put;rw [hk]
  simp only [EV.refers,Bool.false_eq_true,if_false,hput,Out.norm.injEq,true_and];exact ⟨fun h=>⟨h.1.symm,h.2.symm⟩,fun h=>⟨h.1.symm,h.2.symm⟩⟩
theorem ae0 {o p:aI} (hap:aan o p=true) {env1 env2:Env} {s1 s2:St} (h1:fD glob call cx o env s=.norm env1 s1) (h2:fD glob call cx p env1 s1=.norm env2 s2):
  ∃f1 t1 f2,fD glob call cx p env s=.norm f1 t1∧fD glob call cx o f1 t1=.norm f2 s2∧EqE f2 env2:=absurd hap Bool.false_ne_true
theorem ae1 {o p:aI} (hap:N7 o p=true) {env1 env2:Env} {s1 s2:St} (h1:fD glob call cx o env s=.norm env1 s1) (h2:fD glob call cx p env1 s1=.norm env2 s2):
  ∃f1 t1 f2,fD glob call cx p env s=.norm f1 t1∧fD glob call cx o f1 t1=.norm f2 s2∧EqE f2 env2:=by
 obtain ⟨pd,pg,pop⟩:=p;simp only [N7,Bool.and_eq_true,Option.isNone_iff_eq_none] at hap;obtain ⟨⟨⟨⟨a1,a2⟩,a3⟩,a4⟩,a5⟩:=hap;subst a3 a4
 cases hl:pop.heapy with
 | none=>rw [hl] at a2;cases a2
 | some l=>
 rw [hl] at a2;simp only [] at a2;have hq:=qO a1;rw [eG hq] at h1;rw [iU (sW hl)] at h2;obtain ⟨rfl,e,hqv,hokd,rfl⟩:=iY.1 h1;obtain ⟨eo,rfl,_,_,hrun⟩:=yA hl a5 h2;refine ⟨env,s2,rU env o.dst e, ?_, ?_,.refl _⟩
 ·rw [iU (sW hl)];refine hrun env (fun j hj=>(dL (fun hd=>?_)).symm) (fun d hd=>by cases hd);rw [hd] at a2;simp only [tX,List.all_eq_true,bne_iff_ne] at a2;exact a2 j hj rfl
 ·rw [eG hq];exact iY.2 ⟨rfl,e,by rw [Dw a1 s2 s1];exact hqv,hokd,rfl⟩
theorem aai {l:Nat}:∀{bs:List Nat} {b:Nat},Ic env l bs=true→b∈bs→∃l' o',lk env b=some (.v (.pt l' o'))∧l'≠l:=by
 intro bs b h hb
 have:=List.all_eq_true.1 h b hb
 split at this
 ·rename_i l' o' hl;exact ⟨l',o',hl,by simpa using this⟩
 ·cases this
theorem WT {n b:Nat} {x:IX} {lb ob:Nat} (hb:lk env b=some (.v (.pt lb ob))) {env1:Env} {s1:St} (h:dX glob call cx ⟨none,none,.storep n (.t b) x⟩ env s=.norm env1 s1):∀l,lb≠l→s1[l]?=s[l]?:=by
 intro l hl;have hev:ev glob env (.t b)=some (.v (.pt lb ob)):=hb;simp only [dX,eY,aop,hev] at h
 cases hx:ev glob env x with
 | none=>rw [hx] at h;cases h
 | some y=>
  rw [hx] at h
  cases y with
  | v xv=>
   simp only [] at h
   cases hst:qg glob cx env s n (.t b) xv with
   | none=>rw [hst] at h;cases h
   | some r=>
    obtain ⟨env',s'⟩:=r;rw [hst] at h;simp only [Out.norm.injEq] at h;obtain ⟨_,rfl⟩:=h;unfold qg at hst;rw [hev] at hst
    split at hst
    ·simp only [] at hst
     split at hst
     ·split at hst
      ·cases hst;exact List.getElem?_set_ne hl
      ·cases hst
     ·cases hst
    ·cases hst
  | _=>cases h
theorem aeU {o p:aI} (hap:NY o p=true) {env1 env2:Env} {s1 s2:St} (h1:fD glob call cx o env s=.norm env1 s1) (h2:fD glob call cx p env1 s1=.norm env2 s2):
  ∃f1 t1 f2,fD glob call cx p env s=.norm f1 t1∧fD glob call cx o f1 t1=.norm f2 s2∧EqE f2 env2:=by
 obtain ⟨pd,pg,pop⟩:=p;simp only [NY,Bool.and_eq_true,Option.isNone_iff_eq_none] at hap;obtain ⟨⟨⟨a1,a2⟩,a3⟩,a4⟩:=hap;subst a3 a4
 split at a1
 case h_2=>cases a1
 rename_i n a bs m b x ho;simp only [Bool.and_eq_true,List.contains_eq_mem,decide_eq_true_eq] at a1;obtain ⟨hb,hni⟩:=a1;have hq:o.op.quiet.isSome=true:=by rw [ho];rfl
 have hl:(AOp.storep m (.t b) x).heapy=some (IX.slots (.t b)++x.slots):=rfl;rw [eG hq] at h1;rw [iU (sW hl)] at h2;obtain ⟨rfl,e,hqv,hokd,rfl⟩:=iY.1 h1
 have hnd:∀k∈b::x.slots,o.dst≠some k:=by
  intro k hk hd;rw [hd] at hni;simp only [tX,List.all_eq_true,bne_iff_ne] at hni;exact hni k hk rfl
 obtain ⟨eo,rfl,_,_,hrun⟩:=yA hl rfl h2;refine ⟨env,s2,rU env o.dst e, ?_, ?_,.refl _⟩
 ·rw [iU (sW hl)];refine hrun env (fun j hj=>(dL (hnd j ?_)).symm) (fun d hd=>by cases hd)
  simpa [IX.slots] using hj
 ·rw [eG hq];refine iY.2 ⟨rfl,e, ?_,hokd,rfl⟩;unfold ug at hqv ⊢;rw [a2] at hqv ⊢;simp only [eY] at hqv ⊢
  split at hqv
  ·rename_i hok;rw [if_pos hok];rw [ho] at hqv ⊢;simp only [aop] at hqv ⊢
   cases hx:ev glob env a with
   | none=>rw [hx] at hqv;cases hqv
   | some y=>
    rw [hx] at hqv
    cases y with
    | v ya=>
     cases ya with
     | pt l o1=>
      dsimp only at hqv ⊢;by_cases haw:Ic env l bs=true
      ·rw [if_pos haw] at hqv ⊢;obtain ⟨lb,ob,hlb,hne⟩:=aai haw hb;have hk:s2[l]?=s1[l]?:=WT (by rw [dL (hnd b (by simp))];exact hlb) h2 l hne
       have hld:jo glob env s2 n a=jo glob env s1 n a:=by
        unfold jo;rw [hx];simp only [hk]
       rw [hld];simp only [okv] at hqv ⊢
       cases hv:jo glob env s1 n a with
       | none=>rw [hv] at hqv;cases hqv
       | some v=>rw [hv] at hqv;simpa using hqv
      ·rw [if_neg haw] at hqv;cases hqv
     | _=>cases hqv
    | _=>cases hqv
  ·cases hqv
theorem LH {n k:Nat} {x:IX} {env1:Env} {s1:St}:fD glob call cx ⟨none,none,.storel n k x⟩ env s=.norm env1 s1 ↔
  s1=s∧∃cs xv,lk env k=some (.bx cs)∧ev glob env x=some (.v xv)∧(xv.cells.length=n∧n≠0∧xv.cells.all AV.one=true∧n≤cs.length)∧env1=(k,.bx (splice cs 0 xv.cells))::env:=by
 have hl:(AOp.storel n k x).quiet.isSome=false:=rfl;rw [iU hl];simp only [dX,eY,aop];constructor
 ·intro h
  split at h
  ·cases h
  ·cases h
  ·rename_i e env2 s2 ha;cases h
   split at ha
   ·rename_i cs xv hk hx
    split at ha
    ·rename_i hc;cases ha;exact ⟨rfl,cs,xv,hk,hx,hc,rfl⟩
    ·cases ha
   ·cases ha
 ·rintro ⟨rfl,cs,xv,hk,hx,hc,rfl⟩;rw [hk,hx];simp only [if_pos hc]
theorem VN {x:IX} (h:∀j∈x.slots,lk env2 j=lk env j):ev glob env2 x=ev glob env x:=by
 cases x with
 | t k=>exact h k (by simp [IX.slots])
 | c a=>rfl
 | g k=>rfl
theorem aeX {o p:aI} (hap:aal o p=true) {env1 env2:Env} {s1 s2:St} (h1:fD glob call cx o env s=.norm env1 s1) (h2:fD glob call cx p env1 s1=.norm env2 s2):
  ∃f1 t1 f2,fD glob call cx p env s=.norm f1 t1∧fD glob call cx o f1 t1=.norm f2 s2∧EqE f2 env2:=absurd hap Bool.false_ne_true
theorem AQ {o:aI} {d:Nat} {l:List Nat} (h:o.callS=some (d,l)):∃f as kk,o=⟨some d,none,.callh d f as kk⟩∧l=(f.slots++as.flatMap IX.slots)++(kk.map (·.1)).toList:=by
 unfold aI.callS at h
 split at h
 ·split at h
  ·rename_i hd;cases h;subst hd;exact ⟨_,_,_,rfl,rfl⟩
  ·cases h
 ·cases h
theorem Pv {env2:Env} {s1 s2:St}:∀{kk:Option (Nat×Nat)},(∀k∈(kk.map (·.1)).toList,lk env2 k=lk env k)→uz env2 s1 s2 kk=uz env s1 s2 kk
 | none,_=>rfl
 | some (k,off),h=>by
  have h1:=h k (by simp);simp only [uz,h1]
theorem Gj {env2:Env} {x:IX} (h:∀k∈x.slots,lk env2 k=lk env k):rd glob env2 x=rd glob env x:=by
 unfold rd;rw [VN (env2:=env2) (env:=env) h]
theorem Gl {env2:Env}:∀{as:List IX},(∀k∈as.flatMap IX.slots,lk env2 k=lk env k)→rds glob env2 as=rds glob env as
 | [],_=>rfl
 | x::r,h=>by
  unfold rds;rw [Gj (env2:=env2) (env:=env) (fun k hk=>h k (by simp [hk])),Gl (as:=r) (fun k hk=>h k (by simp at hk ⊢;exact .inr hk))]
theorem Df {d:Nat} {f:IX} {as:List IX} {kk:Option (Nat×Nat)} {out:Out} (h:dX glob call cx ⟨some d,none,.callh d f as kk⟩ env s=out) (ho:out≠.fail):
  lk env d=none∧∃fv vs,rd glob env f=some fv∧rds glob env as=some vs∧((∃r s1,(call fv vs s cx=.ret r s1∧uz env s s1 kk=true)∧out=.norm ((d,.v r)::env) s1)∨∃v s1,call fv vs s cx=.pan v s1∧out=.pan v s1):=by
 simp only [dX,eY,aop] at h
 cases hk:lk env d with
 | some e=>rw [hk] at h;exact absurd h.symm ho
 | none=>
  rw [hk] at h;simp only [] at h
  cases hf:rd glob env f with
  | none=>rw [hf] at h;exact absurd h.symm ho
  | some fv=>
   cases hv:rds glob env as with
   | none=>rw [hf,hv] at h;exact absurd h.symm ho
   | some vs=>
    rw [hf,hv] at h;simp only [] at h;refine ⟨rfl,fv,vs,rfl,rfl, ?_⟩
    cases hc:call fv vs s cx with
    | fail=>rw [hc] at h;exact absurd h.symm ho
    | pan v s1=>rw [hc] at h;exact .inr ⟨v,s1,rfl,h.symm⟩
    | ret r s1=>
     rw [hc] at h;have hput:put env d (.v r)=(d,.v r)::env:=by unfold put;rw [hk]
     by_cases hkp:uz env s s1 kk=true
     ·simp only [hkp,if_true,EV.refers,Bool.false_eq_true,if_false,hput] at h;exact .inl ⟨r,s1,⟨rfl,hkp⟩,h.symm⟩
     ·simp only [hkp,if_false,Bool.false_eq_true] at h;exact absurd h.symm ho
theorem Dh {d:Nat} {f:IX} {as:List IX} {kk:Option (Nat×Nat)} {fv:AV} {vs:List AV} (hk:lk env d=none) (hf:rd glob env f=some fv) (hv:rds glob env as=some vs):
  dX glob call cx ⟨some d,none,.callh d f as kk⟩ env s=match call fv vs s cx with
   | .ret r s1=>if uz env s s1 kk=true then .norm ((d,.v r)::env) s1 else .fail
   | .pan v s1=>.pan v s1
   | .fail=>.fail:=by
 have hput:∀e,put env d e=(d,e)::env:=fun e=>by unfold put;rw [hk]
 simp only [dX,eY,aop,hk,hf,hv]
 cases call fv vs s cx with
 | ret r s1=>by_cases hkp:uz env s s1 kk=true<;>simp [EV.refers,hput,hkp]
 | _=>simp [EV.refers,hput]
theorem xR {d:Nat} {f:IX} {as:List IX} {kk:Option (Nat×Nat)}:(AOp.callh d f as kk).quiet.isSome=false:=rfl
theorem Jf {o:aI} {d:Nat} {f:IX} {as:List IX} {kk:Option (Nat×Nat)} {e:EV} {fv:AV} {vs:List AV} (hnd:∀k∈d::((f.slots++as.flatMap IX.slots)++(kk.map (·.1)).toList),o.dst≠some k):
  lk (rU env o.dst e) d=lk env d∧rd glob (rU env o.dst e) f=rd glob env f∧rds glob (rU env o.dst e) as=rds glob env as∧∀s1 s2,uz (rU env o.dst e) s1 s2 kk=uz env s1 s2 kk:=
 ⟨dL (hnd d (by simp)),Gj (fun k hk=>dL (hnd k (by simp [hk]))),
  Gl (fun k hk=>dL (hnd k (List.mem_cons_of_mem _ (List.mem_append_left _ (List.mem_append_right _ hk))))),
  fun _ _=>Pv (fun k hk=>dL (hnd k (List.mem_cons_of_mem _ (List.mem_append_right _ hk))))⟩
theorem abO {o:aI} {d:Nat} {f:IX} {as:List IX} {kk:Option (Nat×Nat)} (hq:o.op.quiet.isSome=true) (hnd:∀k∈d::((f.slots++as.flatMap IX.slots)++(kk.map (·.1)).toList),o.dst≠some k) (a3:∀k∈o.reads,¬k=d)
  {env1 env2:Env} {s1 s2:St} (h1:fD glob call cx o env s=.norm env1 s1) (h2:fD glob call cx ⟨some d,none,.callh d f as kk⟩ env1 s1=.norm env2 s2)
  (hsame:uz env s s2 kk=true→∀e,ug glob call o env s=some e→ug glob call o env s2=some e):
  ∃f1 t1 f2,fD glob call cx ⟨some d,none,.callh d f as kk⟩ env s=.norm f1 t1∧fD glob call cx o f1 t1=.norm f2 s2∧EqE f2 env2:=by
 rw [eG hq] at h1;rw [iU xR] at h2;obtain ⟨rfl,e,hqv,hokd,rfl⟩:=iY.1 h1;obtain ⟨hn,fv,vs,hf,hv,hcase⟩:=Df h2 (by simp);have hod:o.dst≠some d:=hnd d (by simp);obtain ⟨g1,g2,g3,g4⟩:=Jf (glob:=glob) (env:=env) (e:=e) (fv:=fv) (vs:=vs) hnd;rw [g1] at hn;rw [g2] at hf;rw [g3] at hv;rcases hcase with ⟨r,t,⟨hc,hk⟩,hout⟩|⟨_,_,_,hout⟩
 ·cases hout;rw [g4] at hk;refine ⟨(d,.v r)::env,s2,rU ((d,.v r)::env) o.dst e,by rw [iU xR,Dh hn hf hv,hc];simp only [hk,if_true], ?_, ?_⟩
  ·rw [eG hq];have agr:Agr (fun k=>k=d) env ((d,.v r)::env):=⟨fun k hk=>(eH _ _ (Ne.symm hk)).symm,fun k e hk he _=>by subst hk;rw [hn] at he;cases he⟩;refine iY.2 ⟨rfl,e,xP agr (fun k hk hkd=>a3 k hk hkd) (hsame hk e hqv),fun dp hdp=>⟨(hokd dp hdp).1, ?_⟩,rfl⟩
   have:=(hokd dp hdp).2
   unfold oV at this ⊢
   rwa [eH _ _ (fun h=>hod (by rw [hdp,h]))]
  ·exact Ir (d1:=o.dst) (d2:=some d) (e1:=e) (e2:=.v r) (fun x hx hd=>hod (by rw [hx,hd]))
 ·cases hout
theorem yK {o p:aI} (h:(match p.callS with|some (d,l)=>tX o.dst (d::l) && o.reads.all (fun j=>j != d)|none=>false)=true):
  ∃d f as kk,p=⟨some d,none,.callh d f as kk⟩∧(∀k∈d::((f.slots++as.flatMap IX.slots)++(kk.map (·.1)).toList),o.dst≠some k)∧∀k∈o.reads,¬k=d:=by
 cases hcs:p.callS with
 | none=>rw [hcs] at h;cases h
 | some q=>
  obtain ⟨d,l⟩:=q;rw [hcs] at h;simp only [Bool.and_eq_true,List.all_eq_true,bne_iff_ne,ne_eq] at h;obtain ⟨a2,a3⟩:=h;obtain ⟨f,as,kk,rfl,rfl⟩:=AQ hcs;refine ⟨d,f,as,kk,rfl,fun k hk hd=>?_,a3⟩;rw [hd] at a2;simp only [tX,List.all_eq_true,bne_iff_ne] at a2;exact a2 k hk rfl
theorem ae4 {o p:aI} (hap:wQ o p=true) {env1 env2:Env} {s1 s2:St} (h1:fD glob call cx o env s=.norm env1 s1) (h2:fD glob call cx p env1 s1=.norm env2 s2):
  ∃f1 t1 f2,fD glob call cx p env s=.norm f1 t1∧fD glob call cx o f1 t1=.norm f2 s2∧EqE f2 env2:=by
 simp only [wQ,Bool.and_eq_true] at hap;obtain ⟨a1,a2⟩:=hap;obtain ⟨d,f,as,kk,rfl,hnd,a3⟩:=yK a2;exact abO (qO a1) hnd a3 h1 h2 (fun _ e he=>by rw [Dw a1 s2 s];exact he)
theorem Qy {o p:aI} (hap:xY o p=true):∃a k off d f as,o.op=.loadv a k off∧o.guard=none∧p=⟨some d,none,.callh d f as (some (k,off))⟩∧
  (∀k'∈d::((f.slots++as.flatMap IX.slots)++((some (k,off)).map (·.1)).toList),o.dst≠some k')∧∀k'∈o.reads,¬k'=d:=by
 simp only [xY,Bool.and_eq_true,Option.isNone_iff_eq_none] at hap;obtain ⟨⟨a1,a2⟩,a3⟩:=hap;obtain ⟨d,f,as,kk,rfl,hnd,hr⟩:=yK a3
 split at a1
 ·rename_i a k off d' f' as' k' off' ho hp;injection hp with e1 e2 e3 e4;subst e4;simp only [Bool.and_eq_true,beq_iff_eq] at a1;obtain ⟨rfl,rfl⟩:=a1;exact ⟨a,k,off,d,f,as,ho,a2,rfl,hnd,hr⟩
 ·cases a1
theorem aeV {o p:aI} (hap:xY o p=true) {env1 env2:Env} {s1 s2:St} (h1:fD glob call cx o env s=.norm env1 s1) (h2:fD glob call cx p env1 s1=.norm env2 s2):
  ∃f1 t1 f2,fD glob call cx p env s=.norm f1 t1∧fD glob call cx o f1 t1=.norm f2 s2∧EqE f2 env2:=by
 obtain ⟨a,k,off,d,f,as,ho,hg,rfl,hnd,a3⟩:=Qy hap;refine abO (by rw [ho];rfl) hnd a3 h1 h2 (fun hk e he=>?_);unfold ug at he ⊢;rw [hg] at he ⊢;simp only [eY] at he ⊢
 split at he
 ·rename_i hok;rw [if_pos hok];rw [ho] at he ⊢;simp only [aop] at he ⊢;unfold uz at hk;dsimp only at hk
  cases hl:lk env k with
  | none=>rw [hl] at hk;cases hk
  | some x=>
   rw [hl] at hk he;revert hk he
   cases ev glob env a with
   | none=>intro he hk;cases he
   | some y=>
    cases y with
    | v ya=>
     cases ya with
     | pt l o1=>
      cases x with
      | v xa=>
       cases xa with
       | pt l' o'=>
        intro he hk;dsimp only at hk he ⊢;by_cases hlo:l=l'∧o1=o'+off
        ·rw [if_pos hlo] at he ⊢;obtain ⟨rfl,rfl⟩:=hlo
         cases hm:II s l (o'+off) with
         | none=>rw [hm] at hk;cases hk
         | some m=>
          cases hm2:II s2 l (o'+off) with
          | none=>rw [hm,hm2] at hk;cases hk
          | some m2=>
           rw [hm,hm2] at hk;simp only [beq_iff_eq] at hk;subst hk;rw [hm] at he
           simpa using he
        ·rw [if_neg hlo] at he;cases he
       | _=>intro he hk;cases he
      | _=>intro he hk;cases he
     | _=>intro he hk;cases he
    | _=>intro he hk;cases he
 ·cases he
theorem O9 {o:aI} {d:Nat} {f:IX} {as:List IX} {kk:Option (Nat×Nat)} (hq:o.op.quiet.isSome=true) (hnd:∀k∈d::((f.slots++as.flatMap IX.slots)++(kk.map (·.1)).toList),o.dst≠some k)
  {env1:Env} {s1:St} (h1:fD glob call cx o env s=.norm env1 s1) {v:AV} (h2:dX glob call cx ⟨some d,none,.callh d f as kk⟩ env1 s1=.pan v s'):s1=s∧dX glob call cx ⟨some d,none,.callh d f as kk⟩ env s=.pan v s':=by
 rw [eG hq] at h1;obtain ⟨rfl,e,hqv,hokd,rfl⟩:=iY.1 h1;obtain ⟨hn,fv,vs,hf,hv,hcase⟩:=Df h2 (by simp);obtain ⟨g1,g2,g3,g4⟩:=Jf (glob:=glob) (env:=env) (e:=e) (fv:=fv) (vs:=vs) hnd;rw [g1] at hn;rw [g2] at hf;rw [g3] at hv;rcases hcase with ⟨_,_,_,hout⟩|⟨v',t,hc,hout⟩
 ·cases hout
 ·cases hout;exact ⟨rfl,by rw [Dh hn hf hv,hc]⟩
theorem Xh {o p:aI} (hap:wQ o p=true∨xY o p=true) {env1:Env} {s1:St} (h1:fD glob call cx o env s=.norm env1 s1) {v:AV} (h2:dX glob call cx p env1 s1=.pan v s'):s1=s∧dX glob call cx p env s=.pan v s':=by
 rcases hap with hap|hap
 ·simp only [wQ,Bool.and_eq_true] at hap;obtain ⟨a1,a2⟩:=hap;obtain ⟨d,f,as,kk,rfl,hnd,_⟩:=yK a2;exact O9 (qO a1) hnd h1 h2
 ·obtain ⟨a,k,off,d,f,as,ho,hg,rfl,hnd,a3⟩:=Qy hap;exact O9 (by rw [ho];rfl) hnd h1 h2
theorem ae3 {o p:aI} (hap:N9 o p=true) {env1 env2:Env} {s1 s2:St} (h1:fD glob call cx o env s=.norm env1 s1) (h2:fD glob call cx p env1 s1=.norm env2 s2):
  s2=s1∧∃f1 f2,fD glob call cx p env s=.norm f1 s∧fD glob call cx o f1 s=.norm f2 s1∧EqE f2 env2:=by
 simp only [N9,Bool.and_eq_true] at hap;obtain ⟨a1,a2⟩:=hap;obtain ⟨d,f,as,kk,rfl,hnd,a3⟩:=yK (o:=p) (p:=o) a2;have hq:=qO a1;rw [iU xR] at h1;rw [eG hq] at h2;obtain ⟨hn,fv,vs,hf,hv,hcase⟩:=Df h1 (by simp);rcases hcase with ⟨r,t,⟨hc,hk⟩,hout⟩|⟨_,_,_,hout⟩
 ·cases hout;obtain ⟨rfl,e,hqv,hokd,rfl⟩:=iY.1 h2;have hpd:p.dst≠some d:=hnd d (by simp);have agr:Agr (fun k=>k=d) ((d,.v r)::env) env:=⟨fun k hk=>eH _ _ (Ne.symm hk),fun k e hk he ho=>by subst hk;rw [jy] at he;cases he;cases ho⟩;have hqv':ug glob call p env s=some e:=by rw [Dw a1 s s2];exact xP agr (fun k hk hkd=>a3 k hk hkd) hqv
  have hok':okD env p.dst e:=fun dp hdp=>⟨(hokd dp hdp).1,by
   have:=(hokd dp hdp).2
   unfold oV at this ⊢
   rwa [eH _ _ (fun h=>hpd (by rw [hdp,h]))] at this⟩
  obtain ⟨g1,g2,g3,g4⟩:=Jf (glob:=glob) (env:=env) (e:=e) (fv:=fv) (vs:=vs) hnd;refine ⟨rfl,rU env p.dst e,(d,.v r)::rU env p.dst e,by rw [eG hq];exact iY.2 ⟨rfl,e,hqv',hok',rfl⟩, ?_,Ir (d1:=some d) (d2:=p.dst) (e1:=.v r) (e2:=e) (fun x hx hd=>hpd (by cases hx;exact hd))⟩;rw [iU xR,Dh (by rw [g1];exact hn) (by rw [g2];exact hf) (by rw [g3];exact hv),hc];simp only [g4,hk,if_true]
 ·cases hout
def Rj (p:aI):Prop:=p.op.quiet.isSome=true∨(∃d zs,p=⟨some d,none,.lallocp d zs⟩)∨(∃op l,p=⟨none,none,op⟩∧op.heapy=some l∧TP op none=true)∨(∃n k x,p=⟨none,none,.storel n k x⟩)∨∃d f as kk,p=⟨some d,none,.callh d f as kk⟩
theorem Jz {p:aI} (hp:Rj p) (he:EqE env env2) {env1:Env} {s1:St} (h:fD glob call cx p env s=.norm env1 s1):∃env1',fD glob call cx p env2 s=.norm env1' s1∧EqE env1 env1':=by
 rcases hp with hq|⟨d,zs,rfl⟩|⟨op,l,rfl,hl,hd⟩|⟨n,k,x,rfl⟩|⟨d,f,as,kk,rfl⟩
 ·have hs:=zi hq h;subst hs;exact Xd hq he h
 ·obtain ⟨h1,rfl,rfl⟩:=JF.1 h;exact ⟨_,JF.2 ⟨by rw [←he];exact h1,rfl,rfl⟩,fun j=>by rw [iM,iM,he j]⟩
 ·rw [iU (sW hl)] at h ⊢;obtain ⟨e,rfl,_,_,hrun⟩:=yA hl hd h;exact ⟨_,hrun env2 (fun j _=>(he j).symm) (fun d hd=>by cases hd),he⟩
 ·obtain ⟨rfl,cs,xv,c1,c2,c3,rfl⟩:=LH.1 h;exact ⟨_,LH.2 ⟨rfl,cs,xv,by rw [←he];exact c1,by rw [VN (env2:=env2) (env:=env) (fun j _=>(he j).symm)];exact c2,c3,rfl⟩,fun j=>by rw [iM,iM,he j]⟩
 ·rw [iU xR] at h ⊢;obtain ⟨hn,fv,vs,hf,hv,hcase⟩:=Df h (by simp);rcases hcase with ⟨r,t,⟨hc,hk⟩,hout⟩|⟨_,_,_,hout⟩
  ·cases hout;refine ⟨(d,.v r)::env2, ?_,fun j=>by rw [iM,iM,he j]⟩;rw [Dh (by rw [←he];exact hn) (by rw [Gj (env2:=env2) (env:=env) (fun j _=>(he j).symm)];exact hf) (by rw [Gl (env2:=env2) (env:=env) (fun j _=>(he j).symm)];exact hv),hc];simp only [Pv (env2:=env2) (env:=env) (fun j _=>(he j).symm),hk,if_true]
  ·cases hout
theorem Rf {o p:aI} (h:apart o p=true):Rj p:=by
 simp only [apart,Bool.or_eq_true] at h;rcases h with ((((((((((h|h)|h)|h)|h)|h)|h)|h)|h)|h)|h)|h
 ·exact .inl (yN h).2.1
 ·exact absurd h Bool.false_ne_true
 ·exact .inl (J3 h).2.2
 ·simp only [N8,Bool.and_eq_true] at h;have h4:=h.1.1.2;exact .inl (qO h4)
 ·exact absurd h Bool.false_ne_true
 ·exact absurd h Bool.false_ne_true
 ·obtain ⟨pd,pg,pop⟩:=p;simp only [N7,Bool.and_eq_true,Option.isNone_iff_eq_none] at h;obtain ⟨⟨⟨⟨_,a2⟩,a3⟩,a4⟩,a5⟩:=h;subst a3 a4
  cases hl:pop.heapy with
  | none=>rw [hl] at a2;cases a2
  | some l=>exact .inr (.inr (.inl ⟨pop,l,rfl,hl,a5⟩))
 ·exact absurd h Bool.false_ne_true
 ·simp only [wQ,Bool.and_eq_true] at h
  cases hcs:p.callS with
  | none=>rw [hcs] at h;cases h.2
  | some q=>obtain ⟨f,as,kk,rfl,_⟩:=AQ hcs;exact .inr (.inr (.inr (.inr ⟨_,_,_,_,rfl⟩)))
 ·simp only [N9,Bool.and_eq_true] at h;exact .inl (qO h.1)
 ·obtain ⟨a,k,off,d,f,as,ho,hg,rfl,hnd,a3⟩:=Qy h;exact .inr (.inr (.inr (.inr ⟨_,_,_,_,rfl⟩)))
 ·obtain ⟨pd,pg,pop⟩:=p;simp only [NY,Bool.and_eq_true,Option.isNone_iff_eq_none] at h;obtain ⟨⟨⟨a1,a2⟩,a3⟩,a4⟩:=h;subst a3 a4
  split at a1
  ·exact .inr (.inr (.inl ⟨_,_,rfl,rfl,rfl⟩))
  ·cases a1
theorem swap {o p:aI} (hap:apart o p=true) {env1 env2:Env} {s1 s2:St} (h1:fD glob call cx o env s=.norm env1 s1) (h2:fD glob call cx p env1 s1=.norm env2 s2):
  ∃f1 t1 f2,fD glob call cx p env s=.norm f1 t1∧fD glob call cx o f1 t1=.norm f2 s2∧EqE f2 env2:=by
 simp only [apart,Bool.or_eq_true] at hap;rcases hap with ((((((((((hap|hap)|hap)|hap)|hap)|hap)|hap)|hap)|hap)|hap)|hap)|hap
 ·have ho:=(yN hap).1;have hp2:=(yN hap).2.1;have e1:=zi ho h1;subst e1;have e2:=zi hp2 h2;subst e2;rw [eG ho] at h1;rw [eG hp2] at h2;obtain ⟨f1,f2,q1,q2,q3⟩:=W9 hap h1 h2;exact ⟨f1,_,f2,by rw [eG hp2];exact q1,by rw [eG ho];exact q2,q3⟩
 ·obtain ⟨rfl,rfl,f1,f2,q⟩:=aeZ hap h1 h2;exact ⟨f1,_,f2,q⟩
 ·obtain ⟨rfl,f1,f2,q⟩:=aeY hap h1 h2;exact ⟨f1,_,f2,q⟩
 ·obtain ⟨rfl,f1,f2,q⟩:=ae2 hap h1 h2;exact ⟨f1,_,f2,q⟩
 ·exact aeW hap h1 h2
 ·exact ae0 hap h1 h2
 ·exact ae1 hap h1 h2
 ·exact aeX hap h1 h2
 ·exact ae4 hap h1 h2
 ·obtain ⟨rfl,f1,f2,q⟩:=ae3 hap h1 h2;exact ⟨f1,_,f2,q⟩
 ·exact aeV hap h1 h2
 ·exact aeU hap h1 h2
theorem bubble {i:Nat} {q:List Nat} {oi:aI} (hoi:aops[i]?=some oi) (hmv:Rj oi):∀(p:List Nat),(∀j∈p,A8 aops j i)→∀{env:Env} {s:St},Runs glob call cx aops (p++i::q) env s env' s'→
  ∃env1 s1,fD glob call cx oi env s=.norm env1 s1∧Runs glob call cx aops (p++q) env1 s1 env' s'
 | [],_,env,s,h=>by
  obtain ⟨o,e0,e1,s1,ho,he,hr,h2⟩:=h;rw [hoi] at ho;cases ho;obtain ⟨e3,h3,h4⟩:=Jz hmv he.symm hr;exact ⟨e3,s1,h3,h2.eqE h4.symm⟩
 | j::p,hap,env,s,h=>by
  obtain ⟨oj,e0,ej,sj,hoj,he,hrj,hrest⟩:=h;obtain ⟨ei,si,hri,h4⟩:=bubble hoi hmv p (fun k hk=>hap k (by simp [hk])) hrest;obtain ⟨o1,o2,h1,h2,hapr⟩:=hap j (by simp);rw [hoj] at h1;cases h1;rw [hoi] at h2;cases h2;obtain ⟨f1,t1,f2,q1,q2,q3⟩:=swap hapr hrj hri;obtain ⟨f3,q4,q5⟩:=Jz hmv he.symm q1;exact ⟨f3,t1,q4,oj,f1,f2,_,hoj,q5.symm,q2,h4.eqE q3⟩
theorem Ju {F:Fence} {n i b0:Nat} {N:Wd} {ls:List Nat} {o:Oper} {ao:aI} {Q:Exit→Act→World→Prop} {K:Act→World→Prop} (hcall:qx qt P glob call) (hext:gU call) (hF:isF F) (h:Fr P glob g s B w a env N b0 ls)
  (hi:ops[i]?=some o) (hc:sO P N ops o ao=true) (hr:yh glob call ao env s=.norm env' s)
  (hK:∀g' w' a',Step qt g s.length B w g' s.length w'→Fr P glob g' s B w' a' env' N b0 ls→K a' w'):wpOpIn F n P ops Q i K a w:=by
 obtain ⟨_,e,hq,hd,rfl⟩:=iY.1 hr;have hcx:eF ⟨s.length,s.length⟩ s:=⟨Nat.le_refl _,Nat.le_refl _⟩
 have key:∃env1,dX glob call ⟨s.length,s.length⟩ ao env s=.norm env1 s∧EqE env1 (rU env ao.dst e):=by
  unfold ug at hq;unfold dX
  split at hq
  ·cases hq
  ·rename_i hw;cases hq
   try simp only [hw]
   cases hdst:ao.dst with
   | none=>exact ⟨env,rfl,fun _=>rfl⟩
   | some d=>exact ⟨_,rfl,fun k=>by rw [Iq (hd d hdst).2];rfl⟩
  ·rename_i hw
   try simp only [hw]
   split at hq
   ·rename_i hok
    split at hq
    ·rename_i e1 env1 s1 ha
     split at hq
     ·rename_i hc2;cases hq;have hx:Ext ⟨s.length,s.length⟩ s s1:=Rh hext hcx ha
      have hs:s1=s:=by
       apply List.ext_getElem?;intro l;by_cases hl:l<s.length
       ·exact hx.lim l hl
       ·rw [List.getElem?_eq_none (by omega),List.getElem?_eq_none (by omega)]
      subst hs;unfold okQ at hok
      split at hok
      ·rename_i rs es hqu;simp only [Bool.and_eq_true] at hok;obtain ⟨hl,_⟩:=WI (Agr.refl env) hqu (fun x _ k _ hf=>hf) hok.1 hok.2 ha;rw [ha];simp only []
       cases hdst:ao.dst with
       | none=>exact ⟨env1,rfl,hl⟩
       | some d=>
        obtain ⟨d1,d2⟩:=hd d hdst;simp only [d1];refine ⟨_,rfl,fun k=>?_⟩;rw [Iq (by unfold oV at d2 ⊢;rw [hl d];exact d2)];exact (EqE.put (env:=env1) (env2:=env) hl (some d) e) k
      ·cases hok
     ·cases hq
    ·cases hq
   ·cases hq
 obtain ⟨env1,hr1,he⟩:=key;exact BP hcall hext hF hcx h hi hc hr1 (fun g' w' a' hs hf=>hK g' w' a' hs (hf.eqE he))
end Go.Ai
namespace Go.Ai
variable {qt:Prop} {P:Program} {glob:Nat→Option (List AV)} {g:ai} {s:St} {B:Nat} {w:World} {env env2:Env} {a:Act} {call:AV→List AV→St→Ctx→CO} {cx:Ctx} {env':Env} {s':St} {ops:Array Oper} {aops:List aI}
theorem AP {N:Wd} {all:Array Oper}:∀(os:List Oper) (aos:List aI),kK P N all os aos=true→∀(i:Nat) (o:Oper),os[i]?=some o→∃ao,aos[i]?=some ao∧sO P N all o ao=true
 | [],_,_,i,o,h=>by simp at h
 | o::os,[],hc,_,_,_=>by simp [kK] at hc
 | o::os,ao::aos,hc,i,o',h=>by
  simp only [kK,Bool.and_eq_true] at hc
  cases i with
  | zero=>simp at h;subst h;exact ⟨ao,rfl,hc.1⟩
  | succ i=>simp at h;simpa using AP os aos hc.2 i o' h
theorem abe {F:Fence} {n b0:Nat} {N:Wd} {ls:List Nat} {Q:Exit→Act→World→Prop} (hcall:qx qt P glob call) (hext:gU call) (hF:isF F)
  (hops:∀(i:Nat) (o:Oper),ops[i]?=some o→∃ao,aops[i]?=some ao∧sO P N ops o ao=true):
  ∀(fuel:Nat) (listed:Array Bool) (l:List Nat) {env:Env} {g:ai} {s:St} {w:World} {a:Act},l.length=fuel→Inv ops aops listed l→
    Runs glob call cx aops l env s env' s'→eF cx s→Fr P glob g s B w a env N b0 ls→
    (∀g' w' a',Step qt g s.length B w g' s'.length w'→Fr P glob g' s' B w' a' env' N b0 ls→Q .normal a' w')→wpAnyIn F n P .any ops Q fuel listed a w:=by
 intro fuel
 induction fuel with
 | zero=>
  intro listed l env g s w a hlen hinv hrun hcx hfr hQ;have hnil:l=[]:=List.eq_nil_of_length_eq_zero hlen;subst hnil;obtain ⟨he,rfl⟩:=hrun;exact ⟨hinv.nil_ready,hQ g w a (.refl _ _ _ _) (hfr.eqE he)⟩
 | succ fuel ih=>
  intro listed l env g s w a hlen hinv hrun hcx hfr hQ;refine ⟨fun h0=>?_,fun i hi=>?_⟩
  ·cases l with
   | nil=>cases hlen
   | cons j t=>have:=hinv.head_ready;rw [h0] at this;cases this
  ·have hmem:=hinv.ready_mem hi;obtain ⟨_,o,ho,_⟩:=mem_ready.1 hi;obtain ⟨ao,hao,hchk⟩:=hops i o ho;obtain ⟨p,q,rfl⟩:=List.append_of_mem hmem
   have hpair:∀j∈p,A8 aops j i:=by
    intro j hj
    have:=(List.pairwise_append.1 hinv.pairs).2.2 j hj i (by simp)
    rcases this with h1|h1
    ·exact absurd h1 (hinv.not_reach hi (by simp [hj]))
    ·exact h1
   have hinv':Inv ops aops (listed.setIfInBounds i true) (p++q):=hinv.remove hi;have hlen':(p++q).length=fuel:=by simp at hlen ⊢;omega
   have loudCase:∀{env1:Env} {s1:St},ao.op.quiet.isSome=false→(∃e0,EqE env e0∧dX glob call cx ao e0 s=.norm env1 s1)→Runs glob call cx aops (p++q) env1 s1 env' s'→wpOpIn F n P ops Q i (fun a' w'=>wpAnyIn F n P .any ops Q fuel (listed.setIfInBounds i true) a' w') a w:=by
    intro env1 s1 hqq ⟨e0,he,hr1⟩ hrest;have hx:Ext cx s s1:=nP hext hcx (o:=ao) (by rw [hr1];rfl);exact BP hcall hext hF hcx (hfr.eqE he) ho hchk hr1 (fun g1 w1 a1 st1 hf1=>ih _ (p++q) hlen' hinv' hrest (hcx.ext hx) hf1 (fun g2 w2 a2 st2 hf2=>hQ g2 w2 a2 (st1.trans st2) hf2))
   cases hqq:ao.op.quiet.isSome with
   | true=>
    obtain ⟨env1,s1,hr1,hrest⟩:=bubble hao (.inl hqq) p hpair hrun;have hs:=zi hqq hr1;subst hs;rw [eG hqq] at hr1;exact Ju hcall hext hF hfr ho hchk hr1 (fun g1 w1 a1 st1 hf1=>ih _ (p++q) hlen' hinv' hrest hcx hf1 (fun g2 w2 a2 st2 hf2=>hQ g2 w2 a2 (st1.trans st2) hf2))
   | false=>
    cases p with
    | cons j p=>
     obtain ⟨o1,o2,h1,h2,hapr⟩:=hpair j (by simp);rw [hao] at h2;cases h2;obtain ⟨env1,s1,hr1,hrest⟩:=bubble hao (Rf hapr) (j::p) hpair hrun;rw [iU hqq] at hr1;exact loudCase hqq ⟨env,.refl _,hr1⟩ hrest
    | nil=>
     obtain ⟨o',e0,env1,s1,ho',he,hr1,hrest⟩:=hrun;rw [hao] at ho';cases ho';rw [iU hqq] at hr1;exact loudCase hqq ⟨e0,he,hr1⟩ hrest
theorem EF {b0:Nat} {N:Wd} {ls:List Nat}:∀(ts:List Nat) {g:ai} {env:Env},Fr P glob g s B w a env N b0 ls→∃g',Step qt g s.length B w g' s.length w∧Fr P glob g' s B w a (y9 env ts) N b0 ls
 | [],g,env,h=>⟨g,.refl _ _ _ _,h⟩
 | k::ts,g,env,h=>by
  unfold y9;split
  ·rename_i tip t sz es hk;obtain ⟨g1,st1,hs1,_⟩:=DF h.sim hk;obtain ⟨g2,st2,h2⟩:=EF ts (h.next hs1 rfl rfl st1.le (fun _ hh=>hh) (fun _ _=>rfl));exact ⟨g2,st1.weak.trans st2,h2⟩
  ·exact EF ts h
theorem H7:∀(π seen:List Nat),Le ops π seen=true→(∀i∈π,i<ops.size)∧π.Nodup∧(∀i∈π,i ∉ seen)∧∀p i q,π=p++i::q→∀e∈sG ops i,e∈seen∨e∈p
 | [],seen,_=>⟨fun _ h=>(by cases h),List.nodup_nil,fun _ h=>(by cases h),fun p i q h=>by simp at h⟩
 | i::r,seen,h=>by
  simp only [Le,Bool.and_eq_true,decide_eq_true_eq,List.all_eq_true,Bool.not_eq_true',List.contains_eq_mem,decide_eq_false_iff_not] at h;obtain ⟨⟨⟨h1,h2⟩,h3⟩,h4⟩:=h;obtain ⟨a1,a2,a3,a4⟩:=H7 r (i::seen) h4;refine ⟨fun j hj=>?_,List.nodup_cons.2 ⟨fun hh=>a3 i hh (by simp),a2⟩,fun j hj=>?_,fun p k q heq e he=>?_⟩
  ·rcases List.mem_cons.1 hj with rfl|hj
   ·exact h1
   ·exact a1 j hj
  ·rcases List.mem_cons.1 hj with rfl|hj
   ·exact h2
   ·exact fun hh=>a3 j hj (by simp [hh])
  ·cases p with
   | nil=>simp at heq;obtain ⟨rfl,rfl⟩:=heq;exact .inl (h3 e he)
   | cons x p=>
    simp at heq;obtain ⟨rfl,rfl⟩:=heq;rcases a4 p k q rfl e he with h5|h5
    ·rcases List.mem_cons.1 h5 with rfl|h5
     ·exact .inr (by simp)
     ·exact .inl h5
    ·exact .inr (by simp [h5])
theorem Iu:∀{π:List Nat} {c:Nat} {oc:aI},UN aops π=some (c,oc)→c∈π∧aops[c]?=some oc∧oc.callS.isSome=true
 | [],c,oc,h=>by cases h
 | i::r,c,oc,h=>by
  unfold UN at h
  split at h
  ·rename_i o ho
   split at h
   ·rename_i hc;cases h;exact ⟨by simp,ho,hc⟩
   ·obtain ⟨h1,h2⟩:=Iu h;exact ⟨by simp [h1],h2⟩
  ·obtain ⟨h1,h2⟩:=Iu h;exact ⟨by simp [h1],h2⟩
theorem Reach.tr {ops:Array Oper} {i j k:Nat} (h:Reach ops i j) (h2:Reach ops j k):Reach ops i k:=by
 induction h with
 | edge he=>exact .trans he h2
 | trans he _ ih=>exact .trans he (ih h2)
theorem BN {c:Nat}:∀(l:List Nat) (ds:List aI),l.Pairwise (fun j i=>Reach ops i j∨A8 aops j i)→
  (∀d∈ds,∃j,aops[j]?=some d∧(j=c∨Reach ops j c)∧∀i∈l,Reach ops i j∨A8 aops j i)→(∀i∈l,∃o,aops[i]?=some o)→
  (vW aops c ds l).Sublist l∧∀i∈l,i∈vW aops c ds l∨i=c∨Reach ops i c
 | [],ds,_,_,_=>⟨.slnil,fun i h=>by cases h⟩
 | i::r,ds,hp,hs,ha=>by
  obtain ⟨hp1,hp2⟩:=List.pairwise_cons.1 hp;obtain ⟨o,ho⟩:=ha i (by simp)
  have hs':∀d∈ds,∃j,aops[j]?=some d∧(j=c∨Reach ops j c)∧∀i∈r,Reach ops i j∨A8 aops j i:=fun d hd=>by
   obtain ⟨j,q1,q2,q3⟩:=hs d hd;exact ⟨j,q1,q2,fun k hk=>q3 k (by simp [hk])⟩
  have hskip:(i=c∨Reach ops i c)→(vW aops c (o::ds) r).Sublist (i::r)∧∀k∈i::r,k∈vW aops c (o::ds) r∨k=c∨Reach ops k c:=fun hic=>by
   obtain ⟨h1,h2⟩:=BN r (o::ds) hp2 (fun d hd=>by
    rcases List.mem_cons.1 hd with rfl|hd
    ·exact ⟨i,ho,hic,hp1⟩
    ·exact hs' d hd) (fun j hj=>ha j (by simp [hj]))
   refine ⟨h1.cons _,fun j hj=>?_⟩;rcases List.mem_cons.1 hj with rfl|hj
   ·exact .inr hic
   ·exact h2 j hj
  unfold vW;rw [ho];simp only [];split
  ·rename_i hic;exact hskip (.inl hic)
  ·split
   ·rename_i hany;obtain ⟨d,hd,hda⟩:=List.any_eq_true.1 hany;obtain ⟨j,q1,q2,q3⟩:=hs d hd;refine hskip (.inr ?_)
    have hij:Reach ops i j:=by
     rcases q3 i (by simp) with h|⟨o1,o2,z1,z2,z3⟩
     ·exact h
     ·rw [q1] at z1;cases z1;rw [ho] at z2;cases z2;rw [z3] at hda;cases hda
    rcases q2 with rfl|q2
    ·exact hij
    ·exact hij.tr q2
   ·obtain ⟨h1,h2⟩:=BN r ds hp2 hs' (fun j hj=>ha j (by simp [hj]));refine ⟨h1.cons_cons _,fun j hj=>?_⟩;rcases List.mem_cons.1 hj with rfl|hj
    ·exact .inl (by simp)
    ·rcases h2 j hj with h|h
     ·exact .inl (by simp [h])
     ·exact .inr h
theorem UM {c:Nat} {oc:aI} (hoc:aops[c]?=some oc) (l:List Nat) (hp:l.Pairwise (fun j i=>Reach ops i j∨A8 aops j i)) (ha:∀i∈l,∃o,aops[i]?=some o):
  (BO aops c oc false l).Sublist l∧∀i∈l,i∈BO aops c oc false l∨i=c∨Reach ops i c:=
 BN l [] hp (fun d hd=>by cases hd) ha
theorem VH {R:Nat→Nat→Prop} {c:Nat}:∀(π:List Nat),π.Pairwise R→c∈π→∀j∈π.takeWhile (fun x=>x != c),R j c
 | [],_,hc,_,_=>by cases hc
 | i::r,hp,hc,j,hj=>by
  obtain ⟨hp1,hp2⟩:=List.pairwise_cons.1 hp;by_cases hic:i=c
  ·subst hic;simp at hj
  ·rw [List.takeWhile_cons_of_pos (by simpa using hic)] at hj
   have hcr:c∈r:=by
    rcases List.mem_cons.1 hc with h|h
    ·exact absurd h.symm hic
    ·exact h
   rcases List.mem_cons.1 hj with rfl|hj
   ·exact hp1 c hcr
   ·exact VH r hp2 hcr j hj
theorem Xe {op:AOp} (h:op.pre=true):op.quiet.isSome=true:=by
 cases op<;>first|rfl|exact qO h
theorem Uo {o p:aI} (h:apart o p=true) (hcs:p.callS.isSome=true):wQ o p=true∨xY o p=true:=by
 obtain ⟨q,hq⟩:=Option.isSome_iff_exists.1 hcs;obtain ⟨f,as,kk,rfl,_⟩:=AQ (d:=q.1) (l:=q.2) hq;simp only [apart,Bool.or_eq_true] at h;rcases h with ((((((((((h|h)|h)|h)|h)|h)|h)|h)|h)|h)|h)|h
 ·simp [Oa,AOp.quiet] at h
 ·exact absurd h Bool.false_ne_true
 ·simp [NZ,AOp.quiet] at h
 ·simp [N8,AOp.free] at h
 ·exact absurd h Bool.false_ne_true
 ·exact absurd h Bool.false_ne_true
 ·simp [N7] at h
 ·exact absurd h Bool.false_ne_true
 ·exact .inl h
 ·simp [N9,AOp.free] at h
 ·exact .inr h
 ·simp [NY] at h
theorem PZ {oc:aI} (hcs:oc.callS.isSome=true) (he:EqE env env2) {s1:St} {v:AV} (h:dX glob call cx oc env2 s=.pan v s1):dX glob call cx oc env s=.pan v s1:=by
 obtain ⟨q,hq⟩:=Option.isSome_iff_exists.1 hcs;obtain ⟨f,as,kk,rfl,_⟩:=AQ (d:=q.1) (l:=q.2) hq;obtain ⟨hn,fv,vs,hf,hv,hcase⟩:=Df h (by simp);rcases hcase with ⟨_,_,⟨_,_⟩,hout⟩|⟨v',t,hc,hout⟩
 ·cases hout
 ·cases hout;rw [Dh (by rw [he];exact hn) (by rw [Gj (env2:=env) (env:=env2) (fun j _=>he j)];exact hf) (by rw [Gl (env2:=env) (env:=env2) (fun j _=>he j)];exact hv),hc]
theorem RP {oc:aI} (hcs:oc.callS.isSome=true) {v:AV} {env1:Env} {s1:St}:∀(pl:List Nat),(∀j∈pl,∃oj,aops[j]?=some oj∧oj.op.pre=true∧(wQ oj oc=true∨xY oj oc=true))→∀{env:Env} {s:St},Runs glob call cx aops pl env s env1 s1→dX glob call cx oc env1 s1=.pan v s'→
  dX glob call cx oc env s=.pan v s'
 | [],_,env,s,hr,h=>by
  obtain ⟨he,rfl⟩:=hr;exact PZ hcs he h
 | j::r,hf,env,s,hr,h=>by
  obtain ⟨o,e0,e1,s2,ho,he,hr1,hrest⟩:=hr;have h2:=RP hcs r (fun k hk=>hf k (by simp [hk])) hrest h;obtain ⟨oj,q1,q2,q3⟩:=hf j (by simp);rw [ho] at q1;cases q1;obtain ⟨rfl,h3⟩:=Xh q3 hr1 h2;exact PZ hcs he h3
theorem Z5 {F:Fence} {n b0:Nat} {N:Wd} {ls:List Nat} {Q:Exit→Act→World→Prop} (hcall:qx qt P glob call) (hext:gU call) (hF:isF F)
  (hops:∀(i:Nat) (o:Oper),ops[i]?=some o→∃ao,aops[i]?=some ao∧sO P N ops o ao=true) {c:Nat} {oc:aI} {v:AV} {env1:Env} {s1:St} (hoc:aops[c]?=some oc) (hcs:oc.callS.isSome=true) (hpan:dX glob call cx oc env1 s1=.pan v s'):
  ∀(fuel:Nat) (listed:Array Bool) (l pl:List Nat) {env:Env} {g:ai} {s:St} {w:World} {a:Act},l.length=fuel→Inv ops aops listed l→c∈l→pl.Sublist l→(∀i∈l,i∈pl∨i=c∨Reach ops i c)→(∀j∈pl,∃oj,aops[j]?=some oj∧oj.op.pre=true∧((wQ oj oc=true∨xY oj oc=true)∨Reach ops c j))→
    Runs glob call cx aops pl env s env1 s1→eF cx s→Fr P glob g s B w a env N b0 ls→
    (∀u g' w' a',Step qt g s.length B w g' s'.length w'→Fr P glob g' s' B w' a' [] N b0 ls→Rep g' s'.length u v→Q (.panic [{ v:=u,recovered:=false }]) a' w')→wpAnyIn F n P .any ops Q fuel listed a w:=by
 intro fuel
 induction fuel with
 | zero=>
  intro listed l pl env g s w a hlen hinv hcl hsub hcov hfree hrun hcx hfr hQ;have hnil:l=[]:=List.eq_nil_of_length_eq_zero hlen;subst hnil;cases hcl
 | succ fuel ih=>
  intro listed l pl env g s w a hlen hinv hcl hsub hcov hfree hrun hcx hfr hQ;refine ⟨fun h0=>?_,fun i hi=>?_⟩
  ·cases l with
   | nil=>cases hlen
   | cons j t=>have:=hinv.head_ready;rw [h0] at this;cases this
  ·have hmem:=hinv.ready_mem hi;obtain ⟨_,o,ho,_⟩:=mem_ready.1 hi;obtain ⟨ao,hao,hchk⟩:=hops i o ho;by_cases hic:i=c
   ·subst hic;rw [hoc] at hao;cases hao
    exact YZ hcall hext hF hcx hfr ho hchk (RP hcs pl (fun j hj=>by
     obtain ⟨oj,q1,q2,q3⟩:=hfree j hj
     exact ⟨oj,q1,q2,q3.elim id (fun h=>absurd h (hinv.not_reach hi (hsub.subset hj)))⟩) hrun hpan) hQ
   ·rcases hcov i hmem with hip|hip|hip
    ·obtain ⟨p,q,rfl⟩:=List.append_of_mem hip;obtain ⟨p0,q0,rfl⟩:=List.append_of_mem hmem;obtain ⟨oi,q1,q2,q3⟩:=hfree i (by simp);rw [hao] at q1;cases q1;have hqq:ao.op.quiet.isSome=true:=Xe q2;have hnd:=hinv.nd
     have hni0:i ∉ p0:=by
      rw [List.nodup_append] at hnd;exact fun h=>hnd.2.2 i h i (by simp) rfl
     have hni:i ∉ p:=by
      have h1:=hsub.nodup hnd;rw [List.nodup_append] at h1;exact fun h=>h1.2.2 i h i (by simp) rfl
     have hsub':(p++q).Sublist (p0++q0):=by
      have:=hsub.erase i
      rwa [List.erase_append_right _ hni,List.erase_append_right _ hni0,List.erase_cons_head,List.erase_cons_head] at this
     have hpair:∀j∈p,A8 aops j i:=by
      intro j hj
      have:=(List.pairwise_append.1 (hinv.pairs.sublist hsub)).2.2 j hj i (by simp)
      rcases this with h1|h1
      ·exact absurd h1 (hinv.not_reach hi (hsub.subset (by simp [hj])))
      ·exact h1
     obtain ⟨env2,s2,hr1,hrest⟩:=bubble hao (.inl hqq) p hpair hrun;have hs:=zi hqq hr1;subst hs;rw [eG hqq] at hr1
     refine Ju hcall hext hF hfr ho hchk hr1 (fun g1 w1 a1 st1 hf1=>ih _ (p0++q0) (p++q) (by simp at hlen ⊢;omega) (hinv.remove hi) ?_ hsub' (fun j hj=>?_) (fun j hj=>hfree j (by rcases List.mem_append.1 hj with h|h<;>simp [h])) hrest hcx hf1 (fun u g2 w2 a2 st2 hf2 hr2=>hQ u g2 w2 a2 (st1.trans st2) hf2 hr2))
     ·rcases List.mem_append.1 hcl with h|h
      ·exact List.mem_append_left _ h
      ·rcases List.mem_cons.1 h with h|h
       ·exact absurd h.symm hic
       ·exact List.mem_append_right _ h
     ·have hji:j≠i:=fun h=>by
       subst h;rcases List.mem_append.1 hj with h|h
       ·exact hni0 h
       ·rw [List.nodup_append] at hnd;exact (List.nodup_cons.1 hnd.2.1).1 h
      rcases hcov j (by rcases List.mem_append.1 hj with h|h<;>simp [h]) with h|h
      ·rcases List.mem_append.1 h with h|h
       ·exact .inl (by simp [h])
       ·rcases List.mem_cons.1 h with h|h
        ·exact absurd h hji
        ·exact .inl (by simp [h])
      ·exact .inr h
    ·exact absurd hip hic
    ·exact absurd hip (hinv.not_reach hi hcl)
theorem TQ {π:List Nat} (hdr:H9 ops aops π=true):π.length=ops.size∧Inv ops aops (Array.replicate ops.size false) π:=by
 simp only [H9,Bool.and_eq_true,beq_iff_eq,List.all_eq_true,List.mem_range,List.contains_eq_mem,decide_eq_true_eq] at hdr;obtain ⟨⟨⟨hlen,hall⟩,htopo⟩,hpairs⟩:=hdr;obtain ⟨t1,t2,_,t4⟩:=H7 π [] htopo;have hpw:=Ey (ops:=ops) (MR π [] (fun e j h=>by simp [Fa] at h)) π hpairs;refine ⟨hlen,by simp,fun j hj=>?_,t1,t2,hpw,fun i hi=>?_,fun p i q heq e he=>?_⟩
 ·simp [Array.getD_eq_getD_getElem?,hj];exact hall j hj
 ·exfalso;rw [Array.getD_eq_getD_getElem?] at hi
  by_cases hlt:i<ops.size<;>simp [hlt] at hi
 ·rcases t4 p i q heq e he with h|h
  ·cases h
  ·exact .inr h
theorem abd (hM:P.follows .mixedOrders=true) (hcall:qx qt P glob call) (hext:gU call):Dt qt P glob call:=by
 have start:∀{g:ai} {s:St} {B:Nat} {w:World} {a:Act} {env:Env} {b0:Nat} {N:Wd} {ls ts:List Nat},Fr P glob g s B w a env N b0 ls→
   ∃g1,Step qt g s.length B w g1 s.length { w with drawn:=w.drawn+1 }∧Fr P glob g1 s B { w with drawn:=w.drawn+1 } a (y9 env ts) N b0 ls:=by
  intro g s B w a env b0 N ls ts hfr
  have hfr0:Fr P glob g s B { w with drawn:=w.drawn+1 } a env N b0 ls:=by
   refine hfr.next ⟨hfr.sim.base.grew (qt:=False) ⟨Nat.le_refl _,fun _ _=>rfl,rfl,rfl,fun h=>h.elim⟩,hfr.sim.env.next (.refl _ _) (fun k e hk ho b hb=>⟨rfl,rfl,rfl,fun ht=>ht⟩),hfr.sim.B⟩ rfl rfl (.refl _ _) (fun _ h=>h) (fun _ _=>rfl)
  have hst0:Step qt g s.length B w g s.length { w with drawn:=w.drawn+1 }:=⟨.refl _ _,Nat.le_refl _,fun _ _ _=>rfl,fun _ _ _=>rfl,fun _ _=>rfl,fun b hb=>.inl hb,rfl,rfl,fun _=>⟨rfl,Nat.le_succ _⟩⟩;obtain ⟨g1,st1,hf1⟩:=EF ts hfr0;exact ⟨g1,hst0.trans st1,hf1⟩
 constructor
 ·intro F n id B b0 N ls ops aops π ts Q cx g s s' w a env env' hF hops hdr hcx hfr hrun hQ;obtain ⟨hlen,hinv⟩:=TQ hdr;refine wpIn_region_any hM ?_;obtain ⟨g1,st1,hf1⟩:=start (ts:=ts) hfr;simp only [oQ] at hrun
  replace hrun:iD glob call cx aops π (y9 env ts) s=.norm env' s':=by
   cases hd:iD glob call cx aops π (y9 env ts) s with
   | pan v s1=>
    rw [hd] at hrun;obtain ⟨_,_,_,_,_,_,_,_,_,_,h3⟩:=yD (show vF glob call cx aops π (y9 env ts) s=.norm env' s' from hrun) (by simp);cases h3
   | _=>rw [hd] at hrun;exact hrun
  exact abe hcall hext hF (fun i o ho=>AP _ _ hops i o (by simpa using ho)) ops.size _ π hlen hinv (Qh π hrun) hcx hf1 (fun g2 w2 a2 st2 hf2=>hQ g2 w2 a2 (st1.trans st2) hf2)
 ·intro F n id B b0 N ls ops aops π ts Q cx g s s' w a env v hF hops hdr hcx hfr hrun hQ;obtain ⟨hlen,hinv⟩:=TQ hdr;refine wpIn_region_any hM ?_;obtain ⟨g1,st1,hf1⟩:=start (ts:=ts) hfr;simp only [oQ] at hrun
  replace hrun:vF glob call cx aops π (y9 env ts) s=.pan v s':=by
   cases hd:iD glob call cx aops π (y9 env ts) s with
   | pan v s1=>rw [hd] at hrun;exact hrun
   | _=>rw [hd] at hrun;cases hrun
  obtain ⟨c,oc,env1,s1,v',s2,hpc,hall,hr1,hr2,h3⟩:=yD hrun (by simp);cases h3;obtain ⟨hcm,hoc,hcs⟩:=Iu hpc;have hops':∀(i:Nat) (o:Oper),ops[i]?=some o→∃ao,aops[i]?=some ao∧sO P N ops o ao=true:=fun i o ho=>AP _ _ hops i o (by simpa using ho)
  obtain ⟨hsub,hcov⟩:=UM (ops:=ops) hoc π hinv.pairs (fun i hi=>by
   have hlt:=hinv.lt i hi;obtain ⟨ao,h1,_⟩:=hops' i (ops[i]'hlt) (by simp [hlt])
   exact ⟨ao,h1⟩)
  refine Z5 hcall hext hF hops' hoc hcs hr2 ops.size _ π _ hlen hinv hcm hsub hcov (fun j hj=>?_) (Qh _ hr1) hcx hf1 (fun u g2 w2 a2 st2 hf2 hr3=>hQ u g2 w2 a2 (st1.trans st2) hf2 hr3)
  have:=List.all_eq_true.1 hall j hj
  split at this
  ·rename_i oj hoj;simp only [Bool.and_eq_true,Bool.or_eq_true,List.contains_eq_mem,decide_eq_true_eq] at this;refine ⟨oj,hoj,this.1, ?_⟩;rcases this.2 with (h|h)|h
   ·exact .inl (.inl h)
   ·exact .inl (.inr h)
   ·rcases VH π hinv.pairs hcm j h with h|⟨o1,o2,q1,q2,q3⟩
    ·exact .inr h
    ·rw [hoj] at q1;cases q1;rw [hoc] at q2;cases q2;exact .inl (Uo q3 hcs)
  ·cases this
end Go.Ai
