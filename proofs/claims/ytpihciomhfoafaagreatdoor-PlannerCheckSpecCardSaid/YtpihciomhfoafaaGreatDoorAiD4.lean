/-
 Open regions: operations change places.
-/
import Derived.Test.YtpihciomhfoafaaGreatDoorAiD2
import Derived.Test.YtpihciomhfoafaaGreatDoorAiA8
set_option maxRecDepth 100000
set_option linter.unusedSimpArgs false
set_option linter.unusedVariables false
set_option linter.unusedSectionVars false
namespace Go.Ai
variable {qt:Prop} {P:Program} {glob:Nat→Option (List AV)} {g:af} {s:St} {B:Nat} {w:World} {env env2:Env} {a:Act} {call:AV→List AV→St→Ctx→CO} {cx:Ctx} {env':Env} {s':St} {ops:Array Oper} {aops:List ak}
theorem aV {o:ak} (h:o.op.quiet.isSome=true):bV glob call cx o env s=xE glob call o env s:=by
 unfold bV;rw [if_pos h]
theorem bY {o:ak} (h:o.op.quiet.isSome=false):bV glob call cx o env s=bD glob call cx o env s:=by
 unfold bV;rw [if_neg (by rw [h];simp)]
theorem Kq {d:Nat} {e:EV} (h:iC env d=false):put env d e=(d,e)::env:=by
 unfold put
 unfold iC at h
 split
 ·rename_i o ho;rw [ho] at h;simp [h]
 ·rfl
def Runs (glob:Nat→Option (List AV)) (call:AV→List AV→St→Ctx→CO) (cx:Ctx) (aops:List ak):List Nat→Env→St→Env→St→Prop
 | [],env,s,env',s'=>EqE env env'∧s'=s
 | i::r,env,s,env',s'=>∃o sH env1 s1,aops[i]?=some o∧EqE env sH∧bV glob call cx o sH s=.norm env1 s1∧Runs glob call cx aops r env1 s1 env' s'
theorem EqE.trans {env3:Env} (h:EqE env env2) (h':EqE env2 env3):EqE env env3:=fun k=>(h k).trans (h' k)
theorem EqE.symm (h:EqE env env2):EqE env2 env:=fun k=>(h k).symm
theorem EqE.refl (env:Env):EqE env env:=fun _=>rfl
theorem Runs.eqE {l:List Nat} (h:Runs glob call cx aops l env s env' s') (he:EqE env2 env):Runs glob call cx aops l env2 s env' s':=by
 cases l with
 | nil=>exact ⟨he.trans h.1,h.2⟩
 | cons i r=>obtain ⟨o,e0,e1,s1,h1,h2,h3,h4⟩:=h;exact ⟨o,e0,e1,s1,h1,he.trans h2,h3,h4⟩
theorem Q7:∀(l:List Nat) {env:Env} {s:St},dX glob call cx aops l env s=.norm env' s'→Runs glob call cx aops l env s env' s'
 | [],env,s,h=>by simp only [dX,Out.norm.injEq] at h;exact ⟨by rw [h.1];exact .refl _,h.2.symm⟩
 | i::r,env,s,h=>by
  simp only [dX] at h
  split at h
  ·cases h
  ·rename_i o ho
   split at h
   ·rename_i env1 s1 hr;exact ⟨o,env,env1,s1,ho,.refl _,hr,Q7 r h⟩
   ·rename_i hne;exact absurd h (hne _ _)
theorem yC {d:Nat} {e:EV} {k:Nat} (hk:k≠d):lk (put env d e) k=(if iC env d=true then (lk env k).map (fun x=>if x.refers d then .v .u else x) else lk env k):=by
 by_cases ho:iC env d=true
 ·rw [if_pos ho]
  unfold iC at ho
  unfold put
  split
  ·rename_i o hlo
   rw [hlo] at ho
   simp only [] at ho
   rw [if_pos ho,aJ _ _ (Ne.symm hk),pq]
  ·rename_i hlo;rw [hlo] at ho;cases ho
 ·rw [if_neg ho,Kq (by simpa using ho),aJ _ _ (Ne.symm hk)]
theorem X3 {X X':Env} {d dj:Nat} {e:EV} {v:AV} (hd:d≠dj) (hx:∀j,j≠d→lk X j=lk X' j) (hv:lk X d=some (.v v)):EqE (put X dj e) ((d,.v v)::put X' dj e):=by
 intro k
 have hown:iC X dj=iC X' dj:=by unfold iC;rw [hx dj (Ne.symm hd)]
 by_cases hk:k=d
 ·subst hk
  rw [bF,yC hd]
  split
  ·rw [hv];rfl
  ·exact hv
 ·rw [aJ _ _ (Ne.symm hk)]
  by_cases hkj:k=dj
  ·subst hkj;rw [jq,jq]
  ·rw [yC hkj,yC hkj,hown,hx k hk]
theorem WL {d k:Nat} {e:EV} (h:lk (put env d e) k=none):k≠d∧lk env k=none:=by
 have hk:k≠d:=fun hk=>by subst hk;rw [jq] at h;cases h
 rw [yC hk] at h
 split at h
 ·exact ⟨hk,by simpa using h⟩
 ·exact ⟨hk,h⟩
theorem UR {d k:Nat} {e:EV} (he:e.owns=true) {x:AV} (hx:x≠.u) (h:lk (put env d e) k=some (.v x)):lk env k=some (.v x):=by
 have hk:k≠d:=fun hk=>by subst hk;rw [jq] at h;cases h;cases he
 rw [yC hk] at h
 split at h
 ·cases hl:lk env k with
  | none=>rw [hl] at h;cases h
  | some y=>
   rw [hl] at h
   simp only [Option.map_some,Option.some.injEq] at h
   split at h
   ·cases h;exact absurd rfl hx
   ·rw [h]
 ·exact h
theorem V4 {k j:Nat} (h:lk ((k,EV.v .u)::jL env k) j=none):j≠k∧lk env j=none:=by
 have hk:j≠k:=fun hk=>by subst hk;rw [bF] at h;cases h
 rw [aJ _ _ (Ne.symm hk),pq] at h
 exact ⟨hk,by simpa using h⟩
theorem Zd {k j:Nat} {x:AV} (hx:x≠.u) (h:lk ((k,EV.v .u)::jL env k) j=some (.v x)):lk env j=some (.v x):=by
 have hk:j≠k:=fun hk=>by subst hk;rw [bF] at h;cases h;exact absurd rfl hx
 rw [aJ _ _ (Ne.symm hk),pq] at h
 cases hl:lk env j with
 | none=>rw [hl] at h;cases h
 | some y=>
  rw [hl] at h
  simp only [Option.map_some,Option.some.injEq] at h
  split at h
  ·cases h;exact absurd rfl hx
  ·rw [h]
theorem Yk {op:AOp} (ho:op.isApp=true) {e:EV} {env1:Env} {s1:St} (h:aop glob call cx env s op=.ok e env1 s1):s1=s∧e.owns=true∧(env1=env∨∃k x,lk env k=some x∧env1=(k,.v .u)::jL env k):=by
 cases op<;>first | (cases ho;done)|skip
 ·simp only [aop] at h
  split at h
  ·split at h
   ·rename_i _ _ _ _ _ _ hl
    split at h
    ·cases h;exact ⟨rfl,rfl,.inr ⟨_,_,hl,rfl⟩⟩
    ·cases h
   ·cases h
  ·split at h
   ·split at h
    ·cases h;exact ⟨rfl,rfl,.inl rfl⟩
    ·cases h
   ·cases h
  ·cases h
 ·simp only [aop] at h
  split at h
  ·split at h
   ·rename_i _ _ _ _ _ _ hl
    split at h
    ·cases h;exact ⟨rfl,rfl,.inr ⟨_,_,hl,rfl⟩⟩
    ·cases h
   ·cases h
  ·cases h
section
variable {d:Nat} {v:AV} (hd:lk env d=none)
include hd
theorem O0 {k:Nat} {x:EV} (h:lk env k=some x):lk ((d,.v v)::env) k=some x:=by
 have:d≠k:=fun hk=>by subst hk;rw [hd] at h;cases h
 rw [aJ _ _ this];exact h
theorem Xe {x:IX} {y:EV} (h:ev glob env x=some y):ev glob ((d,.v v)::env) x=some y:=by
 cases x with
 | t k=>exact O0 hd h
 | c a=>exact h
 | g k=>exact h
theorem Xd {x:IX} {y:AV} (h:rd glob env x=some y):rd glob ((d,.v v)::env) x=some y:=by
 unfold rd at h ⊢
 cases he:ev glob env x with
 | none=>rw [he] at h;cases h
 | some z=>rw [Xe hd he];rw [he] at h;exact h
theorem Vw {x:IX} {y:List AV} (h:elems glob env x=some y):elems glob ((d,.v v)::env) x=some y:=by
 unfold elems at h ⊢
 cases he:ev glob env x with
 | none=>rw [he] at h;cases h
 | some z=>
  rw [Xe hd he]
  rw [he] at h
  cases z with
  | al j=>
   simp only [] at h ⊢
   cases hj:lk env j with
   | none=>rw [hj] at h;cases h
   | some o=>rw [O0 hd hj];rw [hj] at h;exact h
  | v a=>cases a<;>exact h
  | _=>exact h
theorem Ru {x:IX} (hx:ev glob env x≠none):gZ ((d,.v v)::env) x=gZ env x:=by
 cases x with
 | t k=>
  cases hk:lk env k with
  | none=>exact absurd hk hx
  | some o=>simp only [gZ,O0 hd hk,hk]
 | c a=>rfl
 | g k=>rfl
theorem UY {op:AOp} (ho:op.isApp=true) {e:EV} {env1:Env} (h:aop glob call cx env s op=.ok e env1 s):
  ∃env2,aop glob call cx ((d,.v v)::env) s op=.ok e env2 s∧lk env2 d=some (.v v)∧∀j,j≠d→lk env2 j=lk env1 j:=by
 have key:∀k,(∃x,lk env k=some x)→lk ((k,EV.v .u)::(d,.v v)::jL env k) d=some (.v v)∧∀j,j≠d→lk ((k,EV.v .u)::(d,.v v)::jL env k) j=lk ((k,.v .u)::jL env k) j:=by
  intro k ⟨x,hk⟩
  have hne:k≠d:=fun hk'=>by subst hk';rw [hd] at hk;cases hk
  refine ⟨by rw [aJ _ _ hne,bF],fun j hj=>?_⟩
  by_cases hkj:k=j
  ·subst hkj;rw [bF,bF]
  ·rw [aJ _ _ hkj,aJ _ _ (Ne.symm hj),aJ _ _ hkj]
 cases op<;>first | (cases ho;done)|skip
 ·rename_i t sz x y
  simp only [aop] at h ⊢
  cases hy:elems glob env y with
  | none=>rw [hy] at h;simp at h
  | some ys=>
   rw [hy] at h
   rw [Vw hd hy]
   have hx:ev glob env x≠none:=by
    intro hn
    cases x with
    | t k=>
     have hk:lk env k=none:=hn
     simp [gZ,hk,rd,ev] at h
    | c a=>cases hn
    | g k=>simp [gZ,rd,hn] at h
   have hyn:ev glob env y≠none:=by intro hn;unfold elems at hy;rw [hn] at hy;cases hy
   rw [Ru hd hx,Ru hd hyn]
   cases hk:gZ env x with
   | none=>
    rw [hk] at h
    simp only [] at h ⊢
    cases hr:rd glob env x with
    | none=>rw [hr] at h;cases h
    | some z=>
     rw [hr] at h
     rw [Xd hd hr]
     split at h
     ·split at h
      ·rename_i hz hc
       cases h
       cases hz
       exact ⟨_,by rw [if_pos hc],bF _ _ _,fun j hj=>aJ _ _ (Ne.symm hj)⟩
      ·cases h
     ·cases h
   | some k=>
    rw [hk] at h
    simp only [] at h ⊢
    cases hl:lk env k with
    | none=>rw [hl] at h;cases h
    | some o=>
     rw [hl] at h
     rw [O0 hd hl]
     cases o<;>simp only [] at h ⊢<;>first | (cases h;done)|skip
     split at h
     ·rename_i hc
      cases h
      rw [if_pos hc]
      exact ⟨_,rfl,key k ⟨_,hl⟩⟩
     ·cases h
 ·rename_i t x y
  simp only [aop] at h ⊢
  cases hy:rd glob env y with
  | none=>rw [hy] at h;simp at h
  | some ys=>
   rw [hy] at h
   rw [Xd hd hy]
   cases hk:gZ env x with
   | none=>rw [hk] at h;cases ys<;>cases h
   | some k=>
    have hx:ev glob env x≠none:=by
     intro hn
     cases x with
     | t k'=>have hk':lk env k'=none:=hn;simp [gZ,hk'] at hk
     | c a=>cases hn
     | g k'=>simp [gZ] at hk
    rw [Ru hd hx]
    rw [hk] at h ⊢
    cases ys<;>simp only [] at h ⊢<;>first | (cases h;done)|skip
    cases hl:lk env k with
    | none=>rw [hl] at h;cases h
    | some o=>
     rw [hl] at h
     rw [O0 hd hl]
     cases o<;>simp only [] at h ⊢<;>first | (cases h;done)|skip
     split at h
     ·rename_i hc
      cases h
      rw [if_pos hc]
      exact ⟨_,rfl,key k ⟨_,hl⟩⟩
     ·cases h
end
theorem MK {o p:ak} (h:PD o p=true):o.op.isApp=true∧o.guard=none∧∃d n x,p=⟨some d,none,.loadp d n x⟩:=by
 simp only [PD,Bool.and_eq_true,Option.isNone_iff_eq_none] at h
 obtain ⟨⟨⟨h1,h2⟩,h3⟩,h4⟩:=h
 refine ⟨h1,h2, ?_⟩
 obtain ⟨dst,gd,op⟩:=p
 simp only [] at h3 h4
 subst h3
 cases op<;>first | (cases dst<;>cases h4;done)|skip
 cases dst with
 | none=>cases h4
 | some d'=>
  simp at h4
  subst h4
  exact ⟨_,_,_,rfl⟩
theorem Px {op:AOp} (h:op.isApp=true):op.quiet.isSome=false:=by cases op<;>first|rfl | (cases h;done)
theorem QA {d:Nat} {n:Option Nat} {x:IX} {env1:Env} {s1:St}:xE glob call ⟨some d,none,.loadp d n x⟩ env s=.norm env1 s1 ↔
  s1=s∧lk env d=none∧∃v0 v,ev glob env x=some (.v v0)∧dQ glob env s n x=some v∧env1=(d,.v v)::env:=by
 rw [dJ]
 constructor
 ·rintro ⟨h1,e,hq,hd,rfl⟩
  refine ⟨h1, ?_⟩
  unfold o7 at hq
  simp only [aZ] at hq
  split at hq
  ·split at hq
   ·rename_i e1 env2 s2 ha
    simp only [aop] at ha
    split at ha
    ·rename_i h2 h3
     obtain ⟨r,hr,he,_,_⟩:=uJ ha
     split at hq
     ·cases hq;subst he;exact ⟨h2,_,r,h3,hr,rfl⟩
     ·cases hq
    ·cases ha
   ·cases hq
  ·cases hq
 ·rintro ⟨rfl,hd,v0,v,hv,hl,rfl⟩
  refine ⟨rfl,.v v, ?_,fun d' hd'=>?_,rfl⟩
  ·have hok:okQ glob env (.loadp d n x)=true:=by
    have:ev glob env (.t d)=none:=hd
    simp [okQ,AOp.quiet,OC,hv,this]
   unfold o7
   simp only [aZ,hok,if_true,aop,hd,hv,hl,okv]
   simp [EV.owns]
  ·cases hd';exact ⟨rfl,by unfold iC;rw [hd]⟩
theorem X0 {n:Option Nat} {x:IX} {v0:AV} (h:ev glob env x=some (.v v0)) (h':ev glob env2 x=some (.v v0)):dQ glob env s n x=dQ glob env2 s n x:=by
 unfold dQ;rw [h,h']
 cases v0<;>rfl
theorem aa6 {o p:ak} (hap:PD o p=true) {env1 env2:Env} {s1 s2:St} (h1:bV glob call cx o env s=.norm env1 s1) (h2:bV glob call cx p env1 s1=.norm env2 s2):
  s1=s∧s2=s∧∃f1 f2,bV glob call cx p env s=.norm f1 s∧bV glob call cx o f1 s=.norm f2 s∧EqE f2 env2:=by
 obtain ⟨ho,hg,d,n,x,rfl⟩:=MK hap
 rw [bY (Px ho)] at h1
 have hpq:(AOp.loadp d n x).quiet.isSome=true:=rfl
 rw [aV hpq] at h2
 obtain ⟨hs2,hdn,v0,v,hv,hl,rfl⟩:=QA.1 h2
 obtain ⟨dst,gd,op⟩:=o
 simp only [] at ho hg
 subst hg
 simp only [bD,aZ] at h1
 cases ha:aop glob call cx env s op with
 | fail=>rw [ha] at h1;cases h1
 | pan v s=>rw [ha] at h1;cases h1
 | ok e enva sa=>
  rw [ha] at h1
  obtain ⟨rfl,hown,hform⟩:=Yk ho ha
  simp only [] at h1
  have hv0:v0≠.u:=fun h=>by subst h;unfold dQ at hl;rw [hv] at hl;cases hl
  have hA:(∀k,lk enva k=none→lk env k=none)∧(∀k y,y≠.u→lk enva k=some (.v y)→lk env k=some (.v y)):=by
   rcases hform with rfl|⟨k,y,hk,rfl⟩
   ·exact ⟨fun _ h=>h,fun _ _ _ h=>h⟩
   ·exact ⟨fun j h=>(V4 h).2,fun j z hz h=>Zd hz h⟩
  have fin:∀env1,s1=sa→(lk env1 d=none→lk enva d=none)→(∀k y,y≠.u→lk env1 k=some (.v y)→lk enva k=some (.v y))→lk env1 d=none→ev glob env1 x=some (.v v0)→dQ glob env1 s1 n x=some v→
    lk env d=none∧xE glob call ⟨some d,none,.loadp d n x⟩ env sa=.norm ((d,.v v)::env) sa:=by
   intro env1 hs q1 q2 q3 q4 q5
   subst hs
   have hdn':lk env d=none:=hA.1 d (q1 q3)
   have hv':ev glob env x=some (.v v0):=by
    cases x with
    | t k=>exact hA.2 k v0 hv0 (q2 k v0 hv0 q4)
    | c a=>exact q4
    | g k=>exact q4
   exact ⟨hdn',QA.2 ⟨rfl,hdn',v0,v,hv',by rw [←X0 q4 hv'];exact q5,rfl⟩⟩
  cases dst with
  | none=>
   simp only [Out.norm.injEq] at h1
   obtain ⟨rfl,rfl⟩:=h1
   obtain ⟨hdn',hp⟩:=fin enva rfl (fun h=>h) (fun _ _ _ h=>h) hdn hv hl
   obtain ⟨env3,h3,h4,h5⟩:=UY (v:=v) hdn' ho ha
   refine ⟨rfl,hs2,_,env3,by rw [aV hpq];exact hp,by rw [bY (Px ho)];simp [bD,aZ,h3],fun k=>?_⟩
   by_cases hk:k=d
   ·subst hk;rw [h4,bF]
   ·rw [h5 k hk,aJ _ _ (Ne.symm hk)]
  | some dj=>
   have hrf:e.refers dj=false:=by cases e<;>first|rfl | (cases hown;done)
   simp only [hrf,Bool.false_eq_true,if_false,Out.norm.injEq] at h1
   obtain ⟨rfl,rfl⟩:=h1
   obtain ⟨hddj,hdn2⟩:=WL hdn
   obtain ⟨hdn',hp⟩:=fin (put enva dj e) rfl (fun _=>hdn2) (fun k y hy h=>UR hown hy h) hdn hv hl
   obtain ⟨env3,h3,h4,h5⟩:=UY (v:=v) hdn' ho ha
   refine ⟨rfl,hs2,_,put env3 dj e,by rw [aV hpq];exact hp,by rw [bY (Px ho)];simp [bD,aZ,h3,hrf],X3 hddj h5 h4⟩
theorem A7 {o:ak} (hq:o.op.quiet.isSome=true) {env1:Env} {s1:St} (h:bV glob call cx o env s=.norm env1 s1):s1=s:=by
 rw [aV hq] at h;exact (dJ.1 h).1
theorem Vf {o:ak} (hq:o.op.quiet.isSome=true) (he:EqE env env2) {env1:Env} {s1:St} (h:bV glob call cx o env s=.norm env1 s1):∃env3,bV glob call cx o env2 s=.norm env3 s∧EqE env1 env3:=by
 have hs:=A7 hq h
 subst hs
 rw [aV hq] at h ⊢
 exact WC he h
def Keeps (s1 s:St):Prop:=(∀(l:Nat) cs,s1[l]?=some (eH.cells cs)→s[l]?=some (eH.cells cs))∧(∀(l:Nat) es,s1[l]?=some (eH.map es)→s[l]?=some (eH.map es))∧(∀(l:Nat) es,s1[l]?=some (eH.mapo es)→s[l]?=some (eH.mapo es))∧∀(l:Nat) t sz ver cs,s1[l]?=some (eH.buf t sz ver cs)→s[l]?=some (eH.buf t sz ver cs)
theorem I8 {o o':eH} {l:Nat} (hne:o'≠o) (h:(s++[o])[l]?=some o'):s[l]?=some o':=by
 by_cases hl:l<s.length
 ·rwa [List.getElem?_append_left hl] at h
 ·rw [List.getElem?_append_right (by omega)] at h
  cases hx:l - s.length with
  | zero=>rw [hx] at h;simp at h;exact absurd h.symm hne
  | succ k=>rw [hx] at h;simp at h
theorem ND {o o':eH} {l k:Nat} (hl:l<s.length) (hne:o'≠o) (h:(s.set l o)[k]?=some o'):s[k]?=some o':=by
 by_cases hk:l=k
 ·subst hk;rw [List.getElem?_set_self hl] at h;simp at h;exact absurd h.symm hne
 ·rwa [List.getElem?_set_ne hk] at h
theorem Keeps.push {t sz n:Nat}:Keeps (s++[.row t sz n]) s:=
 ⟨fun _ _ h=>I8 (by simp) h,fun _ _ h=>I8 (by simp) h,fun _ _ h=>I8 (by simp) h,fun _ _ _ _ _ h=>I8 (by simp) h⟩
theorem Keeps.set {l t sz n:Nat} (hl:l<s.length):Keeps (s.set l (.row t sz n)) s:=
 ⟨fun _ _ h=>ND hl (by simp) h,fun _ _ h=>ND hl (by simp) h,fun _ _ h=>ND hl (by simp) h,fun _ _ _ _ _ h=>ND hl (by simp) h⟩
theorem LW {s1:St} (hk:Keeps s1 s) {n:Option Nat} {x:IX} {v:AV} (h:dQ glob env s1 n x=some v):dQ glob env s n x=some v:=by
 unfold dQ at h ⊢
 split at h
 ·exact h
 ·exact h
 ·exact h
 ·exact h
 ·split at h
  ·rename_i cs hl
   rw [hk.1 _ cs hl];exact h
  ·cases h
 ·split at h
  ·rename_i hl
   rw [hk.2.2.2 _ _ _ _ _ hl];exact h
  ·cases h
 ·cases h
theorem Yg {s1:St} (hk:Keeps s1 s) {op:AOp} (hc:op.calm=true) (hq:op.quiet.isSome=true) {cx1 cx2:Ctx} {e:EV} {env1:Env} {s2:St} (hno:okQ glob env op=true) (h:aop glob call cx1 env s1 op=.ok e env1 s2):aop glob call cx2 env s op=.ok e env1 s:=by
 cases op<;>first | (cases hc;done)|skip
 case mov x=>
  simp only [okQ,AOp.quiet,List.all_cons,List.all_nil,Bool.and_true] at hno
  rw [NM hno] at h ⊢
  cases hm:Jl glob env x with
  | none=>rw [hm] at h;cases h
  | some e1=>rw [hm] at h;cases h;rfl
 case load n x=>
  simp only [aop] at h ⊢
  obtain ⟨r,hr,rfl,rfl,_⟩:=uJ h
  rw [LW hk hr];rfl
 case loadp d n x=>
  simp only [aop] at h ⊢
  split at h
  ·obtain ⟨r,hr,rfl,rfl,_⟩:=uJ h
   rw [LW hk hr];rfl
  ·cases h
 case look kk z ok m k=>
  simp only [aop] at h ⊢
  cases hkv:rd glob env k with
  | none=>rw [hkv] at h;cases h
  | some key=>
   rw [hkv] at h
   simp only [] at h ⊢
   cases hm:rd glob env m with
   | none=>
    rw [hm] at h
    split at h
    ·cases h
    ·simp at h
   | some mv=>
    rw [hm] at h
    have key2:∀r:Option AV,(match mv with | .im es=>find kk key es | .nm=>if qj kk key then some none else none | .mp l=>(match s1[l]? with|some (.map es)=>find kk key es|some (.mapo es)=>find kk key es | _=>none) | _=>none)=some r→
      (match mv with | .im es=>find kk key es | .nm=>if qj kk key then some none else none | .mp l=>(match s[l]? with|some (.map es)=>find kk key es|some (.mapo es)=>find kk key es | _=>none) | _=>none)=some r:=by
     intro r hr
     cases mv<;>first|exact hr|skip
     simp only [] at hr ⊢
     split at hr
     ·rename_i es hl;rw [hk.2.1 _ es hl];exact hr
     ·rename_i es hl;rw [hk.2.2.1 _ es hl];exact hr
     ·cases hr
    by_cases h3k:3≤kk∧qj kk key=false
    ·rw [if_pos h3k] at h;cases h
    rw [if_neg h3k] at h
    rw [if_neg h3k]
    split at h
    ·rename_i r hr
     have:=key2 r (by cases mv<;>exact hr)
     split
     ·rename_i r' hr'
      have e1:r=r':=Option.some.inj (this.symm.trans (by cases mv<;>exact hr'))
      subst e1
      split at h
      ·rename_i hok;cases h;simp [hok]
      ·rename_i hok;cases h;simp [hok]
     ·rename_i hr'
      exfalso
      have h3:=this.symm.trans (by cases mv<;>exact hr')
      cases h3
    ·cases h
 case len k x=>
  match k with
  | 0=>
   simp only [aop] at h ⊢
   split at h
   ·cases h;rfl
   ·split at h
    ·cases h;rfl
    ·cases h
  | 1=>
   simp only [aop] at h ⊢
   split at h
   ·cases h;rfl
   ·cases h
  | 2=>cases hc
  | k+3=>cases hc
 case bsl own t sz len zs ps=>
  cases own with
  | true=>cases hc
  | false=>
   simp only [aop] at h ⊢
   split at h
   ·rename_i vs env1 he
    simp only [Bool.false_eq_true,if_false] at h ⊢
    split at h
    ·rename_i hc2;cases h;rw [if_pos hc2]
    ·cases h
   ·cases h
 all_goals
  simp only [aop,okv] at h ⊢
  ((repeat' split at h)<;>first | (cases h;done) | (cases h;simp [*];done))
theorem MJ {o p:ak} (h:Pz o p=true):(∃d t sz x y,o=⟨some d,none,.apprp d t sz x y⟩∧(∀dp,p.dst=some dp→dp ∉ x.slots∧dp ∉ y.slots∧dp≠d)∧XP (fun k=>k=d) p)∧p.op.calm=true∧p.op.quiet.isSome=true:=by
 obtain ⟨od,og,oop⟩:=o
 simp only [Pz,Bool.and_eq_true,Option.isNone_iff_eq_none] at h
 obtain ⟨⟨⟨⟨⟨h1,h2⟩,h3⟩,h4⟩,h5⟩,h6⟩:=h
 refine ⟨?_,h3,h4⟩
 subst h2
 cases oop<;>first | (cases od<;>cases h1;done)|skip
 rename_i d t sz x y
 cases od with
 | none=>cases h1
 | some d'=>
  simp only [Bool.and_eq_true,beq_iff_eq] at h1
  obtain ⟨rfl,h1⟩:=h1
  refine ⟨d,t,sz,x,y,rfl,fun dp hdp=>?_,fun k hk hkd=>?_⟩
  ·rw [hdp] at h1 h6
   simp [mZ] at h1 h6
   exact ⟨fun hm=>h1.1 dp hm rfl,fun hm=>h1.2 dp hm rfl,fun h=>h6 h.symm⟩
  ·subst hkd
   simp [mZ] at h5
   exact h5 k hk rfl
theorem LG {d t sz:Nat} {x y:IX} {env1:Env} {s1:St} (h:bD glob call cx ⟨some d,none,.apprp d t sz x y⟩ env s=.norm env1 s1):
  ∃v,lk env d=none∧env1=(d,.v v)::env∧Keeps s1 s∧(∀env2,lk env2 d=none→(∀ys,elems glob env y=some ys→elems glob env2 y=some ys)→ev glob env2 x=ev glob env x→bD glob call cx ⟨some d,none,.apprp d t sz x y⟩ env2 s=.norm ((d,.v v)::env2) s1):=by
 simp only [bD,aZ,aop] at h ⊢
 cases hd:lk env d with
 | some z=>rw [hd] at h;cases h
 | none=>
  rw [hd] at h
  simp only [] at h
  have hput:∀(env2:Env) e,lk env2 d=none→put env2 d e=(d,e)::env2:=fun env2 e h2=>by unfold put;rw [h2]
  cases hy:elems glob env y with
  | none=>rw [hy] at h;cases h
  | some ys=>
   rw [hy] at h
   cases hx:ev glob env x with
   | none=>rw [hx] at h;cases h
   | some z=>
    rw [hx] at h
    cases z<;>first | (cases h;done)|skip
    rename_i a
    cases a<;>first | (cases h;done)|skip
    ·by_cases hc:0<sz∧0<ys.length∧(ys.all fun e=>e.cells.length == sz)=true∧ys.length≤dK
     ·simp only [if_pos hc,EV.refers,Bool.false_eq_true,if_false,Out.norm.injEq] at h
      obtain ⟨rfl,rfl⟩:=h
      refine ⟨_,rfl,hput env _ hd,Keeps.push,fun env2 h2 hy2 hx2=>?_⟩
      rw [h2,hy2 ys rfl,hx2]
      simp only [if_pos hc,EV.refers,Bool.false_eq_true,if_false,hput env2 _ h2]
     ·simp only [if_neg hc] at h
      by_cases h0:ys.length=0
      ·simp only [if_pos h0,EV.refers,Bool.false_eq_true,if_false,Out.norm.injEq] at h
       obtain ⟨rfl,rfl⟩:=h
       refine ⟨_,rfl,hput env _ hd,⟨fun _ _ h=>h,fun _ _ h=>h,fun _ _ h=>h,fun _ _ _ _ _ h=>h⟩,fun env2 h2 hy2 hx2=>?_⟩
       rw [h2,hy2 ys rfl,hx2]
       simp only [if_neg hc,if_pos h0,EV.refers,Bool.false_eq_true,if_false,hput env2 _ h2]
      ·simp only [if_neg h0] at h;cases h
    ·rename_i l es
     simp only [] at h
     cases hl:s[l]? with
     | none=>simp only [hl] at h;cases h
     | some ob=>
      simp only [hl] at h
      cases ob<;>first | (cases h;done)|skip
      rename_i t' sz' k
      by_cases hc:t=t'∧sz=sz'∧k=es.length∧0<sz∧0<ys.length∧(ys.all fun e=>e.cells.length == sz)=true∧(es.all fun e=>e.cells.length == sz)=true∧es.length+ys.length≤dK∧cx.lim≤l
      ·simp only [if_pos hc,EV.refers,Bool.false_eq_true,if_false,Out.norm.injEq] at h
       obtain ⟨rfl,rfl⟩:=h
       refine ⟨_,rfl,hput env _ hd,Keeps.set (List.getElem?_eq_some_iff.1 hl).1,fun env2 h2 hy2 hx2=>?_⟩
       rw [h2,hy2 ys rfl,hx2]
       simp only [hl,if_pos hc,EV.refers,Bool.false_eq_true,if_false,hput env2 _ h2]
      ·simp only [if_neg hc] at h
       by_cases h0:ys.length=0
       ·simp only [if_pos h0,EV.refers,Bool.false_eq_true,if_false,Out.norm.injEq] at h
        obtain ⟨rfl,rfl⟩:=h
        refine ⟨_,rfl,hput env _ hd,⟨fun _ _ h=>h,fun _ _ h=>h,fun _ _ h=>h,fun _ _ _ _ _ h=>h⟩,fun env2 h2 hy2 hx2=>?_⟩
        rw [h2,hy2 ys rfl,hx2]
        simp only [hl,if_neg hc,if_pos h0,EV.refers,Bool.false_eq_true,if_false,hput env2 _ h2]
       ·simp only [if_neg h0] at h;cases h
    ·by_cases hc:0<sz∧0<ys.length∧(ys.all fun e=>e.cells.length == sz)=true∧ys.length≤dK
     ·simp only [if_pos hc,EV.refers,Bool.false_eq_true,if_false,Out.norm.injEq] at h
      obtain ⟨rfl,rfl⟩:=h
      refine ⟨_,rfl,hput env _ hd,Keeps.push,fun env2 h2 hy2 hx2=>?_⟩
      rw [h2,hy2 ys rfl,hx2]
      simp only [if_pos hc,EV.refers,Bool.false_eq_true,if_false,hput env2 _ h2]
     ·simp only [if_neg hc] at h
      by_cases h0:ys.length=0
      ·simp only [if_pos h0,EV.refers,Bool.false_eq_true,if_false,Out.norm.injEq] at h
       obtain ⟨rfl,rfl⟩:=h
       refine ⟨_,rfl,hput env _ hd,⟨fun _ _ h=>h,fun _ _ h=>h,fun _ _ h=>h,fun _ _ _ _ _ h=>h⟩,fun env2 h2 hy2 hx2=>?_⟩
       rw [h2,hy2 ys rfl,hx2]
       simp only [if_neg hc,if_pos h0,EV.refers,Bool.false_eq_true,if_false,hput env2 _ h2]
      ·simp only [if_neg h0] at h;cases h
theorem Uc {s1:St} (hk:Keeps s1 s) {p:ak} (hc:p.op.calm=true) (hq:p.op.quiet.isSome=true) {e:EV} (h:o7 glob call p env s1=some e):o7 glob call p env s=some e:=by
 unfold o7 at h ⊢
 split at h
 ·cases h
 ·exact h
 ·split at h
  ·rename_i hok
   rw [if_pos hok]
   split at h
   ·rename_i e1 env1 s2 ha
    rw [Yg (cx2:=⟨s.length,s.length⟩) hk hc hq hok ha]
    split at h
    ·rename_i hcond
     cases h
     simp [hcond.2]
    ·cases h
   ·cases h
  ·cases h
theorem aa5 {o p:ak} (hap:Pz o p=true) {env1 env2:Env} {s1 s2:St} (h1:bV glob call cx o env s=.norm env1 s1) (h2:bV glob call cx p env1 s1=.norm env2 s2):
  s2=s1∧∃f1 f2,bV glob call cx p env s=.norm f1 s∧bV glob call cx o f1 s=.norm f2 s1∧EqE f2 env2:=by
 obtain ⟨⟨d,t,sz,x,y,rfl,hdst,hoff⟩,hcalm,hq⟩:=MJ hap
 have hloud:(AOp.apprp d t sz x y).quiet.isSome=false:=rfl
 rw [bY hloud] at h1
 rw [aV hq] at h2
 obtain ⟨v,hdn,rfl,hk,hrun⟩:=LG h1
 obtain ⟨rfl,e,hqv,hokd,rfl⟩:=dJ.1 h2
 have hagr:Agr (fun k=>k=d) ((d,.v v)::env) env:=by
  refine ⟨fun k hkd=>aJ _ _ (fun h=>hkd h.symm),fun k e' hkd hl ho=>?_⟩
  subst hkd;rw [bF] at hl;cases hl;cases ho
 have hqv':o7 glob call p env s=some e:=Uc hk hcalm hq (vJ hagr hoff hqv)
 have hok':okD env p.dst e:=fun dp hdp=>⟨(hokd dp hdp).1,by
  have:=(hokd dp hdp).2
  unfold iC at this ⊢
  rwa [aJ _ _ (fun h=>(hdst dp hdp).2.2 h.symm)] at this⟩
 refine ⟨rfl,nY env p.dst e,(d,.v v)::nY env p.dst e,by rw [aV hq];exact dJ.2 ⟨rfl,e,hqv',hok',rfl⟩, ?_,fun k=>?_⟩
 ·rw [bY hloud]
  have hagr2:=U3 (Qu hqv') hok'
  refine hrun _ ?_ ?_ ?_
  ·rw [aX (fun h=>(hdst d h).2.2 rfl)];exact hdn
  ·exact fun ys hys=>Ld (TN hok') (fun k hk hd=>(hdst k hd).2.1 hk) hys
  ·exact qA hagr2 (fun k hk hd=>(hdst k hd).1 hk)
 ·by_cases hkd:k=d
  ·subst hkd
   rw [bF,aX (fun h=>(hdst k h).2.2 rfl),bF]
  ·rw [aJ _ _ (Ne.symm hkd)]
   cases hp:p.dst with
   | none=>show lk env k=lk ((d,.v v)::env) k;rw [aJ _ _ (Ne.symm hkd)]
   | some dp=>
    show lk ((dp,e)::env) k=lk ((dp,e)::(d,.v v)::env) k
    by_cases hkp:dp=k
    ·subst hkp;rw [bF,bF]
    ·rw [aJ _ _ hkp,aJ _ _ hkp,aJ _ _ (Ne.symm hkd)]
theorem nP {op:AOp} (h:op.free=true):op.quiet.isSome=true:=by
 cases op<;>first|rfl | (cases h;done)
theorem kS {op:AOp} (h:∀(cx:Ctx) (s:St),aop glob call cx env s op=match (match aop glob call ⟨0,0⟩ env [] op with | .ok e env1 _=>some (e,env1) | _=>none) with|some (e,env1)=>RO.ok e env1 s|none=>.fail):
  ∀(cx:Ctx) (s:St),aop glob call cx env s op=match (match aop glob call ⟨0,0⟩ env [] op with | .ok e env1 _=>some (e,env1) | _=>none) with|some (e,env1)=>RO.ok e env1 s|none=>.fail:=h
theorem XK {op:AOp} (ho:op.free=true) (hok:okQ glob env op=true):∃r:Option (EV×Env),∀(cx:Ctx) (s:St),aop glob call cx env s op=match r with|some (e,env1)=>.ok e env1 s|none=>.fail:=by
 cases op<;>(try (cases ho;done))
 case mov x=>
  simp only [okQ,AOp.quiet,List.all_cons,List.all_nil,Bool.and_true] at hok
  refine ⟨(Jl glob env x).map fun e=>(e,env),fun cx s=>?_⟩
  rw [NM hok]
  cases Jl glob env x<;>rfl
 case ext x i=>
  refine ⟨_,fun cx s=>kS ?_ cx s⟩
  intro cx s
  simp only [aop,okv]
  (repeat' split)<;>first|rfl | (simp_all;done)
 case idxa len sz x i=>
  refine ⟨_,fun cx s=>kS ?_ cx s⟩
  intro cx s
  simp only [aop,okv]
  (repeat' split)<;>first|rfl | (simp_all;done)
 case fld off x=>
  refine ⟨_,fun cx s=>kS ?_ cx s⟩
  intro cx s
  simp only [aop,okv]
  (repeat' split)<;>first|rfl | (simp_all;done)
 case bin bop x y=>
  refine ⟨_,fun cx s=>kS ?_ cx s⟩
  intro cx s
  simp only [aop,okv]
  (repeat' split)<;>first|rfl | (simp_all;done)
 case build zs ps=>
  refine ⟨_,fun cx s=>kS ?_ cx s⟩
  intro cx s
  simp only [aop,okv]
  (repeat' split)<;>first|rfl | (simp_all;done)
 case idx sz x i=>
  refine ⟨_,fun cx s=>kS ?_ cx s⟩
  intro cx s
  simp only [aop,okv]
  (repeat' split)<;>first|rfl | (simp_all;done)
 case slc sz x lo hi=>
  refine ⟨_,fun cx s=>kS ?_ cx s⟩
  intro cx s
  simp only [aop,okv]
  (repeat' split)<;>first|rfl | (simp_all;done)
 case nilchk x=>
  refine ⟨_,fun cx s=>kS ?_ cx s⟩
  intro cx s
  simp only [aop,okv]
  (repeat' split)<;>first|rfl | (simp_all;done)
 case b2s x=>
  refine ⟨_,fun cx s=>kS ?_ cx s⟩
  intro cx s
  simp only [aop,okv]
  (repeat' split)<;>first|rfl | (simp_all;done)
 case lenA n=>exact ⟨some (.v (.i .i64 n),env),fun cx s=>rfl⟩
 case un op x=>
  refine ⟨_,fun cx s=>kS ?_ cx s⟩
  intro cx s
  simp only [aop,okv]
  (repeat' split)<;>first|rfl | (simp_all;done)
 case toInt k x=>
  refine ⟨_,fun cx s=>kS ?_ cx s⟩
  intro cx s
  simp only [aop,okv]
  (repeat' split)<;>first|rfl | (simp_all;done)
 case getf off n x=>
  refine ⟨_,fun cx s=>kS ?_ cx s⟩
  intro cx s
  simp only [aop,okv]
  (repeat' split)<;>first|rfl | (simp_all;done)
 case mkfn f us cs=>
  refine ⟨_,fun cx s=>kS ?_ cx s⟩
  intro cx s
  simp only [aop,okv]
  (repeat' split)<;>first|rfl | (simp_all;done)
 case len k x=>
  rcases k with _ | _|k
  ·refine ⟨_,fun cx s=>kS ?_ cx s⟩
   intro cx s
   simp only [aop,okv]
   (repeat' split)<;>first|rfl | (simp_all;done)
  ·refine ⟨_,fun cx s=>kS ?_ cx s⟩
   intro cx s
   simp only [aop,okv]
   (repeat' split)<;>first|rfl | (simp_all;done)
  ·cases ho
 case loadl n x=>
  cases hx:ev glob env x with
  | none=>exact ⟨none,fun cx s=>by simp only [aop,hx]⟩
  | some y=>
   have good:(∀s s',dQ glob env s n x=dQ glob env s' n x)→(∀cx s,aop glob call cx env s (.loadl n x)=okv env s (dQ glob env s n x))→∃r:Option (EV×Env),∀(cx:Ctx) (s:St),aop glob call cx env s (.loadl n x)=match r with|some (e,env1)=>.ok e env1 s|none=>.fail:=by
    intro k1 k2
    refine ⟨(dQ glob env [] n x).map fun v=>(.v v,env),fun cx s=>?_⟩
    rw [k2,k1 s []]
    cases dQ glob env [] n x<;>rfl
   cases y with
   | bx cs=>exact good (fun s s'=>by unfold dQ;rw [hx]) (fun cx s=>by simp only [aop,hx])
   | lp k o=>exact good (fun s s'=>by unfold dQ;rw [hx]) (fun cx s=>by simp only [aop,hx])
   | v a=>
    cases a with
    | ip cs=>exact good (fun s s'=>by unfold dQ;rw [hx]) (fun cx s=>by simp only [aop,hx])
    | _=>exact ⟨none,fun cx s=>by simp only [aop,hx]⟩
   | _=>exact ⟨none,fun cx s=>by simp only [aop,hx]⟩
theorem F6 {o:ak} (ho:o.op.free=true) (s s':St):o7 glob call o env s=o7 glob call o env s':=by
 unfold o7
 split
 ·rfl
 ·rfl
 ·split
  ·rename_i hok
   obtain ⟨r,hr⟩:=XK (call:=call) ho hok
   rw [hr,hr]
   cases r<;>simp
  ·rfl
theorem zx {od:Option Nat} {op:AOp} {l:List Nat} (hl:op.heapy=some l) (hd:Tq op od=true) {env1:Env} {s1:St}
  (h:bD glob call cx ⟨od,none,op⟩ env s=.norm env1 s1):
  ∃e,env1=nY env od e∧e.owns=false∧(∀d,od=some d→lk env d=none)∧∀env2,(∀k∈l,lk env2 k=lk env k)→(∀d,od=some d→lk env2 d=none)→bD glob call cx ⟨od,none,op⟩ env2 s=.norm (nY env2 od e) s1:=by
 have hev:∀(x:IX) (env2:Env),(∀k∈x.slots,lk env2 k=lk env k)→ev glob env2 x=ev glob env x:=by
  intro x env2 hx
  cases x with
  | t k=>exact hx k (by simp [IX.slots])
  | c a=>rfl
  | g k=>rfl
 cases op with
 | umap d=>
  cases od with
  | none=>cases hd
  | some d'=>
   have hd':d=d':=by simpa [Tq] using hd
   subst hd'
   simp only [bD,aZ,aop] at h ⊢
   cases hk:lk env d with
   | some e=>rw [hk] at h;cases h
   | none=>
    rw [hk] at h
    simp only [EV.refers,Bool.false_eq_true,if_false,Out.norm.injEq] at h
    obtain ⟨rfl,rfl⟩:=h
    have hput:∀(env2:Env) e,lk env2 d=none→put env2 d e=(d,e)::env2:=fun env2 e h2=>by unfold put;rw [h2]
    refine ⟨.v (.mp s.length),by rw [hput env _ hk];rfl,rfl,(fun _ h=>by cases h;exact hk),fun env2 _ h2=>?_⟩
    rw [h2 d rfl]
    simp only [EV.refers,Bool.false_eq_true,if_false,hput env2 _ (h2 d rfl)];rfl
 | uins m k v=>
  simp only [AOp.heapy,Option.some.injEq] at hl
  cases od with
  | some d=>cases hd
  | none=>
   subst hl
   simp only [bD,aZ] at h
   cases ha:aop glob call cx env s (.uins m k v) with
   | fail=>rw [ha] at h;cases h
   | pan _ _=>rw [ha] at h;cases h
   | ok e env' s'=>
    rw [ha] at h
    simp only [Out.norm.injEq] at h
    obtain ⟨rfl,rfl⟩:=h
    have henv:env'=env:=by
     simp only [aop] at ha
     (repeat' split at ha)<;>first | (cases ha;done) | (cases ha;rfl)
    subst henv
    refine ⟨.v .u,rfl,rfl,(fun _ h=>by cases h),fun env2 h1 _=>?_⟩
    have:aop glob call cx env2 s (.uins m k v)=.ok e env2 s':=by
     simp only [aop] at ha ⊢
     rw [hev m env2 (fun j hj=>h1 j (by simp [hj])),hev k env2 (fun j hj=>h1 j (by simp [hj])),hev v env2 (fun j hj=>h1 j (by simp [hj]))]
     (repeat' split at ha)<;>first | (cases ha;done) | (cases ha;simp [*];done)
    simp only [bD,aZ,this];rfl
 | storep n x y=>
  simp only [AOp.heapy,Option.some.injEq] at hl
  cases od with
  | some d=>cases hd
  | none=>
   subst hl
   simp only [bD,aZ] at h
   cases ha:aop glob call cx env s (.storep n x y) with
   | fail=>rw [ha] at h;cases h
   | pan _ _=>rw [ha] at h;cases h
   | ok e env' s'=>
    rw [ha] at h
    simp only [Out.norm.injEq] at h
    obtain ⟨rfl,rfl⟩:=h
    have henv:env'=env:=by
     simp only [aop] at ha
     (repeat' split at ha)<;>first | (cases ha;done) | (cases ha;rfl)
    subst henv
    refine ⟨.v .u,rfl,rfl,(fun _ h=>by cases h),fun env2 h1 _=>?_⟩
    have ex:=hev x env2 (fun j hj=>h1 j (by simp [hj]))
    have ey:=hev y env2 (fun j hj=>h1 j (by simp [hj]))
    have:aop glob call cx env2 s (.storep n x y)=.ok e env2 s':=by
     simp only [aop] at ha ⊢
     rw [ex,ey]
     split at ha
     ·rename_i av xv hx hy
      have hst:∀env3:Env,ev glob env3 x=some (.v av)→(lS glob cx env3 s n x xv).map (·.2)=(lS glob cx env' s n x xv).map (·.2):=by
       intro env3 h3
       unfold lS
       rw [h3,hx]
       by_cases hc:xv.cells.length=n∧n≠0∧(xv.cells.all AV.one)=true
       ·rw [if_pos hc,if_pos hc]
        cases av<;>first|rfl | (simp only [];(repeat' split)<;>first|rfl | (simp_all;done))
       ·rw [if_neg hc,if_neg hc]
      have h4:=hst env2 (ex.trans hx)
      split at ha
      ·rename_i q s1 hq
       cases ha
       rw [hq] at h4
       cases hq2:lS glob cx env2 s n x xv with
       | none=>rw [hq2] at h4;cases h4
       | some r=>
        rw [hq2] at h4
        simp at h4
        simp [h4]
      ·cases ha
     ·cases ha
    simp only [bD,aZ,this];rfl
 | _=>simp [AOp.heapy] at hl
theorem qx {op:AOp} {l:List Nat} (h:op.heapy=some l):op.quiet.isSome=false:=by cases op<;>first|rfl | (simp [AOp.heapy] at h;done)
theorem abb {o p:ak} (hap:PI o p=true) {env1 env2:Env} {s1 s2:St} (h1:bV glob call cx o env s=.norm env1 s1) (h2:bV glob call cx p env1 s1=.norm env2 s2):
  s2=s1∧∃f1 f2,bV glob call cx p env s=.norm f1 s∧bV glob call cx o f1 s=.norm f2 s1∧EqE f2 env2:=by
 obtain ⟨od,og,oop⟩:=o
 simp only [PI,Bool.and_eq_true,Option.isNone_iff_eq_none] at hap
 obtain ⟨⟨⟨⟨⟨a1,a2⟩,a3⟩,a4⟩,a5⟩,a6⟩:=hap
 subst a3
 cases hl:oop.heapy with
 | none=>rw [hl] at a1;cases a1
 | some l=>
 rw [hl] at a1
 simp only [] at a1
 have hq:p.op.quiet.isSome=true:=nP a4
 rw [bY (qx hl)] at h1
 rw [aV hq] at h2
 obtain ⟨eo,rfl,howns,hnone,hrun⟩:=zx hl a2 h1
 obtain ⟨rfl,e,hqv,hokd,rfl⟩:=dJ.1 h2
 have hne:∀d,od=some d→p.dst≠some d:=by
  intro d hd hp
  subst hd
  rw [hp] at a6
  simp at a6
 have hqv':o7 glob call p env s=some e:=by rw [F6 a4 s s2];exact vJ (TM howns) (CW a5) hqv
 have hok':okD env p.dst e:=fun dp hdp=>⟨(hokd dp hdp).1,by
  have:=(hokd dp hdp).2
  unfold iC at this ⊢
  rwa [aX (fun h=>hne dp h hdp)] at this⟩
 refine ⟨rfl,nY env p.dst e,nY (nY env p.dst e) od eo,by rw [aV hq];exact dJ.2 ⟨rfl,e,hqv',hok',rfl⟩, ?_,A8 hne⟩
 rw [bY (qx hl)]
 refine hrun _ (fun k hk=>aX (fun hp=>?_)) (fun d hd=>?_)
 ·rw [hp] at a1
  simp [mZ] at a1
  exact a1 k hk rfl
 ·rw [aX (hne d hd)];exact hnone d hd
theorem aa3 {o p:ak} (hap:XG o p=true) {env1 env2:Env} {s1 s2:St} (h1:bV glob call cx o env s=.norm env1 s1) (h2:bV glob call cx p env1 s1=.norm env2 s2):
  ∃f1 t1 f2,bV glob call cx p env s=.norm f1 t1∧bV glob call cx o f1 t1=.norm f2 s2∧EqE f2 env2:=absurd hap Bool.false_ne_true
theorem vM {d:Nat} {zs:List AV} {env1:Env} {s1:St}:bV glob call cx ⟨some d,none,.lallocp d zs⟩ env s=.norm env1 s1 ↔ lk env d=none∧env1=(d,.bx zs)::env∧s1=s:=by
 have hl:(AOp.lallocp d zs).quiet.isSome=false:=rfl
 rw [bY hl]
 simp only [bD,aZ,aop]
 cases hk:lk env d with
 | some e=>simp
 | none=>
  have hput:put env d (.bx zs)=(d,.bx zs)::env:=by unfold put;rw [hk]
  simp only [EV.refers,Bool.false_eq_true,if_false,hput,Out.norm.injEq,true_and]
  exact ⟨fun h=>⟨h.1.symm,h.2.symm⟩,fun h=>⟨h.1.symm,h.2.symm⟩⟩
theorem aa8 {o p:ak} (hap:PE o p=true) {env1 env2:Env} {s1 s2:St} (h1:bV glob call cx o env s=.norm env1 s1) (h2:bV glob call cx p env1 s1=.norm env2 s2):
  ∃f1 t1 f2,bV glob call cx p env s=.norm f1 t1∧bV glob call cx o f1 t1=.norm f2 s2∧EqE f2 env2:=by
 obtain ⟨pd,pg,pop⟩:=p
 simp only [PE,Bool.and_eq_true,Option.isNone_iff_eq_none] at hap
 obtain ⟨⟨⟨a1,a2⟩,a3⟩,a4⟩:=hap
 subst a2
 have hp:∃d zs,pd=some d∧pop=.lallocp d zs:=by
  split at a1
  ·rename_i d zs d';simp at a1;subst a1;exact ⟨d,zs,rfl,rfl⟩
  ·cases a1
 obtain ⟨d,zs,rfl,rfl⟩:=hp
 obtain ⟨hn,rfl,rfl⟩:=vM.1 h2
 have hod:o.dst≠some d:=by
  intro h
  rw [h] at a3
  simp at a3
 have agr:∀env:Env,lk env d=none→Agr (fun k=>k=d) env ((d,.bx zs)::env):=fun env h=>⟨fun k hk=>(aJ _ _ (Ne.symm hk)).symm,fun k e hk he _=>by subst hk;rw [h] at he;cases he⟩
 by_cases hq:o.op.quiet.isSome=true
 ·rw [if_pos hq] at a4
  rw [aV hq] at h1
  obtain ⟨rfl,e,hqv,hokd,rfl⟩:=dJ.1 h1
  rw [aX hod] at hn
  refine ⟨(d,.bx zs)::env,s2,nY ((d,.bx zs)::env) o.dst e,vM.2 ⟨hn,rfl,rfl⟩, ?_, ?_⟩
  ·rw [aV hq]
   refine dJ.2 ⟨rfl,e,vJ (agr env hn) (fun k hk hkd=>?_) hqv,fun dp hdp=>⟨(hokd dp hdp).1, ?_⟩,rfl⟩
   ·subst hkd
    have:=CW a4 k hk
    exact this rfl
   ·have:=(hokd dp hdp).2
    unfold iC at this ⊢
    rwa [aJ _ _ (fun h=>hod (by rw [hdp,h]))]
  ·exact A8 (d1:=o.dst) (d2:=some d) (e1:=e) (e2:=.bx zs) (fun x hx hd=>hod (by rw [hx,hd]))
 ·rw [if_neg hq] at a4
  obtain ⟨od,og,oop⟩:=o
  simp only [] at a4 hod hq
  split at a4
  ·rename_i dd t sz x y d'
   simp only [Bool.and_eq_true,beq_iff_eq,Option.isNone_iff_eq_none] at a4
   obtain ⟨⟨rfl,b1⟩,rfl⟩:=a4
   have hloud:(AOp.apprp dd t sz x y).quiet.isSome=false:=rfl
   rw [bY hloud] at h1
   obtain ⟨v,hdn,rfl,_,hrun⟩:=LG h1
   have hdd:dd≠d:=fun h=>hod (by rw [h])
   rw [aJ _ _ hdd] at hn
   simp [mZ] at b1
   refine ⟨(d,.bx zs)::env,s,(dd,.v v)::(d,.bx zs)::env,vM.2 ⟨hn,rfl,rfl⟩, ?_, ?_⟩
   ·rw [bY hloud]
    refine hrun _ (by rw [aJ _ _ (Ne.symm hdd)];exact hdn) (fun ys hys=>Ld (agr env hn) (fun k hk hkd=>?_) hys) (qA (agr env hn) (fun k hk hkd=>?_)).symm
    ·subst hkd;exact (b1.2 k hk) rfl
    ·subst hkd;exact (b1.1 k hk) rfl
   ·exact A8 (d1:=some dd) (d2:=some d) (e1:=.v v) (e2:=.bx zs) (fun x hx hd=>hod (by cases hx;cases hd;rfl))
  ·cases a4
theorem L8 {d:Nat} {zs:List AV} {env1:Env} {s1:St}:bV glob call cx ⟨some d,none,.hallocp d zs⟩ env s=.norm env1 s1 ↔ lk env d=none∧env1=(d,.v (.pt s.length 0))::env∧s1=s++[.cells zs]:=by
 have hl:(AOp.hallocp d zs).quiet.isSome=false:=rfl
 rw [bY hl]
 simp only [bD,aZ,aop]
 cases hk:lk env d with
 | some e=>simp
 | none=>
  have hput:put env d (.v (.pt s.length 0))=(d,.v (.pt s.length 0))::env:=by unfold put;rw [hk]
  simp only [EV.refers,Bool.false_eq_true,if_false,hput,Out.norm.injEq,true_and]
  exact ⟨fun h=>⟨h.1.symm,h.2.symm⟩,fun h=>⟨h.1.symm,h.2.symm⟩⟩
theorem Keeps.more (x:eH):Keeps s (s++[x]):=
 ⟨fun l _ h=>by rw [List.getElem?_append_left (List.getElem?_eq_some_iff.1 h).1];exact h,fun l _ h=>by rw [List.getElem?_append_left (List.getElem?_eq_some_iff.1 h).1];exact h,fun l _ h=>by rw [List.getElem?_append_left (List.getElem?_eq_some_iff.1 h).1];exact h,fun l _ _ _ _ h=>by rw [List.getElem?_append_left (List.getElem?_eq_some_iff.1 h).1];exact h⟩
theorem aa7 {o p:ak} (hap:XI o p=true) {env1 env2:Env} {s1 s2:St} (h1:bV glob call cx o env s=.norm env1 s1) (h2:bV glob call cx p env1 s1=.norm env2 s2):
  ∃f1 t1 f2,bV glob call cx p env s=.norm f1 t1∧bV glob call cx o f1 t1=.norm f2 s2∧EqE f2 env2:=absurd hap Bool.false_ne_true
theorem aa9 {o p:ak} (hap:PG o p=true) {env1 env2:Env} {s1 s2:St} (h1:bV glob call cx o env s=.norm env1 s1) (h2:bV glob call cx p env1 s1=.norm env2 s2):
  ∃f1 t1 f2,bV glob call cx p env s=.norm f1 t1∧bV glob call cx o f1 t1=.norm f2 s2∧EqE f2 env2:=by
 obtain ⟨pd,pg,pop⟩:=p
 simp only [PG,Bool.and_eq_true,Option.isNone_iff_eq_none] at hap
 obtain ⟨⟨⟨⟨a1,a2⟩,a3⟩,a4⟩,a5⟩:=hap
 subst a3 a4
 cases hl:pop.heapy with
 | none=>rw [hl] at a2;cases a2
 | some l=>
 rw [hl] at a2
 simp only [] at a2
 have hq:=nP a1
 rw [aV hq] at h1
 rw [bY (qx hl)] at h2
 obtain ⟨rfl,e,hqv,hokd,rfl⟩:=dJ.1 h1
 obtain ⟨eo,rfl,_,_,hrun⟩:=zx hl a5 h2
 refine ⟨env,s2,nY env o.dst e, ?_, ?_,.refl _⟩
 ·rw [bY (qx hl)]
  refine hrun env (fun j hj=>(aX (fun hd=>?_)).symm) (fun d hd=>by cases hd)
  rw [hd] at a2
  simp only [mZ,List.all_eq_true,bne_iff_ne] at a2
  exact a2 j hj rfl
 ·rw [aV hq]
  exact dJ.2 ⟨rfl,e,by rw [F6 a1 s2 s1];exact hqv,hokd,rfl⟩
theorem XF {l:Nat}:∀{bs:List Nat} {b:Nat},Pv env l bs=true→b∈bs→∃l' o',lk env b=some (.v (.pt l' o'))∧l'≠l:=by
 intro bs b h hb
 have:=List.all_eq_true.1 h b hb
 split at this
 ·rename_i l' o' hl;exact ⟨l',o',hl,by simpa using this⟩
 ·cases this
theorem U5 {n b:Nat} {x:IX} {lb ob:Nat} (hb:lk env b=some (.v (.pt lb ob))) {env1:Env} {s1:St} (h:bD glob call cx ⟨none,none,.storep n (.t b) x⟩ env s=.norm env1 s1):∀l,lb≠l→s1[l]?=s[l]?:=by
 intro l hl
 have hev:ev glob env (.t b)=some (.v (.pt lb ob)):=hb
 simp only [bD,aZ,aop,hev] at h
 cases hx:ev glob env x with
 | none=>rw [hx] at h;cases h
 | some y=>
  rw [hx] at h
  cases y with
  | v xv=>
   simp only [] at h
   cases hst:lS glob cx env s n (.t b) xv with
   | none=>rw [hst] at h;cases h
   | some r=>
    obtain ⟨env',s'⟩:=r
    rw [hst] at h
    simp only [Out.norm.injEq] at h
    obtain ⟨_,rfl⟩:=h
    unfold lS at hst
    rw [hev] at hst
    split at hst
    ·simp only [] at hst
     split at hst
     ·split at hst
      ·cases hst;exact List.getElem?_set_ne hl
      ·cases hst
     ·cases hst
    ·cases hst
  | _=>cases h
theorem aa1 {o p:ak} (hap:Py o p=true) {env1 env2:Env} {s1 s2:St} (h1:bV glob call cx o env s=.norm env1 s1) (h2:bV glob call cx p env1 s1=.norm env2 s2):
  ∃f1 t1 f2,bV glob call cx p env s=.norm f1 t1∧bV glob call cx o f1 t1=.norm f2 s2∧EqE f2 env2:=by
 obtain ⟨pd,pg,pop⟩:=p
 simp only [Py,Bool.and_eq_true,Option.isNone_iff_eq_none] at hap
 obtain ⟨⟨⟨a1,a2⟩,a3⟩,a4⟩:=hap
 subst a3 a4
 split at a1
 case h_2=>cases a1
 rename_i n a bs m b x ho
 simp only [Bool.and_eq_true,List.contains_eq_mem,decide_eq_true_eq] at a1
 obtain ⟨hb,hni⟩:=a1
 have hq:o.op.quiet.isSome=true:=by rw [ho];rfl
 have hl:(AOp.storep m (.t b) x).heapy=some (IX.slots (.t b)++x.slots):=rfl
 rw [aV hq] at h1
 rw [bY (qx hl)] at h2
 obtain ⟨rfl,e,hqv,hokd,rfl⟩:=dJ.1 h1
 have hnd:∀k∈b::x.slots,o.dst≠some k:=by
  intro k hk hd
  rw [hd] at hni
  simp only [mZ,List.all_eq_true,bne_iff_ne] at hni
  exact hni k hk rfl
 obtain ⟨eo,rfl,_,_,hrun⟩:=zx hl rfl h2
 refine ⟨env,s2,nY env o.dst e, ?_, ?_,.refl _⟩
 ·rw [bY (qx hl)]
  refine hrun env (fun j hj=>(aX (hnd j ?_)).symm) (fun d hd=>by cases hd)
  simpa [IX.slots] using hj
 ·rw [aV hq]
  refine dJ.2 ⟨rfl,e, ?_,hokd,rfl⟩
  unfold o7 at hqv ⊢
  rw [a2] at hqv ⊢
  simp only [aZ] at hqv ⊢
  split at hqv
  ·rename_i hok
   rw [if_pos hok]
   rw [ho] at hqv ⊢
   simp only [aop] at hqv ⊢
   cases hx:ev glob env a with
   | none=>rw [hx] at hqv;cases hqv
   | some y=>
    rw [hx] at hqv
    cases y with
    | v ya=>
     cases ya with
     | pt l o1=>
      dsimp only at hqv ⊢
      by_cases haw:Pv env l bs=true
      ·rw [if_pos haw] at hqv ⊢
       obtain ⟨lb,ob,hlb,hne⟩:=XF haw hb
       have hk:s2[l]?=s1[l]?:=U5 (by rw [aX (hnd b (by simp))];exact hlb) h2 l hne
       have hld:dQ glob env s2 n a=dQ glob env s1 n a:=by
        unfold dQ
        rw [hx]
        simp only [hk]
       rw [hld]
       simp only [okv] at hqv ⊢
       cases hv:dQ glob env s1 n a with
       | none=>rw [hv] at hqv;cases hqv
       | some v=>rw [hv] at hqv;simpa using hqv
      ·rw [if_neg haw] at hqv;cases hqv
     | _=>cases hqv
    | _=>cases hqv
  ·cases hqv
theorem NT {n k:Nat} {x:IX} {env1:Env} {s1:St}:bV glob call cx ⟨none,none,.storel n k x⟩ env s=.norm env1 s1 ↔
  s1=s∧∃cs xv,lk env k=some (.bx cs)∧ev glob env x=some (.v xv)∧(xv.cells.length=n∧n≠0∧xv.cells.all AV.one=true∧n≤cs.length)∧env1=(k,.bx (splice cs 0 xv.cells))::env:=by
 have hl:(AOp.storel n k x).quiet.isSome=false:=rfl
 rw [bY hl]
 simp only [bD,aZ,aop]
 constructor
 ·intro h
  split at h
  ·cases h
  ·cases h
  ·rename_i e env2 s2 ha
   cases h
   split at ha
   ·rename_i cs xv hk hx
    split at ha
    ·rename_i hc;cases ha;exact ⟨rfl,cs,xv,hk,hx,hc,rfl⟩
    ·cases ha
   ·cases ha
 ·rintro ⟨rfl,cs,xv,hk,hx,hc,rfl⟩
  rw [hk,hx]
  simp only [if_pos hc]
theorem UQ {x:IX} (h:∀j∈x.slots,lk env2 j=lk env j):ev glob env2 x=ev glob env x:=by
 cases x with
 | t k=>exact h k (by simp [IX.slots])
 | c a=>rfl
 | g k=>rfl
theorem aa4 {o p:ak} (hap:XH o p=true) {env1 env2:Env} {s1 s2:St} (h1:bV glob call cx o env s=.norm env1 s1) (h2:bV glob call cx p env1 s1=.norm env2 s2):
  ∃f1 t1 f2,bV glob call cx p env s=.norm f1 t1∧bV glob call cx o f1 t1=.norm f2 s2∧EqE f2 env2:=absurd hap Bool.false_ne_true
theorem DL {o:ak} {d:Nat} {l:List Nat} (h:o.callS=some (d,l)):∃f as kk,o=⟨some d,none,.callh d f as kk⟩∧l=(f.slots++as.flatMap IX.slots)++(kk.map (·.1)).toList:=by
 unfold ak.callS at h
 split at h
 ·split at h
  ·rename_i hd;cases h;subst hd;exact ⟨_,_,_,rfl,rfl⟩
  ·cases h
 ·cases h
theorem QB {env2:Env} {s1 s2:St}:∀{kk:Option (Nat×Nat)},(∀k∈(kk.map (·.1)).toList,lk env2 k=lk env k)→Bl env2 s1 s2 kk=Bl env s1 s2 kk
 | none,_=>rfl
 | some (k,off),h=>by
  have h1:=h k (by simp)
  simp only [Bl,h1]
theorem I5 {env2:Env} {x:IX} (h:∀k∈x.slots,lk env2 k=lk env k):rd glob env2 x=rd glob env x:=by
 unfold rd;rw [UQ (env2:=env2) (env:=env) h]
theorem I7 {env2:Env}:∀{as:List IX},(∀k∈as.flatMap IX.slots,lk env2 k=lk env k)→rds glob env2 as=rds glob env as
 | [],_=>rfl
 | x::r,h=>by
  unfold rds
  rw [I5 (env2:=env2) (env:=env) (fun k hk=>h k (by simp [hk])),I7 (as:=r) (fun k hk=>h k (by simp at hk ⊢;exact .inr hk))]
theorem FN {d:Nat} {f:IX} {as:List IX} {kk:Option (Nat×Nat)} {out:Out} (h:bD glob call cx ⟨some d,none,.callh d f as kk⟩ env s=out) (ho:out≠.fail):
  lk env d=none∧∃fv vs,rd glob env f=some fv∧rds glob env as=some vs∧((∃r s1,(call fv vs s cx=.ret r s1∧Bl env s s1 kk=true)∧out=.norm ((d,.v r)::env) s1)∨∃v s1,call fv vs s cx=.pan v s1∧out=.pan v s1):=by
 simp only [bD,aZ,aop] at h
 cases hk:lk env d with
 | some e=>rw [hk] at h;exact absurd h.symm ho
 | none=>
  rw [hk] at h
  simp only [] at h
  cases hf:rd glob env f with
  | none=>rw [hf] at h;exact absurd h.symm ho
  | some fv=>
   cases hv:rds glob env as with
   | none=>rw [hf,hv] at h;exact absurd h.symm ho
   | some vs=>
    rw [hf,hv] at h
    simp only [] at h
    refine ⟨rfl,fv,vs,rfl,rfl, ?_⟩
    cases hc:call fv vs s cx with
    | fail=>rw [hc] at h;exact absurd h.symm ho
    | pan v s1=>rw [hc] at h;exact .inr ⟨v,s1,rfl,h.symm⟩
    | ret r s1=>
     rw [hc] at h
     have hput:put env d (.v r)=(d,.v r)::env:=by unfold put;rw [hk]
     by_cases hkp:Bl env s s1 kk=true
     ·simp only [hkp,if_true,EV.refers,Bool.false_eq_true,if_false,hput] at h
      exact .inl ⟨r,s1,⟨rfl,hkp⟩,h.symm⟩
     ·simp only [hkp,if_false,Bool.false_eq_true] at h
      exact absurd h.symm ho
theorem FO {d:Nat} {f:IX} {as:List IX} {kk:Option (Nat×Nat)} {fv:AV} {vs:List AV} (hk:lk env d=none) (hf:rd glob env f=some fv) (hv:rds glob env as=some vs):
  bD glob call cx ⟨some d,none,.callh d f as kk⟩ env s=match call fv vs s cx with
   | .ret r s1=>if Bl env s s1 kk=true then .norm ((d,.v r)::env) s1 else .fail
   | .pan v s1=>.pan v s1
   | .fail=>.fail:=by
 have hput:∀e,put env d e=(d,e)::env:=fun e=>by unfold put;rw [hk]
 simp only [bD,aZ,aop,hk,hf,hv]
 cases call fv vs s cx with
 | ret r s1=>by_cases hkp:Bl env s s1 kk=true<;>simp [EV.refers,hput,hkp]
 | _=>simp [EV.refers,hput]
theorem yQ {d:Nat} {f:IX} {as:List IX} {kk:Option (Nat×Nat)}:(AOp.callh d f as kk).quiet.isSome=false:=rfl
theorem Lh {o:ak} {d:Nat} {f:IX} {as:List IX} {kk:Option (Nat×Nat)} {e:EV} {fv:AV} {vs:List AV} (hnd:∀k∈d::((f.slots++as.flatMap IX.slots)++(kk.map (·.1)).toList),o.dst≠some k):
  lk (nY env o.dst e) d=lk env d∧rd glob (nY env o.dst e) f=rd glob env f∧rds glob (nY env o.dst e) as=rds glob env as∧∀s1 s2,Bl (nY env o.dst e) s1 s2 kk=Bl env s1 s2 kk:=
 ⟨aX (hnd d (by simp)),I5 (fun k hk=>aX (hnd k (by simp [hk]))),
  I7 (fun k hk=>aX (hnd k (List.mem_cons_of_mem _ (List.mem_append_left _ (List.mem_append_right _ hk))))),
  fun _ _=>QB (fun k hk=>aX (hnd k (List.mem_cons_of_mem _ (List.mem_append_right _ hk))))⟩
theorem Yv {o:ak} {d:Nat} {f:IX} {as:List IX} {kk:Option (Nat×Nat)} (hq:o.op.quiet.isSome=true) (hnd:∀k∈d::((f.slots++as.flatMap IX.slots)++(kk.map (·.1)).toList),o.dst≠some k) (a3:∀k∈o.reads,¬k=d)
  {env1 env2:Env} {s1 s2:St} (h1:bV glob call cx o env s=.norm env1 s1) (h2:bV glob call cx ⟨some d,none,.callh d f as kk⟩ env1 s1=.norm env2 s2)
  (hsame:Bl env s s2 kk=true→∀e,o7 glob call o env s=some e→o7 glob call o env s2=some e):
  ∃f1 t1 f2,bV glob call cx ⟨some d,none,.callh d f as kk⟩ env s=.norm f1 t1∧bV glob call cx o f1 t1=.norm f2 s2∧EqE f2 env2:=by
 rw [aV hq] at h1
 rw [bY yQ] at h2
 obtain ⟨rfl,e,hqv,hokd,rfl⟩:=dJ.1 h1
 obtain ⟨hn,fv,vs,hf,hv,hcase⟩:=FN h2 (by simp)
 have hod:o.dst≠some d:=hnd d (by simp)
 obtain ⟨g1,g2,g3,g4⟩:=Lh (glob:=glob) (env:=env) (e:=e) (fv:=fv) (vs:=vs) hnd
 rw [g1] at hn
 rw [g2] at hf
 rw [g3] at hv
 rcases hcase with ⟨r,t,⟨hc,hk⟩,hout⟩|⟨_,_,_,hout⟩
 ·cases hout
  rw [g4] at hk
  refine ⟨(d,.v r)::env,s2,nY ((d,.v r)::env) o.dst e,by rw [bY yQ,FO hn hf hv,hc];simp only [hk,if_true], ?_, ?_⟩
  ·rw [aV hq]
   have agr:Agr (fun k=>k=d) env ((d,.v r)::env):=⟨fun k hk=>(aJ _ _ (Ne.symm hk)).symm,fun k e hk he _=>by subst hk;rw [hn] at he;cases he⟩
   refine dJ.2 ⟨rfl,e,vJ agr (fun k hk hkd=>a3 k hk hkd) (hsame hk e hqv),fun dp hdp=>⟨(hokd dp hdp).1, ?_⟩,rfl⟩
   have:=(hokd dp hdp).2
   unfold iC at this ⊢
   rwa [aJ _ _ (fun h=>hod (by rw [hdp,h]))]
  ·exact A8 (d1:=o.dst) (d2:=some d) (e1:=e) (e2:=.v r) (fun x hx hd=>hod (by rw [hx,hd]))
 ·cases hout
theorem zV {o p:ak} (h:(match p.callS with|some (d,l)=>mZ o.dst (d::l) && o.reads.all (fun j=>j != d)|none=>false)=true):
  ∃d f as kk,p=⟨some d,none,.callh d f as kk⟩∧(∀k∈d::((f.slots++as.flatMap IX.slots)++(kk.map (·.1)).toList),o.dst≠some k)∧∀k∈o.reads,¬k=d:=by
 cases hcs:p.callS with
 | none=>rw [hcs] at h;cases h
 | some q=>
  obtain ⟨d,l⟩:=q
  rw [hcs] at h
  simp only [Bool.and_eq_true,List.all_eq_true,bne_iff_ne,ne_eq] at h
  obtain ⟨a2,a3⟩:=h
  obtain ⟨f,as,kk,rfl,rfl⟩:=DL hcs
  refine ⟨d,f,as,kk,rfl,fun k hk hd=>?_,a3⟩
  rw [hd] at a2
  simp only [mZ,List.all_eq_true,bne_iff_ne] at a2
  exact a2 k hk rfl
theorem abe {o p:ak} (hap:yR o p=true) {env1 env2:Env} {s1 s2:St} (h1:bV glob call cx o env s=.norm env1 s1) (h2:bV glob call cx p env1 s1=.norm env2 s2):
  ∃f1 t1 f2,bV glob call cx p env s=.norm f1 t1∧bV glob call cx o f1 t1=.norm f2 s2∧EqE f2 env2:=by
 simp only [yR,Bool.and_eq_true] at hap
 obtain ⟨a1,a2⟩:=hap
 obtain ⟨d,f,as,kk,rfl,hnd,a3⟩:=zV a2
 exact Yv (nP a1) hnd a3 h1 h2 (fun _ e he=>by rw [F6 a1 s2 s];exact he)
theorem Rn {o p:ak} (hap:Aw o p=true):∃a k off d f as,o.op=.loadv a k off∧o.guard=none∧p=⟨some d,none,.callh d f as (some (k,off))⟩∧
  (∀k'∈d::((f.slots++as.flatMap IX.slots)++((some (k,off)).map (·.1)).toList),o.dst≠some k')∧∀k'∈o.reads,¬k'=d:=by
 simp only [Aw,Bool.and_eq_true,Option.isNone_iff_eq_none] at hap
 obtain ⟨⟨a1,a2⟩,a3⟩:=hap
 obtain ⟨d,f,as,kk,rfl,hnd,hr⟩:=zV a3
 split at a1
 ·rename_i a k off d' f' as' k' off' ho hp
  injection hp with e1 e2 e3 e4
  subst e4
  simp only [Bool.and_eq_true,beq_iff_eq] at a1
  obtain ⟨rfl,rfl⟩:=a1
  exact ⟨a,k,off,d,f,as,ho,a2,rfl,hnd,hr⟩
 ·cases a1
theorem aa2 {o p:ak} (hap:Aw o p=true) {env1 env2:Env} {s1 s2:St} (h1:bV glob call cx o env s=.norm env1 s1) (h2:bV glob call cx p env1 s1=.norm env2 s2):
  ∃f1 t1 f2,bV glob call cx p env s=.norm f1 t1∧bV glob call cx o f1 t1=.norm f2 s2∧EqE f2 env2:=by
 obtain ⟨a,k,off,d,f,as,ho,hg,rfl,hnd,a3⟩:=Rn hap
 refine Yv (by rw [ho];rfl) hnd a3 h1 h2 (fun hk e he=>?_)
 unfold o7 at he ⊢
 rw [hg] at he ⊢
 simp only [aZ] at he ⊢
 split at he
 ·rename_i hok
  rw [if_pos hok]
  rw [ho] at he ⊢
  simp only [aop] at he ⊢
  unfold Bl at hk
  dsimp only at hk
  cases hl:lk env k with
  | none=>rw [hl] at hk;cases hk
  | some x=>
   rw [hl] at hk he
   revert hk he
   cases ev glob env a with
   | none=>intro he hk;cases he
   | some y=>
    cases y with
    | v ya=>
     cases ya with
     | pt l o1=>
      cases x with
      | v xa=>
       cases xa with
       | pt l' o'=>
        intro he hk
        dsimp only at hk he ⊢
        by_cases hlo:l=l'∧o1=o'+off
        ·rw [if_pos hlo] at he ⊢
         obtain ⟨rfl,rfl⟩:=hlo
         cases hm:Ui s l (o'+off) with
         | none=>rw [hm] at hk;cases hk
         | some m=>
          cases hm2:Ui s2 l (o'+off) with
          | none=>rw [hm,hm2] at hk;cases hk
          | some m2=>
           rw [hm,hm2] at hk
           simp only [beq_iff_eq] at hk
           subst hk
           rw [hm] at he
           simpa using he
        ·rw [if_neg hlo] at he;cases he
       | _=>intro he hk;cases he
      | _=>intro he hk;cases he
     | _=>intro he hk;cases he
    | _=>intro he hk;cases he
 ·cases he
theorem Qv {o:ak} {d:Nat} {f:IX} {as:List IX} {kk:Option (Nat×Nat)} (hq:o.op.quiet.isSome=true) (hnd:∀k∈d::((f.slots++as.flatMap IX.slots)++(kk.map (·.1)).toList),o.dst≠some k)
  {env1:Env} {s1:St} (h1:bV glob call cx o env s=.norm env1 s1) {v:AV} (h2:bD glob call cx ⟨some d,none,.callh d f as kk⟩ env1 s1=.pan v s'):s1=s∧bD glob call cx ⟨some d,none,.callh d f as kk⟩ env s=.pan v s':=by
 rw [aV hq] at h1
 obtain ⟨rfl,e,hqv,hokd,rfl⟩:=dJ.1 h1
 obtain ⟨hn,fv,vs,hf,hv,hcase⟩:=FN h2 (by simp)
 obtain ⟨g1,g2,g3,g4⟩:=Lh (glob:=glob) (env:=env) (e:=e) (fv:=fv) (vs:=vs) hnd
 rw [g1] at hn
 rw [g2] at hf
 rw [g3] at hv
 rcases hcase with ⟨_,_,_,hout⟩|⟨v',t,hc,hout⟩
 ·cases hout
 ·cases hout
  exact ⟨rfl,by rw [FO hn hf hv,hc]⟩
theorem Vk {o p:ak} (hap:yR o p=true∨Aw o p=true) {env1:Env} {s1:St} (h1:bV glob call cx o env s=.norm env1 s1) {v:AV} (h2:bD glob call cx p env1 s1=.pan v s'):s1=s∧bD glob call cx p env s=.pan v s':=by
 rcases hap with hap|hap
 ·simp only [yR,Bool.and_eq_true] at hap
  obtain ⟨a1,a2⟩:=hap
  obtain ⟨d,f,as,kk,rfl,hnd,_⟩:=zV a2
  exact Qv (nP a1) hnd h1 h2
 ·obtain ⟨a,k,off,d,f,as,ho,hg,rfl,hnd,a3⟩:=Rn hap
  exact Qv (by rw [ho];rfl) hnd h1 h2
theorem abd {o p:ak} (hap:PK o p=true) {env1 env2:Env} {s1 s2:St} (h1:bV glob call cx o env s=.norm env1 s1) (h2:bV glob call cx p env1 s1=.norm env2 s2):
  s2=s1∧∃f1 f2,bV glob call cx p env s=.norm f1 s∧bV glob call cx o f1 s=.norm f2 s1∧EqE f2 env2:=by
 simp only [PK,Bool.and_eq_true] at hap
 obtain ⟨a1,a2⟩:=hap
 obtain ⟨d,f,as,kk,rfl,hnd,a3⟩:=zV (o:=p) (p:=o) a2
 have hq:=nP a1
 rw [bY yQ] at h1
 rw [aV hq] at h2
 obtain ⟨hn,fv,vs,hf,hv,hcase⟩:=FN h1 (by simp)
 rcases hcase with ⟨r,t,⟨hc,hk⟩,hout⟩|⟨_,_,_,hout⟩
 ·cases hout
  obtain ⟨rfl,e,hqv,hokd,rfl⟩:=dJ.1 h2
  have hpd:p.dst≠some d:=hnd d (by simp)
  have agr:Agr (fun k=>k=d) ((d,.v r)::env) env:=⟨fun k hk=>aJ _ _ (Ne.symm hk),fun k e hk he ho=>by subst hk;rw [bF] at he;cases he;cases ho⟩
  have hqv':o7 glob call p env s=some e:=by rw [F6 a1 s s2];exact vJ agr (fun k hk hkd=>a3 k hk hkd) hqv
  have hok':okD env p.dst e:=fun dp hdp=>⟨(hokd dp hdp).1,by
   have:=(hokd dp hdp).2
   unfold iC at this ⊢
   rwa [aJ _ _ (fun h=>hpd (by rw [hdp,h]))] at this⟩
  obtain ⟨g1,g2,g3,g4⟩:=Lh (glob:=glob) (env:=env) (e:=e) (fv:=fv) (vs:=vs) hnd
  refine ⟨rfl,nY env p.dst e,(d,.v r)::nY env p.dst e,by rw [aV hq];exact dJ.2 ⟨rfl,e,hqv',hok',rfl⟩, ?_,A8 (d1:=some d) (d2:=p.dst) (e1:=.v r) (e2:=e) (fun x hx hd=>hpd (by cases hx;exact hd))⟩
  rw [bY yQ,FO (by rw [g1];exact hn) (by rw [g2];exact hf) (by rw [g3];exact hv),hc]
  simp only [g4,hk,if_true]
 ·cases hout
def RX (p:ak):Prop:=p.op.quiet.isSome=true∨(∃d zs,p=⟨some d,none,.lallocp d zs⟩)∨(∃op l,p=⟨none,none,op⟩∧op.heapy=some l∧Tq op none=true)∨(∃n k x,p=⟨none,none,.storel n k x⟩)∨(∃d f as kk,p=⟨some d,none,.callh d f as kk⟩)∨∃d zs,p=⟨some d,none,.hallocp d zs⟩
theorem LM {p:ak} (hp:RX p) (he:EqE env env2) {env1:Env} {s1:St} (h:bV glob call cx p env s=.norm env1 s1):∃env1',bV glob call cx p env2 s=.norm env1' s1∧EqE env1 env1':=by
 rcases hp with hq|⟨d,zs,rfl⟩|⟨op,l,rfl,hl,hd⟩|⟨n,k,x,rfl⟩|⟨d,f,as,kk,rfl⟩|⟨d,zs,rfl⟩
 ·have hs:=A7 hq h
  subst hs
  exact Vf hq he h
 ·obtain ⟨h1,rfl,rfl⟩:=vM.1 h
  exact ⟨_,vM.2 ⟨by rw [←he];exact h1,rfl,rfl⟩,fun j=>by rw [dY,dY,he j]⟩
 ·rw [bY (qx hl)] at h ⊢
  obtain ⟨e,rfl,_,_,hrun⟩:=zx hl hd h
  exact ⟨_,hrun env2 (fun j _=>(he j).symm) (fun d hd=>by cases hd),he⟩
 ·obtain ⟨rfl,cs,xv,c1,c2,c3,rfl⟩:=NT.1 h
  exact ⟨_,NT.2 ⟨rfl,cs,xv,by rw [←he];exact c1,by rw [UQ (env2:=env2) (env:=env) (fun j _=>(he j).symm)];exact c2,c3,rfl⟩,fun j=>by rw [dY,dY,he j]⟩
 ·rw [bY yQ] at h ⊢
  obtain ⟨hn,fv,vs,hf,hv,hcase⟩:=FN h (by simp)
  rcases hcase with ⟨r,t,⟨hc,hk⟩,hout⟩|⟨_,_,_,hout⟩
  ·cases hout
   refine ⟨(d,.v r)::env2, ?_,fun j=>by rw [dY,dY,he j]⟩
   rw [FO (by rw [←he];exact hn) (by rw [I5 (env2:=env2) (env:=env) (fun j _=>(he j).symm)];exact hf) (by rw [I7 (env2:=env2) (env:=env) (fun j _=>(he j).symm)];exact hv),hc]
   simp only [QB (env2:=env2) (env:=env) (fun j _=>(he j).symm),hk,if_true]
  ·cases hout
 ·obtain ⟨h1,rfl,rfl⟩:=L8.1 h
  exact ⟨_,L8.2 ⟨by rw [←he];exact h1,rfl,rfl⟩,fun j=>by rw [dY,dY,he j]⟩
theorem RJ {o p:ak} (h:apart o p=true):RX p:=by
 simp only [apart,Bool.or_eq_true] at h
 rcases h with (((((((((((h|h)|h)|h)|h)|h)|h)|h)|h)|h)|h)|h)|h
 ·exact .inl (zW h).2.1
 ·obtain ⟨_,_,d,n,x,rfl⟩:=MK h;exact .inl rfl
 ·exact .inl (MJ h).2.2
 ·simp only [PI,Bool.and_eq_true] at h
  have h4:=h.1.1.2
  exact .inl (nP h4)
 ·exact absurd h Bool.false_ne_true
 ·obtain ⟨pd,pg,pop⟩:=p
  simp only [PE,Bool.and_eq_true,Option.isNone_iff_eq_none] at h
  obtain ⟨⟨⟨a1,a2⟩,_⟩,_⟩:=h
  subst a2
  split at a1
  ·rename_i d0 zs0 d1;simp at a1;subst a1;exact .inr (.inl ⟨_,_,rfl⟩)
  ·cases a1
 ·obtain ⟨pd,pg,pop⟩:=p
  simp only [PG,Bool.and_eq_true,Option.isNone_iff_eq_none] at h
  obtain ⟨⟨⟨⟨_,a2⟩,a3⟩,a4⟩,a5⟩:=h
  subst a3 a4
  cases hl:pop.heapy with
  | none=>rw [hl] at a2;cases a2
  | some l=>exact .inr (.inr (.inl ⟨pop,l,rfl,hl,a5⟩))
 ·exact absurd h Bool.false_ne_true
 ·simp only [yR,Bool.and_eq_true] at h
  cases hcs:p.callS with
  | none=>rw [hcs] at h;cases h.2
  | some q=>obtain ⟨f,as,kk,rfl,_⟩:=DL hcs;exact .inr (.inr (.inr (.inr (.inl ⟨_,_,_,_,rfl⟩))))
 ·simp only [PK,Bool.and_eq_true] at h
  exact .inl (nP h.1)
 ·obtain ⟨a,k,off,d,f,as,ho,hg,rfl,hnd,a3⟩:=Rn h
  exact .inr (.inr (.inr (.inr (.inl ⟨_,_,_,_,rfl⟩))))
 ·obtain ⟨pd,pg,pop⟩:=p
  simp only [Py,Bool.and_eq_true,Option.isNone_iff_eq_none] at h
  obtain ⟨⟨⟨a1,a2⟩,a3⟩,a4⟩:=h
  subst a3 a4
  split at a1
  ·exact .inr (.inr (.inl ⟨_,_,rfl,rfl,rfl⟩))
  ·cases a1
 ·exact absurd h Bool.false_ne_true
theorem swap {o p:ak} (hap:apart o p=true) {env1 env2:Env} {s1 s2:St} (h1:bV glob call cx o env s=.norm env1 s1) (h2:bV glob call cx p env1 s1=.norm env2 s2):
  ∃f1 t1 f2,bV glob call cx p env s=.norm f1 t1∧bV glob call cx o f1 t1=.norm f2 s2∧EqE f2 env2:=by
 simp only [apart,Bool.or_eq_true] at hap
 rcases hap with (((((((((((hap|hap)|hap)|hap)|hap)|hap)|hap)|hap)|hap)|hap)|hap)|hap)|hap
 ·have ho:=(zW hap).1
  have hp2:=(zW hap).2.1
  have e1:=A7 ho h1
  subst e1
  have e2:=A7 hp2 h2
  subst e2
  rw [aV ho] at h1
  rw [aV hp2] at h2
  obtain ⟨f1,f2,q1,q2,q3⟩:=Va hap h1 h2
  exact ⟨f1,_,f2,by rw [aV hp2];exact q1,by rw [aV ho];exact q2,q3⟩
 ·obtain ⟨rfl,rfl,f1,f2,q⟩:=aa6 hap h1 h2
  exact ⟨f1,_,f2,q⟩
 ·obtain ⟨rfl,f1,f2,q⟩:=aa5 hap h1 h2
  exact ⟨f1,_,f2,q⟩
 ·obtain ⟨rfl,f1,f2,q⟩:=abb hap h1 h2
  exact ⟨f1,_,f2,q⟩
 ·exact aa3 hap h1 h2
 ·exact aa8 hap h1 h2
 ·exact aa9 hap h1 h2
 ·exact aa4 hap h1 h2
 ·exact abe hap h1 h2
 ·obtain ⟨rfl,f1,f2,q⟩:=abd hap h1 h2
  exact ⟨f1,_,f2,q⟩
 ·exact aa2 hap h1 h2
 ·exact aa1 hap h1 h2
 ·exact aa7 hap h1 h2
theorem bubble {i:Nat} {q:List Nat} {oi:ak} (hoi:aops[i]?=some oi) (hmv:RX oi):∀(p:List Nat),(∀j∈p,DV aops j i)→∀{env:Env} {s:St},Runs glob call cx aops (p++i::q) env s env' s'→
  ∃env1 s1,bV glob call cx oi env s=.norm env1 s1∧Runs glob call cx aops (p++q) env1 s1 env' s'
 | [],_,env,s,h=>by
  obtain ⟨o,e0,e1,s1,ho,he,hr,h2⟩:=h
  rw [hoi] at ho;cases ho
  obtain ⟨e3,h3,h4⟩:=LM hmv he.symm hr
  exact ⟨e3,s1,h3,h2.eqE h4.symm⟩
 | j::p,hap,env,s,h=>by
  obtain ⟨oj,e0,ej,sj,hoj,he,hrj,hrest⟩:=h
  obtain ⟨ei,si,hri,h4⟩:=bubble hoi hmv p (fun k hk=>hap k (by simp [hk])) hrest
  obtain ⟨o1,o2,h1,h2,hapr⟩:=hap j (by simp)
  rw [hoj] at h1;cases h1
  rw [hoi] at h2;cases h2
  obtain ⟨f1,t1,f2,q1,q2,q3⟩:=swap hapr hrj hri
  obtain ⟨f3,q4,q5⟩:=LM hmv he.symm q1
  exact ⟨f3,t1,q4,oj,f1,f2,_,hoj,q5.symm,q2,h4.eqE q3⟩
theorem LJ {F:Fence} {n i b0:Nat} {N:Wd} {ls:List Nat} {o:Oper} {ao:ak} {Q:Exit→Act→World→Prop} {K:Act→World→Prop} (hcall:l7 qt P glob call) (hext:dO call) (hF:isF F) (h:Fr P glob g s B w a env N b0 ls)
  (hi:ops[i]?=some o) (hc:sK P N ops o ao=true) (hr:xE glob call ao env s=.norm env' s)
  (hK:∀g' w' a',Step qt g s.length B w g' s.length w'→Fr P glob g' s B w' a' env' N b0 ls→K a' w'):wpOpIn F n P ops Q i K a w:=by
 obtain ⟨_,e,hq,hd,rfl⟩:=dJ.1 hr
 have hcx:bQ ⟨s.length,s.length⟩ s:=⟨Nat.le_refl _,Nat.le_refl _⟩
 have key:∃env1,bD glob call ⟨s.length,s.length⟩ ao env s=.norm env1 s∧EqE env1 (nY env ao.dst e):=by
  unfold o7 at hq
  unfold bD
  split at hq
  ·cases hq
  ·rename_i hw
   cases hq
   try simp only [hw]
   cases hdst:ao.dst with
   | none=>exact ⟨env,rfl,fun _=>rfl⟩
   | some d=>exact ⟨_,rfl,fun k=>by rw [Kq (hd d hdst).2];rfl⟩
  ·rename_i hw
   try simp only [hw]
   split at hq
   ·rename_i hok
    split at hq
    ·rename_i e1 env1 s1 ha
     split at hq
     ·rename_i hc2
      cases hq
      have hx:Ext ⟨s.length,s.length⟩ s s1:=RN hext hcx ha
      have hs:s1=s:=by
       apply List.ext_getElem?
       intro l
       by_cases hl:l<s.length
       ·exact hx.lim l hl
       ·rw [List.getElem?_eq_none (by omega),List.getElem?_eq_none (by omega)]
      subst hs
      unfold okQ at hok
      split at hok
      ·rename_i rs es hqu
       simp only [Bool.and_eq_true] at hok
       obtain ⟨hl,_⟩:=U2 (Agr.refl env) hqu (fun x _ k _ hf=>hf) hok.1 hok.2 ha
       rw [ha]
       simp only []
       cases hdst:ao.dst with
       | none=>exact ⟨env1,rfl,hl⟩
       | some d=>
        obtain ⟨d1,d2⟩:=hd d hdst
        simp only [d1]
        refine ⟨_,rfl,fun k=>?_⟩
        rw [Kq (by unfold iC at d2 ⊢;rw [hl d];exact d2)]
        exact (EqE.put (env:=env1) (env2:=env) hl (some d) e) k
      ·cases hok
     ·cases hq
    ·cases hq
   ·cases hq
 obtain ⟨env1,hr1,he⟩:=key
 exact EO hcall hext hF hcx h hi hc hr1 (fun g' w' a' hs hf=>hK g' w' a' hs (hf.eqE he))
end Go.Ai
namespace Go.Ai
variable {qt:Prop} {P:Program} {glob:Nat→Option (List AV)} {g:af} {s:St} {B:Nat} {w:World} {env env2:Env} {a:Act} {call:AV→List AV→St→Ctx→CO} {cx:Ctx} {env':Env} {s':St} {ops:Array Oper} {aops:List ak}
theorem DK {N:Wd} {all:Array Oper}:∀(os:List Oper) (aos:List ak),iw P N all os aos=true→∀(i:Nat) (o:Oper),os[i]?=some o→∃ao,aos[i]?=some ao∧sK P N all o ao=true
 | [],_,_,i,o,h=>by simp at h
 | o::os,[],hc,_,_,_=>by simp [iw] at hc
 | o::os,ao::aos,hc,i,o',h=>by
  simp only [iw,Bool.and_eq_true] at hc
  cases i with
  | zero=>simp at h;subst h;exact ⟨ao,rfl,hc.1⟩
  | succ i=>simp at h;simpa using DK os aos hc.2 i o' h
theorem Yb {F:Fence} {n b0:Nat} {N:Wd} {ls:List Nat} {Q:Exit→Act→World→Prop} (hcall:l7 qt P glob call) (hext:dO call) (hF:isF F)
  (hops:∀(i:Nat) (o:Oper),ops[i]?=some o→∃ao,aops[i]?=some ao∧sK P N ops o ao=true):
  ∀(fuel:Nat) (listed:Array Bool) (l:List Nat) {env:Env} {g:af} {s:St} {w:World} {a:Act},l.length=fuel→Inv ops aops listed l→
    Runs glob call cx aops l env s env' s'→bQ cx s→Fr P glob g s B w a env N b0 ls→
    (∀g' w' a',Step qt g s.length B w g' s'.length w'→Fr P glob g' s' B w' a' env' N b0 ls→Q .normal a' w')→wpAnyIn F n P .any ops Q fuel listed a w:=by
 intro fuel
 induction fuel with
 | zero=>
  intro listed l env g s w a hlen hinv hrun hcx hfr hQ
  have hnil:l=[]:=List.eq_nil_of_length_eq_zero hlen
  subst hnil
  obtain ⟨he,rfl⟩:=hrun
  exact ⟨hinv.nil_ready,hQ g w a (.refl _ _ _ _) (hfr.eqE he)⟩
 | succ fuel ih=>
  intro listed l env g s w a hlen hinv hrun hcx hfr hQ
  refine ⟨fun h0=>?_,fun i hi=>?_⟩
  ·cases l with
   | nil=>cases hlen
   | cons j t=>have:=hinv.head_ready;rw [h0] at this;cases this
  ·have hmem:=hinv.ready_mem hi
   obtain ⟨_,o,ho,_⟩:=mem_ready.1 hi
   obtain ⟨ao,hao,hchk⟩:=hops i o ho
   obtain ⟨p,q,rfl⟩:=List.append_of_mem hmem
   have hpair:∀j∈p,DV aops j i:=by
    intro j hj
    have:=(List.pairwise_append.1 hinv.pairs).2.2 j hj i (by simp)
    rcases this with h1|h1
    ·exact absurd h1 (hinv.not_reach hi (by simp [hj]))
    ·exact h1
   have hinv':Inv ops aops (listed.setIfInBounds i true) (p++q):=hinv.remove hi
   have hlen':(p++q).length=fuel:=by simp at hlen ⊢;omega
   have loudCase:∀{env1:Env} {s1:St},ao.op.quiet.isSome=false→(∃e0,EqE env e0∧bD glob call cx ao e0 s=.norm env1 s1)→Runs glob call cx aops (p++q) env1 s1 env' s'→wpOpIn F n P ops Q i (fun a' w'=>wpAnyIn F n P .any ops Q fuel (listed.setIfInBounds i true) a' w') a w:=by
    intro env1 s1 hqq ⟨e0,he,hr1⟩ hrest
    have hx:Ext cx s s1:=jR hext hcx (o:=ao) (by rw [hr1];rfl)
    exact EO hcall hext hF hcx (hfr.eqE he) ho hchk hr1 (fun g1 w1 a1 st1 hf1=>ih _ (p++q) hlen' hinv' hrest (hcx.ext hx) hf1 (fun g2 w2 a2 st2 hf2=>hQ g2 w2 a2 (st1.trans st2) hf2))
   cases hqq:ao.op.quiet.isSome with
   | true=>
    obtain ⟨env1,s1,hr1,hrest⟩:=bubble hao (.inl hqq) p hpair hrun
    have hs:=A7 hqq hr1
    subst hs
    rw [aV hqq] at hr1
    exact LJ hcall hext hF hfr ho hchk hr1 (fun g1 w1 a1 st1 hf1=>ih _ (p++q) hlen' hinv' hrest hcx hf1 (fun g2 w2 a2 st2 hf2=>hQ g2 w2 a2 (st1.trans st2) hf2))
   | false=>
    cases p with
    | cons j p=>
     obtain ⟨o1,o2,h1,h2,hapr⟩:=hpair j (by simp)
     rw [hao] at h2;cases h2
     obtain ⟨env1,s1,hr1,hrest⟩:=bubble hao (RJ hapr) (j::p) hpair hrun
     rw [bY hqq] at hr1
     exact loudCase hqq ⟨env,.refl _,hr1⟩ hrest
    | nil=>
     obtain ⟨o',e0,env1,s1,ho',he,hr1,hrest⟩:=hrun
     rw [hao] at ho';cases ho'
     rw [bY hqq] at hr1
     exact loudCase hqq ⟨e0,he,hr1⟩ hrest
theorem Ht {b0:Nat} {N:Wd} {ls:List Nat}:∀(ts:List Nat) {g:af} {env:Env},Fr P glob g s B w a env N b0 ls→∃g',Step qt g s.length B w g' s.length w∧Fr P glob g' s B w a (AX env ts) N b0 ls
 | [],g,env,h=>⟨g,.refl _ _ _ _,h⟩
 | k::ts,g,env,h=>by
  unfold AX
  split
  ·rename_i tip t sz es hk
   obtain ⟨g1,st1,hs1,_⟩:=Le h.sim hk
   obtain ⟨g2,st2,h2⟩:=Ht ts (h.next hs1 rfl rfl st1.le (fun _ hh=>hh) (fun _ _=>rfl))
   exact ⟨g2,st1.weak.trans st2,h2⟩
  ·exact Ht ts h
theorem JU:∀(π seen:List Nat),NJ ops π seen=true→(∀i∈π,i<ops.size)∧π.Nodup∧(∀i∈π,i ∉ seen)∧∀p i q,π=p++i::q→∀e∈pX ops i,e∈seen∨e∈p
 | [],seen,_=>⟨fun _ h=>(by cases h),List.nodup_nil,fun _ h=>(by cases h),fun p i q h=>by simp at h⟩
 | i::r,seen,h=>by
  simp only [NJ,Bool.and_eq_true,decide_eq_true_eq,List.all_eq_true,Bool.not_eq_true',List.contains_eq_mem,decide_eq_false_iff_not] at h
  obtain ⟨⟨⟨h1,h2⟩,h3⟩,h4⟩:=h
  obtain ⟨a1,a2,a3,a4⟩:=JU r (i::seen) h4
  refine ⟨fun j hj=>?_,List.nodup_cons.2 ⟨fun hh=>a3 i hh (by simp),a2⟩,fun j hj=>?_,fun p k q heq e he=>?_⟩
  ·rcases List.mem_cons.1 hj with rfl|hj
   ·exact h1
   ·exact a1 j hj
  ·rcases List.mem_cons.1 hj with rfl|hj
   ·exact h2
   ·exact fun hh=>a3 j hj (by simp [hh])
  ·cases p with
   | nil=>simp at heq;obtain ⟨rfl,rfl⟩:=heq;exact .inl (h3 e he)
   | cons x p=>
    simp at heq
    obtain ⟨rfl,rfl⟩:=heq
    rcases a4 p k q rfl e he with h5|h5
    ·rcases List.mem_cons.1 h5 with rfl|h5
     ·exact .inr (by simp)
     ·exact .inl h5
    ·exact .inr (by simp [h5])
theorem Kr:∀{π:List Nat} {c:Nat} {oc:ak},Vl aops π=some (c,oc)→c∈π∧aops[c]?=some oc∧oc.callS.isSome=true
 | [],c,oc,h=>by cases h
 | i::r,c,oc,h=>by
  unfold Vl at h
  split at h
  ·rename_i o ho
   split at h
   ·rename_i hc;cases h;exact ⟨by simp,ho,hc⟩
   ·obtain ⟨h1,h2⟩:=Kr h;exact ⟨by simp [h1],h2⟩
  ·obtain ⟨h1,h2⟩:=Kr h;exact ⟨by simp [h1],h2⟩
theorem Reach.tr {ops:Array Oper} {i j k:Nat} (h:Reach ops i j) (h2:Reach ops j k):Reach ops i k:=by
 induction h with
 | edge he=>exact .trans he h2
 | trans he _ ih=>exact .trans he (ih h2)
theorem EN {c:Nat}:∀(l:List Nat) (ds:List ak),l.Pairwise (fun j i=>Reach ops i j∨DV aops j i)→
  (∀d∈ds,∃j,aops[j]?=some d∧(j=c∨Reach ops j c)∧∀i∈l,Reach ops i j∨DV aops j i)→(∀i∈l,∃o,aops[i]?=some o)→
  (vz aops c ds l).Sublist l∧∀i∈l,i∈vz aops c ds l∨i=c∨Reach ops i c
 | [],ds,_,_,_=>⟨.slnil,fun i h=>by cases h⟩
 | i::r,ds,hp,hs,ha=>by
  obtain ⟨hp1,hp2⟩:=List.pairwise_cons.1 hp
  obtain ⟨o,ho⟩:=ha i (by simp)
  have hs':∀d∈ds,∃j,aops[j]?=some d∧(j=c∨Reach ops j c)∧∀i∈r,Reach ops i j∨DV aops j i:=fun d hd=>by
   obtain ⟨j,q1,q2,q3⟩:=hs d hd
   exact ⟨j,q1,q2,fun k hk=>q3 k (by simp [hk])⟩
  have hskip:(i=c∨Reach ops i c)→(vz aops c (o::ds) r).Sublist (i::r)∧∀k∈i::r,k∈vz aops c (o::ds) r∨k=c∨Reach ops k c:=fun hic=>by
   obtain ⟨h1,h2⟩:=EN r (o::ds) hp2 (fun d hd=>by
    rcases List.mem_cons.1 hd with rfl|hd
    ·exact ⟨i,ho,hic,hp1⟩
    ·exact hs' d hd) (fun j hj=>ha j (by simp [hj]))
   refine ⟨h1.cons _,fun j hj=>?_⟩
   rcases List.mem_cons.1 hj with rfl|hj
   ·exact .inr hic
   ·exact h2 j hj
  unfold vz
  rw [ho]
  simp only []
  split
  ·rename_i hic;exact hskip (.inl hic)
  ·split
   ·rename_i hany
    obtain ⟨d,hd,hda⟩:=List.any_eq_true.1 hany
    obtain ⟨j,q1,q2,q3⟩:=hs d hd
    refine hskip (.inr ?_)
    have hij:Reach ops i j:=by
     rcases q3 i (by simp) with h|⟨o1,o2,z1,z2,z3⟩
     ·exact h
     ·rw [q1] at z1;cases z1
      rw [ho] at z2;cases z2
      rw [z3] at hda;cases hda
    rcases q2 with rfl|q2
    ·exact hij
    ·exact hij.tr q2
   ·obtain ⟨h1,h2⟩:=EN r ds hp2 hs' (fun j hj=>ha j (by simp [hj]))
    refine ⟨h1.cons_cons _,fun j hj=>?_⟩
    rcases List.mem_cons.1 hj with rfl|hj
    ·exact .inl (by simp)
    ·rcases h2 j hj with h|h
     ·exact .inl (by simp [h])
     ·exact .inr h
theorem Ud {c:Nat} {oc:ak} (hoc:aops[c]?=some oc) (l:List Nat) (hp:l.Pairwise (fun j i=>Reach ops i j∨DV aops j i)) (ha:∀i∈l,∃o,aops[i]?=some o):
  (HY aops c oc false l).Sublist l∧∀i∈l,i∈HY aops c oc false l∨i=c∨Reach ops i c:=
 EN l [] hp (fun d hd=>by cases hd) ha
theorem UN {R:Nat→Nat→Prop} {c:Nat}:∀(π:List Nat),π.Pairwise R→c∈π→∀j∈π.takeWhile (fun x=>x != c),R j c
 | [],_,hc,_,_=>by cases hc
 | i::r,hp,hc,j,hj=>by
  obtain ⟨hp1,hp2⟩:=List.pairwise_cons.1 hp
  by_cases hic:i=c
  ·subst hic;simp at hj
  ·rw [List.takeWhile_cons_of_pos (by simpa using hic)] at hj
   have hcr:c∈r:=by
    rcases List.mem_cons.1 hc with h|h
    ·exact absurd h.symm hic
    ·exact h
   rcases List.mem_cons.1 hj with rfl|hj
   ·exact hp1 c hcr
   ·exact UN r hp2 hcr j hj
theorem Vg {op:AOp} (h:op.pre=true):op.quiet.isSome=true:=by
 cases op<;>first|rfl|exact nP h
theorem TJ {o p:ak} (h:apart o p=true) (hcs:p.callS.isSome=true):yR o p=true∨Aw o p=true:=by
 obtain ⟨q,hq⟩:=Option.isSome_iff_exists.1 hcs
 obtain ⟨f,as,kk,rfl,_⟩:=DL (d:=q.1) (l:=q.2) hq
 simp only [apart,Bool.or_eq_true] at h
 rcases h with (((((((((((h|h)|h)|h)|h)|h)|h)|h)|h)|h)|h)|h)|h
 ·simp [PL,AOp.quiet] at h
 ·simp [PD] at h
 ·simp [Pz,AOp.quiet] at h
 ·simp [PI,AOp.free] at h
 ·exact absurd h Bool.false_ne_true
 ·simp [PE] at h
 ·simp [PG] at h
 ·exact absurd h Bool.false_ne_true
 ·exact .inl h
 ·simp [PK,AOp.free] at h
 ·exact .inr h
 ·simp [Py] at h
 ·exact absurd h Bool.false_ne_true
theorem QS {oc:ak} (hcs:oc.callS.isSome=true) (he:EqE env env2) {s1:St} {v:AV} (h:bD glob call cx oc env2 s=.pan v s1):bD glob call cx oc env s=.pan v s1:=by
 obtain ⟨q,hq⟩:=Option.isSome_iff_exists.1 hcs
 obtain ⟨f,as,kk,rfl,_⟩:=DL (d:=q.1) (l:=q.2) hq
 obtain ⟨hn,fv,vs,hf,hv,hcase⟩:=FN h (by simp)
 rcases hcase with ⟨_,_,⟨_,_⟩,hout⟩|⟨v',t,hc,hout⟩
 ·cases hout
 ·cases hout
  rw [FO (by rw [he];exact hn) (by rw [I5 (env2:=env) (env:=env2) (fun j _=>he j)];exact hf) (by rw [I7 (env2:=env) (env:=env2) (fun j _=>he j)];exact hv),hc]
theorem Sr {oc:ak} (hcs:oc.callS.isSome=true) {v:AV} {env1:Env} {s1:St}:∀(pl:List Nat),(∀j∈pl,∃oj,aops[j]?=some oj∧oj.op.pre=true∧(yR oj oc=true∨Aw oj oc=true))→∀{env:Env} {s:St},Runs glob call cx aops pl env s env1 s1→bD glob call cx oc env1 s1=.pan v s'→
  bD glob call cx oc env s=.pan v s'
 | [],_,env,s,hr,h=>by
  obtain ⟨he,rfl⟩:=hr
  exact QS hcs he h
 | j::r,hf,env,s,hr,h=>by
  obtain ⟨o,e0,e1,s2,ho,he,hr1,hrest⟩:=hr
  have h2:=Sr hcs r (fun k hk=>hf k (by simp [hk])) hrest h
  obtain ⟨oj,q1,q2,q3⟩:=hf j (by simp)
  rw [ho] at q1;cases q1
  obtain ⟨rfl,h3⟩:=Vk q3 hr1 h2
  exact QS hcs he h3
theorem XB {F:Fence} {n b0:Nat} {N:Wd} {ls:List Nat} {Q:Exit→Act→World→Prop} (hcall:l7 qt P glob call) (hext:dO call) (hF:isF F)
  (hops:∀(i:Nat) (o:Oper),ops[i]?=some o→∃ao,aops[i]?=some ao∧sK P N ops o ao=true) {c:Nat} {oc:ak} {v:AV} {env1:Env} {s1:St} (hoc:aops[c]?=some oc) (hcs:oc.callS.isSome=true) (hpan:bD glob call cx oc env1 s1=.pan v s'):
  ∀(fuel:Nat) (listed:Array Bool) (l pl:List Nat) {env:Env} {g:af} {s:St} {w:World} {a:Act},l.length=fuel→Inv ops aops listed l→c∈l→pl.Sublist l→(∀i∈l,i∈pl∨i=c∨Reach ops i c)→(∀j∈pl,∃oj,aops[j]?=some oj∧oj.op.pre=true∧((yR oj oc=true∨Aw oj oc=true)∨Reach ops c j))→
    Runs glob call cx aops pl env s env1 s1→bQ cx s→Fr P glob g s B w a env N b0 ls→
    (∀u g' w' a',Step qt g s.length B w g' s'.length w'→Fr P glob g' s' B w' a' [] N b0 ls→Rep g' s'.length u v→Q (.panic [{ v:=u,recovered:=false }]) a' w')→wpAnyIn F n P .any ops Q fuel listed a w:=by
 intro fuel
 induction fuel with
 | zero=>
  intro listed l pl env g s w a hlen hinv hcl hsub hcov hfree hrun hcx hfr hQ
  have hnil:l=[]:=List.eq_nil_of_length_eq_zero hlen
  subst hnil
  cases hcl
 | succ fuel ih=>
  intro listed l pl env g s w a hlen hinv hcl hsub hcov hfree hrun hcx hfr hQ
  refine ⟨fun h0=>?_,fun i hi=>?_⟩
  ·cases l with
   | nil=>cases hlen
   | cons j t=>have:=hinv.head_ready;rw [h0] at this;cases this
  ·have hmem:=hinv.ready_mem hi
   obtain ⟨_,o,ho,_⟩:=mem_ready.1 hi
   obtain ⟨ao,hao,hchk⟩:=hops i o ho
   by_cases hic:i=c
   ·subst hic
    rw [hoc] at hao;cases hao
    exact WR hcall hext hF hcx hfr ho hchk (Sr hcs pl (fun j hj=>by
     obtain ⟨oj,q1,q2,q3⟩:=hfree j hj
     exact ⟨oj,q1,q2,q3.elim id (fun h=>absurd h (hinv.not_reach hi (hsub.subset hj)))⟩) hrun hpan) hQ
   ·rcases hcov i hmem with hip|hip|hip
    ·obtain ⟨p,q,rfl⟩:=List.append_of_mem hip
     obtain ⟨p0,q0,rfl⟩:=List.append_of_mem hmem
     obtain ⟨oi,q1,q2,q3⟩:=hfree i (by simp)
     rw [hao] at q1;cases q1
     have hqq:ao.op.quiet.isSome=true:=Vg q2
     have hnd:=hinv.nd
     have hni0:i ∉ p0:=by
      rw [List.nodup_append] at hnd
      exact fun h=>hnd.2.2 i h i (by simp) rfl
     have hni:i ∉ p:=by
      have h1:=hsub.nodup hnd
      rw [List.nodup_append] at h1
      exact fun h=>h1.2.2 i h i (by simp) rfl
     have hsub':(p++q).Sublist (p0++q0):=by
      have:=hsub.erase i
      rwa [List.erase_append_right _ hni,List.erase_append_right _ hni0,List.erase_cons_head,List.erase_cons_head] at this
     have hpair:∀j∈p,DV aops j i:=by
      intro j hj
      have:=(List.pairwise_append.1 (hinv.pairs.sublist hsub)).2.2 j hj i (by simp)
      rcases this with h1|h1
      ·exact absurd h1 (hinv.not_reach hi (hsub.subset (by simp [hj])))
      ·exact h1
     obtain ⟨env2,s2,hr1,hrest⟩:=bubble hao (.inl hqq) p hpair hrun
     have hs:=A7 hqq hr1
     subst hs
     rw [aV hqq] at hr1
     refine LJ hcall hext hF hfr ho hchk hr1 (fun g1 w1 a1 st1 hf1=>ih _ (p0++q0) (p++q) (by simp at hlen ⊢;omega) (hinv.remove hi) ?_ hsub' (fun j hj=>?_) (fun j hj=>hfree j (by rcases List.mem_append.1 hj with h|h<;>simp [h])) hrest hcx hf1 (fun u g2 w2 a2 st2 hf2 hr2=>hQ u g2 w2 a2 (st1.trans st2) hf2 hr2))
     ·rcases List.mem_append.1 hcl with h|h
      ·exact List.mem_append_left _ h
      ·rcases List.mem_cons.1 h with h|h
       ·exact absurd h.symm hic
       ·exact List.mem_append_right _ h
     ·have hji:j≠i:=fun h=>by
       subst h
       rcases List.mem_append.1 hj with h|h
       ·exact hni0 h
       ·rw [List.nodup_append] at hnd
        exact (List.nodup_cons.1 hnd.2.1).1 h
      rcases hcov j (by rcases List.mem_append.1 hj with h|h<;>simp [h]) with h|h
      ·rcases List.mem_append.1 h with h|h
       ·exact .inl (by simp [h])
       ·rcases List.mem_cons.1 h with h|h
        ·exact absurd h hji
        ·exact .inl (by simp [h])
      ·exact .inr h
    ·exact absurd hip hic
    ·exact absurd hip (hinv.not_reach hi hcl)
theorem Tt {π:List Nat} (hdr:JW ops aops π=true):π.length=ops.size∧Inv ops aops (Array.replicate ops.size false) π:=by
 simp only [JW,Bool.and_eq_true,beq_iff_eq,List.all_eq_true,List.mem_range,List.contains_eq_mem,decide_eq_true_eq] at hdr
 obtain ⟨⟨⟨hlen,hall⟩,htopo⟩,hpairs⟩:=hdr
 obtain ⟨t1,t2,_,t4⟩:=JU π [] htopo
 have hpw:=Hg (ops:=ops) (OL π [] (fun e j h=>by simp [Ii] at h)) π hpairs
 refine ⟨hlen,by simp,fun j hj=>?_,t1,t2,hpw,fun i hi=>?_,fun p i q heq e he=>?_⟩
 ·simp [Array.getD_eq_getD_getElem?,hj];exact hall j hj
 ·exfalso
  rw [Array.getD_eq_getD_getElem?] at hi
  by_cases hlt:i<ops.size<;>simp [hlt] at hi
 ·rcases t4 p i q heq e he with h|h
  ·cases h
  ·exact .inr h
theorem Ya (hM:P.follows .mixedOrders=true) (hcall:l7 qt P glob call) (hext:dO call):FZ qt P glob call:=by
 have start:∀{g:af} {s:St} {B:Nat} {w:World} {a:Act} {env:Env} {b0:Nat} {N:Wd} {ls ts:List Nat},Fr P glob g s B w a env N b0 ls→
   ∃g1,Step qt g s.length B w g1 s.length { w with drawn:=w.drawn+1 }∧Fr P glob g1 s B { w with drawn:=w.drawn+1 } a (AX env ts) N b0 ls:=by
  intro g s B w a env b0 N ls ts hfr
  have hfr0:Fr P glob g s B { w with drawn:=w.drawn+1 } a env N b0 ls:=by
   refine hfr.next ⟨hfr.sim.base.grew (qt:=False) ⟨Nat.le_refl _,fun _ _=>rfl,rfl,rfl,fun h=>h.elim⟩,hfr.sim.env.next (.refl _ _) (fun k e hk ho b hb=>⟨rfl,rfl,rfl,fun ht=>ht⟩),hfr.sim.B⟩ rfl rfl (.refl _ _) (fun _ h=>h) (fun _ _=>rfl)
  have hst0:Step qt g s.length B w g s.length { w with drawn:=w.drawn+1 }:=⟨.refl _ _,Nat.le_refl _,fun _ _ _=>rfl,fun _ _ _=>rfl,fun _ _=>rfl,fun b hb=>.inl hb,rfl,rfl,fun _=>⟨rfl,Nat.le_succ _⟩⟩
  obtain ⟨g1,st1,hf1⟩:=Ht ts hfr0
  exact ⟨g1,hst0.trans st1,hf1⟩
 constructor
 ·intro F n id B b0 N ls ops aops π ts Q cx g s s' w a env env' hF hops hdr hcx hfr hrun hQ
  obtain ⟨hlen,hinv⟩:=Tt hdr
  refine wpIn_region_any hM ?_
  obtain ⟨g1,st1,hf1⟩:=start (ts:=ts) hfr
  simp only [kP] at hrun
  replace hrun:dX glob call cx aops π (AX env ts) s=.norm env' s':=by
   cases hd:dX glob call cx aops π (AX env ts) s with
   | pan v s1=>
    rw [hd] at hrun
    obtain ⟨_,_,_,_,_,_,_,_,_,_,h3⟩:=zA (show yj glob call cx aops π (AX env ts) s=.norm env' s' from hrun) (by simp)
    cases h3
   | _=>rw [hd] at hrun;exact hrun
  exact Yb hcall hext hF (fun i o ho=>DK _ _ hops i o (by simpa using ho)) ops.size _ π hlen hinv (Q7 π hrun) hcx hf1 (fun g2 w2 a2 st2 hf2=>hQ g2 w2 a2 (st1.trans st2) hf2)
 ·intro F n id B b0 N ls ops aops π ts Q cx g s s' w a env v hF hops hdr hcx hfr hrun hQ
  obtain ⟨hlen,hinv⟩:=Tt hdr
  refine wpIn_region_any hM ?_
  obtain ⟨g1,st1,hf1⟩:=start (ts:=ts) hfr
  simp only [kP] at hrun
  replace hrun:yj glob call cx aops π (AX env ts) s=.pan v s':=by
   cases hd:dX glob call cx aops π (AX env ts) s with
   | pan v s1=>rw [hd] at hrun;exact hrun
   | _=>rw [hd] at hrun;cases hrun
  obtain ⟨c,oc,env1,s1,v',s2,hpc,hall,hr1,hr2,h3⟩:=zA hrun (by simp)
  cases h3
  obtain ⟨hcm,hoc,hcs⟩:=Kr hpc
  have hops':∀(i:Nat) (o:Oper),ops[i]?=some o→∃ao,aops[i]?=some ao∧sK P N ops o ao=true:=fun i o ho=>DK _ _ hops i o (by simpa using ho)
  obtain ⟨hsub,hcov⟩:=Ud (ops:=ops) hoc π hinv.pairs (fun i hi=>by
   have hlt:=hinv.lt i hi
   obtain ⟨ao,h1,_⟩:=hops' i (ops[i]'hlt) (by simp [hlt])
   exact ⟨ao,h1⟩)
  refine XB hcall hext hF hops' hoc hcs hr2 ops.size _ π _ hlen hinv hcm hsub hcov (fun j hj=>?_) (Q7 _ hr1) hcx hf1 (fun u g2 w2 a2 st2 hf2 hr3=>hQ u g2 w2 a2 (st1.trans st2) hf2 hr3)
  have:=List.all_eq_true.1 hall j hj
  split at this
  ·rename_i oj hoj
   simp only [Bool.and_eq_true,Bool.or_eq_true,List.contains_eq_mem,decide_eq_true_eq] at this
   refine ⟨oj,hoj,this.1, ?_⟩
   rcases this.2 with (h|h)|h
   ·exact .inl (.inl h)
   ·exact .inl (.inr h)
   ·rcases UN π hinv.pairs hcm j h with h|⟨o1,o2,q1,q2,q3⟩
    ·exact .inr h
    ·rw [hoj] at q1;cases q1
     rw [hoc] at q2;cases q2
     exact .inl (TJ q3 hcs)
  ·cases this
end Go.Ai
