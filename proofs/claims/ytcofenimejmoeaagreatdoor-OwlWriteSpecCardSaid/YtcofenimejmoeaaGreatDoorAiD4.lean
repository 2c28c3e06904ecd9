/-
 Open regions: operations change places.
-/
import Derived.Test.YtcofenimejmoeaaGreatDoorAiD2
import Derived.Test.YtcofenimejmoeaaGreatDoorAiA8
set_option maxRecDepth 100000
set_option linter.unusedSimpArgs false
set_option linter.unusedVariables false
set_option linter.unusedSectionVars false
namespace Go.Ai
variable {qt:Prop} {P:Program} {glob:Nat→Option (List AV)} {g:ah} {s:St} {B:Nat} {w:World} {env env2:Env} {a:Act} {call:AV→List AV→St→Ctx→CO} {cx:Ctx} {env':Env} {s':St} {ops:Array Oper} {aops:List aC}
theorem bV {o:aC} (h:o.op.quiet.isSome=true):fE glob call cx o env s=yM glob call o env s:=by
 unfold fE;rw [if_pos h]
theorem dV {o:aC} (h:o.op.quiet.isSome=false):fE glob call cx o env s=dJ glob call cx o env s:=by
 unfold fE;rw [if_neg (by rw [h];simp)]
theorem J9 {d:Nat} {e:EV} (h:jR env d=false):put env d e=(d,e)::env:=by
 unfold put
 unfold jR at h
 split
 ·rename_i o ho;rw [ho] at h;simp [h]
 ·rfl
def Runs (glob:Nat→Option (List AV)) (call:AV→List AV→St→Ctx→CO) (cx:Ctx) (aops:List aC):List Nat→Env→St→Env→St→Prop
 | [],env,s,env',s'=>EqE env env'∧s'=s
 | i::r,env,s,env',s'=>∃o vS env1 s1,aops[i]?=some o∧EqE env vS∧fE glob call cx o vS s=.norm env1 s1∧Runs glob call cx aops r env1 s1 env' s'
theorem EqE.trans {env3:Env} (h:EqE env env2) (h':EqE env2 env3):EqE env env3:=fun k=>(h k).trans (h' k)
theorem EqE.symm (h:EqE env env2):EqE env2 env:=fun k=>(h k).symm
theorem EqE.refl (env:Env):EqE env env:=fun _=>rfl
theorem Runs.eqE {l:List Nat} (h:Runs glob call cx aops l env s env' s') (he:EqE env2 env):Runs glob call cx aops l env2 s env' s':=by
 cases l with
 | nil=>exact ⟨he.trans h.1,h.2⟩
 | cons i r=>obtain ⟨o,e0,e1,s1,h1,h2,h3,h4⟩:=h;exact ⟨o,e0,e1,s1,h1,he.trans h2,h3,h4⟩
theorem TY:∀(l:List Nat) {env:Env} {s:St},gY glob call cx aops l env s=.norm env' s'→Runs glob call cx aops l env s env' s'
 | [],env,s,h=>by simp only [gY,Out.norm.injEq] at h;exact ⟨by rw [h.1];exact .refl _,h.2.symm⟩
 | i::r,env,s,h=>by
  simp only [gY] at h
  split at h
  ·cases h
  ·rename_i o ho
   split at h
   ·rename_i env1 s1 hr;exact ⟨o,env,env1,s1,ho,.refl _,hr,TY r h⟩
   ·rename_i hne;exact absurd h (hne _ _)
theorem zx {d:Nat} {e:EV} {k:Nat} (hk:k≠d):lk (put env d e) k=(if jR env d=true then (lk env k).map (fun x=>if x.refers d then .v .u else x) else lk env k):=by
 by_cases ho:jR env d=true
 ·rw [if_pos ho]
  unfold jR at ho
  unfold put
  split
  ·rename_i o hlo
   rw [hlo] at ho
   simp only [] at ho
   rw [if_pos ho,aT _ _ (Ne.symm hk),o8]
  ·rename_i hlo;rw [hlo] at ho;cases ho
 ·rw [if_neg ho,J9 (by simpa using ho),aT _ _ (Ne.symm hk)]
theorem ab9 {X X':Env} {d dj:Nat} {e:EV} {v:AV} (hd:d≠dj) (hx:∀j,j≠d→lk X j=lk X' j) (hv:lk X d=some (.v v)):EqE (put X dj e) ((d,.v v)::put X' dj e):=by
 intro k
 have hown:jR X dj=jR X' dj:=by unfold jR;rw [hx dj (Ne.symm hd)]
 by_cases hk:k=d
 ·subst hk
  rw [dB,zx hd]
  split
  ·rw [hv];rfl
  ·exact hv
 ·rw [aT _ _ (Ne.symm hk)]
  by_cases hkj:k=dj
  ·subst hkj;rw [lU,lU]
  ·rw [zx hkj,zx hkj,hown,hx k hk]
theorem aah {d k:Nat} {e:EV} (h:lk (put env d e) k=none):k≠d∧lk env k=none:=by
 have hk:k≠d:=fun hk=>by subst hk;rw [lU] at h;cases h
 rw [zx hk] at h
 split at h
 ·exact ⟨hk,by simpa using h⟩
 ·exact ⟨hk,h⟩
theorem X3 {d k:Nat} {e:EV} (he:e.owns=true) {x:AV} (hx:x≠.u) (h:lk (put env d e) k=some (.v x)):lk env k=some (.v x):=by
 have hk:k≠d:=fun hk=>by subst hk;rw [lU] at h;cases h;cases he
 rw [zx hk] at h
 split at h
 ·cases hl:lk env k with
  | none=>rw [hl] at h;cases h
  | some y=>
   rw [hl] at h
   simp only [Option.map_some,Option.some.injEq] at h
   split at h
   ·cases h;exact absurd rfl hx
   ·rw [h]
 ·exact h
theorem Zo {k j:Nat} (h:lk ((k,EV.v .u)::kT env k) j=none):j≠k∧lk env j=none:=by
 have hk:j≠k:=fun hk=>by subst hk;rw [dB] at h;cases h
 rw [aT _ _ (Ne.symm hk),o8] at h
 exact ⟨hk,by simpa using h⟩
theorem adK {k j:Nat} {x:AV} (hx:x≠.u) (h:lk ((k,EV.v .u)::kT env k) j=some (.v x)):lk env j=some (.v x):=by
 have hk:j≠k:=fun hk=>by subst hk;rw [dB] at h;cases h;exact absurd rfl hx
 rw [aT _ _ (Ne.symm hk),o8] at h
 cases hl:lk env j with
 | none=>rw [hl] at h;cases h
 | some y=>
  rw [hl] at h
  simp only [Option.map_some,Option.some.injEq] at h
  split at h
  ·cases h;exact absurd rfl hx
  ·rw [h]
theorem acI {op:AOp} (ho:op.isApp=true) {e:EV} {env1:Env} {s1:St} (h:aop glob call cx env s op=.ok e env1 s1):s1=s∧e.owns=true∧(env1=env∨∃k x,lk env k=some x∧env1=(k,.v .u)::kT env k):=by
 cases op<;>first | (cases ho;done)|skip
 ·simp only [aop] at h
  split at h
  ·split at h
   ·rename_i _ _ _ _ _ _ hl
    split at h
    ·cases h;exact ⟨rfl,rfl,.inr ⟨_,_,hl,rfl⟩⟩
    ·cases h
   ·cases h
  ·split at h
   ·split at h
    ·cases h;exact ⟨rfl,rfl,.inl rfl⟩
    ·cases h
   ·cases h
  ·cases h
 ·simp only [aop] at h
  split at h
  ·split at h
   ·rename_i _ _ _ _ _ _ hl
    split at h
    ·cases h;exact ⟨rfl,rfl,.inr ⟨_,_,hl,rfl⟩⟩
    ·cases h
   ·cases h
  ·cases h
section
variable {d:Nat} {v:AV} (hd:lk env d=none)
include hd
theorem Py {k:Nat} {x:EV} (h:lk env k=some x):lk ((d,.v v)::env) k=some x:=by
 have:d≠k:=fun hk=>by subst hk;rw [hd] at h;cases h
 rw [aT _ _ this];exact h
theorem aaD {x:IX} {y:EV} (h:ev glob env x=some y):ev glob ((d,.v v)::env) x=some y:=by
 cases x with
 | t k=>exact Py hd h
 | c a=>exact h
 | g k=>exact h
theorem aaC {x:IX} {y:AV} (h:rd glob env x=some y):rd glob ((d,.v v)::env) x=some y:=by
 unfold rd at h ⊢
 cases he:ev glob env x with
 | none=>rw [he] at h;cases h
 | some z=>rw [aaD hd he];rw [he] at h;exact h
theorem YU {x:IX} {y:List AV} (h:elems glob env x=some y):elems glob ((d,.v v)::env) x=some y:=by
 unfold elems at h ⊢
 cases he:ev glob env x with
 | none=>rw [he] at h;cases h
 | some z=>
  rw [aaD hd he]
  rw [he] at h
  cases z with
  | al j=>
   simp only [] at h ⊢
   cases hj:lk env j with
   | none=>rw [hj] at h;cases h
   | some o=>rw [Py hd hj];rw [hj] at h;exact h
  | v a=>cases a<;>exact h
  | _=>exact h
theorem Uu {x:IX} (hx:ev glob env x≠none):iK ((d,.v v)::env) x=iK env x:=by
 cases x with
 | t k=>
  cases hk:lk env k with
  | none=>exact absurd hk hx
  | some o=>simp only [iK,Py hd hk,hk]
 | c a=>rfl
 | g k=>rfl
theorem Ye {op:AOp} (ho:op.isApp=true) {e:EV} {env1:Env} (h:aop glob call cx env s op=.ok e env1 s):
  ∃env2,aop glob call cx ((d,.v v)::env) s op=.ok e env2 s∧lk env2 d=some (.v v)∧∀j,j≠d→lk env2 j=lk env1 j:=by
 have key:∀k,(∃x,lk env k=some x)→lk ((k,EV.v .u)::(d,.v v)::kT env k) d=some (.v v)∧∀j,j≠d→lk ((k,EV.v .u)::(d,.v v)::kT env k) j=lk ((k,.v .u)::kT env k) j:=by
  intro k ⟨x,hk⟩
  have hne:k≠d:=fun hk'=>by subst hk';rw [hd] at hk;cases hk
  refine ⟨by rw [aT _ _ hne,dB],fun j hj=>?_⟩
  by_cases hkj:k=j
  ·subst hkj;rw [dB,dB]
  ·rw [aT _ _ hkj,aT _ _ (Ne.symm hj),aT _ _ hkj]
 cases op<;>first | (cases ho;done)|skip
 ·rename_i t sz x y
  simp only [aop] at h ⊢
  cases hy:elems glob env y with
  | none=>rw [hy] at h;simp at h
  | some ys=>
   rw [hy] at h
   rw [YU hd hy]
   have hx:ev glob env x≠none:=by
    intro hn
    cases x with
    | t k=>
     have hk:lk env k=none:=hn
     simp [iK,hk,rd,ev] at h
    | c a=>cases hn
    | g k=>simp [iK,rd,hn] at h
   have hyn:ev glob env y≠none:=by intro hn;unfold elems at hy;rw [hn] at hy;cases hy
   rw [Uu hd hx,Uu hd hyn]
   cases hk:iK env x with
   | none=>
    rw [hk] at h
    simp only [] at h ⊢
    cases hr:rd glob env x with
    | none=>rw [hr] at h;cases h
    | some z=>
     rw [hr] at h
     rw [aaC hd hr]
     split at h
     ·split at h
      ·rename_i hz hc
       cases h
       cases hz
       exact ⟨_,by rw [if_pos hc],dB _ _ _,fun j hj=>aT _ _ (Ne.symm hj)⟩
      ·cases h
     ·cases h
   | some k=>
    rw [hk] at h
    simp only [] at h ⊢
    cases hl:lk env k with
    | none=>rw [hl] at h;cases h
    | some o=>
     rw [hl] at h
     rw [Py hd hl]
     cases o<;>simp only [] at h ⊢<;>first | (cases h;done)|skip
     split at h
     ·rename_i hc
      cases h
      rw [if_pos hc]
      exact ⟨_,rfl,key k ⟨_,hl⟩⟩
     ·cases h
 ·rename_i t x y
  simp only [aop] at h ⊢
  cases hy:rd glob env y with
  | none=>rw [hy] at h;simp at h
  | some ys=>
   rw [hy] at h
   rw [aaC hd hy]
   cases hk:iK env x with
   | none=>rw [hk] at h;cases ys<;>cases h
   | some k=>
    have hx:ev glob env x≠none:=by
     intro hn
     cases x with
     | t k'=>have hk':lk env k'=none:=hn;simp [iK,hk'] at hk
     | c a=>cases hn
     | g k'=>simp [iK] at hk
    rw [Uu hd hx]
    rw [hk] at h ⊢
    cases ys<;>simp only [] at h ⊢<;>first | (cases h;done)|skip
    cases hl:lk env k with
    | none=>rw [hl] at h;cases h
    | some o=>
     rw [hl] at h
     rw [Py hd hl]
     cases o<;>simp only [] at h ⊢<;>first | (cases h;done)|skip
     split at h
     ·rename_i hc
      cases h
      rw [if_pos hc]
      exact ⟨_,rfl,key k ⟨_,hl⟩⟩
     ·cases h
end
theorem MX {o p:aC} (h:Qw o p=true):o.op.isApp=true∧o.guard=none∧∃d n x,p=⟨some d,none,.loadp d n x⟩:=by
 simp only [Qw,Bool.and_eq_true,Option.isNone_iff_eq_none] at h
 obtain ⟨⟨⟨h1,h2⟩,h3⟩,h4⟩:=h
 refine ⟨h1,h2, ?_⟩
 obtain ⟨dst,gd,op⟩:=p
 simp only [] at h3 h4
 subst h3
 cases op<;>first | (cases dst<;>cases h4;done)|skip
 cases dst with
 | none=>cases h4
 | some d'=>
  simp at h4
  subst h4
  exact ⟨_,_,_,rfl⟩
theorem Qq {op:AOp} (h:op.isApp=true):op.quiet.isSome=false:=by cases op<;>first|rfl | (cases h;done)
theorem SX {d:Nat} {n:Option Nat} {x:IX} {env1:Env} {s1:St}:yM glob call ⟨some d,none,.loadp d n x⟩ env s=.norm env1 s1 ↔
  s1=s∧lk env d=none∧∃v0 v,ev glob env x=some (.v v0)∧fZ glob env s n x=some v∧env1=(d,.v v)::env:=by
 rw [fG]
 constructor
 ·rintro ⟨h1,e,hq,hd,rfl⟩
  refine ⟨h1, ?_⟩
  unfold qL at hq
  simp only [bY] at hq
  split at hq
  ·split at hq
   ·rename_i e1 env2 s2 ha
    simp only [aop] at ha
    split at ha
    ·rename_i h2 h3
     obtain ⟨r,hr,he,_,_⟩:=vk ha
     split at hq
     ·cases hq;subst he;exact ⟨h2,_,r,h3,hr,rfl⟩
     ·cases hq
    ·cases ha
   ·cases hq
  ·cases hq
 ·rintro ⟨rfl,hd,v0,v,hv,hl,rfl⟩
  refine ⟨rfl,.v v, ?_,fun d' hd'=>?_,rfl⟩
  ·have hok:okQ glob env (.loadp d n x)=true:=by
    have:ev glob env (.t d)=none:=hd
    simp [okQ,AOp.quiet,oZ,hv,this]
   unfold qL
   simp only [bY,hok,if_true,aop,hd,hv,hl,okv]
   simp [EV.owns]
  ·cases hd';exact ⟨rfl,by unfold jR;rw [hd]⟩
theorem ab7 {n:Option Nat} {x:IX} {v0:AV} (h:ev glob env x=some (.v v0)) (h':ev glob env2 x=some (.v v0)):fZ glob env s n x=fZ glob env2 s n x:=by
 unfold fZ;rw [h,h']
 cases v0<;>rfl
theorem afy {o p:aC} (hap:Qw o p=true) {env1 env2:Env} {s1 s2:St} (h1:fE glob call cx o env s=.norm env1 s1) (h2:fE glob call cx p env1 s1=.norm env2 s2):
  s1=s∧s2=s∧∃f1 f2,fE glob call cx p env s=.norm f1 s∧fE glob call cx o f1 s=.norm f2 s∧EqE f2 env2:=by
 obtain ⟨ho,hg,d,n,x,rfl⟩:=MX hap
 rw [dV (Qq ho)] at h1
 have hpq:(AOp.loadp d n x).quiet.isSome=true:=rfl
 rw [bV hpq] at h2
 obtain ⟨hs2,hdn,v0,v,hv,hl,rfl⟩:=SX.1 h2
 obtain ⟨dst,gd,op⟩:=o
 simp only [] at ho hg
 subst hg
 simp only [dJ,bY] at h1
 cases ha:aop glob call cx env s op with
 | fail=>rw [ha] at h1;cases h1
 | pan v s=>rw [ha] at h1;cases h1
 | ok e enva sa=>
  rw [ha] at h1
  obtain ⟨rfl,hown,hform⟩:=acI ho ha
  simp only [] at h1
  have hv0:v0≠.u:=fun h=>by subst h;unfold fZ at hl;rw [hv] at hl;cases hl
  have hA:(∀k,lk enva k=none→lk env k=none)∧(∀k y,y≠.u→lk enva k=some (.v y)→lk env k=some (.v y)):=by
   rcases hform with rfl|⟨k,y,hk,rfl⟩
   ·exact ⟨fun _ h=>h,fun _ _ _ h=>h⟩
   ·exact ⟨fun j h=>(Zo h).2,fun j z hz h=>adK hz h⟩
  have fin:∀env1,s1=sa→(lk env1 d=none→lk enva d=none)→(∀k y,y≠.u→lk env1 k=some (.v y)→lk enva k=some (.v y))→lk env1 d=none→ev glob env1 x=some (.v v0)→fZ glob env1 s1 n x=some v→
    lk env d=none∧yM glob call ⟨some d,none,.loadp d n x⟩ env sa=.norm ((d,.v v)::env) sa:=by
   intro env1 hs q1 q2 q3 q4 q5
   subst hs
   have hdn':lk env d=none:=hA.1 d (q1 q3)
   have hv':ev glob env x=some (.v v0):=by
    cases x with
    | t k=>exact hA.2 k v0 hv0 (q2 k v0 hv0 q4)
    | c a=>exact q4
    | g k=>exact q4
   exact ⟨hdn',SX.2 ⟨rfl,hdn',v0,v,hv',by rw [←ab7 q4 hv'];exact q5,rfl⟩⟩
  cases dst with
  | none=>
   simp only [Out.norm.injEq] at h1
   obtain ⟨rfl,rfl⟩:=h1
   obtain ⟨hdn',hp⟩:=fin enva rfl (fun h=>h) (fun _ _ _ h=>h) hdn hv hl
   obtain ⟨env3,h3,h4,h5⟩:=Ye (v:=v) hdn' ho ha
   refine ⟨rfl,hs2,_,env3,by rw [bV hpq];exact hp,by rw [dV (Qq ho)];simp [dJ,bY,h3],fun k=>?_⟩
   by_cases hk:k=d
   ·subst hk;rw [h4,dB]
   ·rw [h5 k hk,aT _ _ (Ne.symm hk)]
  | some dj=>
   have hrf:e.refers dj=false:=by cases e<;>first|rfl | (cases hown;done)
   simp only [hrf,Bool.false_eq_true,if_false,Out.norm.injEq] at h1
   obtain ⟨rfl,rfl⟩:=h1
   obtain ⟨hddj,hdn2⟩:=aah hdn
   obtain ⟨hdn',hp⟩:=fin (put enva dj e) rfl (fun _=>hdn2) (fun k y hy h=>X3 hown hy h) hdn hv hl
   obtain ⟨env3,h3,h4,h5⟩:=Ye (v:=v) hdn' ho ha
   refine ⟨rfl,hs2,_,put env3 dj e,by rw [bV hpq];exact hp,by rw [dV (Qq ho)];simp [dJ,bY,h3,hrf],ab9 hddj h5 h4⟩
theorem BI {o:aC} (hq:o.op.quiet.isSome=true) {env1:Env} {s1:St} (h:fE glob call cx o env s=.norm env1 s1):s1=s:=by
 rw [bV hq] at h;exact (fG.1 h).1
theorem YD {o:aC} (hq:o.op.quiet.isSome=true) (he:EqE env env2) {env1:Env} {s1:St} (h:fE glob call cx o env s=.norm env1 s1):∃env3,fE glob call cx o env2 s=.norm env3 s∧EqE env1 env3:=by
 have hs:=BI hq h
 subst hs
 rw [bV hq] at h ⊢
 exact Z9 he h
def Keeps (s1 s:St):Prop:=(∀(l:Nat) cs,s1[l]?=some (gG.cells cs)→s[l]?=some (gG.cells cs))∧(∀(l:Nat) es,s1[l]?=some (gG.map es)→s[l]?=some (gG.map es))∧∀(l:Nat) t sz ver cs,s1[l]?=some (gG.buf t sz ver cs)→s[l]?=some (gG.buf t sz ver cs)
theorem OD {o o':gG} {l:Nat} (hne:o'≠o) (h:(s++[o])[l]?=some o'):s[l]?=some o':=by
 by_cases hl:l<s.length
 ·rwa [List.getElem?_append_left hl] at h
 ·rw [List.getElem?_append_right (by omega)] at h
  cases hx:l - s.length with
  | zero=>rw [hx] at h;simp at h;exact absurd h.symm hne
  | succ k=>rw [hx] at h;simp at h
theorem TW {o o':gG} {l k:Nat} (hl:l<s.length) (hne:o'≠o) (h:(s.set l o)[k]?=some o'):s[k]?=some o':=by
 by_cases hk:l=k
 ·subst hk;rw [List.getElem?_set_self hl] at h;simp at h;exact absurd h.symm hne
 ·rwa [List.getElem?_set_ne hk] at h
theorem Keeps.push {t sz n:Nat}:Keeps (s++[.row t sz n]) s:=
 ⟨fun _ _ h=>OD (by simp) h,fun _ _ h=>OD (by simp) h,fun _ _ _ _ _ h=>OD (by simp) h⟩
theorem Keeps.set {l t sz n:Nat} (hl:l<s.length):Keeps (s.set l (.row t sz n)) s:=
 ⟨fun _ _ h=>TW hl (by simp) h,fun _ _ h=>TW hl (by simp) h,fun _ _ _ _ _ h=>TW hl (by simp) h⟩
theorem L6 {s1:St} (hk:Keeps s1 s) {n:Option Nat} {x:IX} {v:AV} (h:fZ glob env s1 n x=some v):fZ glob env s n x=some v:=by
 unfold fZ at h ⊢
 split at h
 ·exact h
 ·exact h
 ·exact h
 ·exact h
 ·split at h
  ·rename_i cs hl
   rw [hk.1 _ cs hl];exact h
  ·cases h
 ·split at h
  ·rename_i hl
   rw [hk.2.2 _ _ _ _ _ hl];exact h
  ·cases h
 ·cases h
theorem acy {s1:St} (hk:Keeps s1 s) {op:AOp} (hc:op.calm=true) (hq:op.quiet.isSome=true) {cx1 cx2:Ctx} {e:EV} {env1:Env} {s2:St} (hno:okQ glob env op=true) (h:aop glob call cx1 env s1 op=.ok e env1 s2):aop glob call cx2 env s op=.ok e env1 s:=by
 cases op<;>first | (cases hc;done)|skip
 case mov x=>
  simp only [okQ,AOp.quiet,List.all_cons,List.all_nil,Bool.and_true] at hno
  rw [FZ hno] at h ⊢
  cases hm:Eb glob env x with
  | none=>rw [hm] at h;cases h
  | some e1=>rw [hm] at h;cases h;rfl
 case load n x=>
  simp only [aop] at h ⊢
  obtain ⟨r,hr,rfl,rfl,_⟩:=vk h
  rw [L6 hk hr];rfl
 case loadp d n x=>
  simp only [aop] at h ⊢
  split at h
  ·obtain ⟨r,hr,rfl,rfl,_⟩:=vk h
   rw [L6 hk hr];rfl
  ·cases h
 case look kk z ok m k=>
  simp only [aop] at h ⊢
  cases hkv:rd glob env k with
  | none=>rw [hkv] at h;cases h
  | some key=>
   rw [hkv] at h
   simp only [] at h ⊢
   cases hm:rd glob env m with
   | none=>
    rw [hm] at h
    split at h
    ·cases h
    ·simp at h
   | some mv=>
    rw [hm] at h
    have key2:∀r:Option AV,(match mv with | .im es=>find kk key es | .nm=>if um kk key then some none else none | .mp l=>(match s1[l]? with|some (.map es)=>find kk key es | _=>none) | _=>none)=some r→
      (match mv with | .im es=>find kk key es | .nm=>if um kk key then some none else none | .mp l=>(match s[l]? with|some (.map es)=>find kk key es | _=>none) | _=>none)=some r:=by
     intro r hr
     cases mv<;>first|exact hr|skip
     simp only [] at hr ⊢
     split at hr
     ·rename_i es hl;rw [hk.2.1 _ es hl];exact hr
     ·cases hr
    by_cases h3k:3≤kk∧um kk key=false
    ·rw [if_pos h3k] at h;cases h
    rw [if_neg h3k] at h
    rw [if_neg h3k]
    split at h
    ·rename_i r hr
     have:=key2 r (by cases mv<;>exact hr)
     split
     ·rename_i r' hr'
      have e1:r=r':=Option.some.inj (this.symm.trans (by cases mv<;>exact hr'))
      subst e1
      split at h
      ·rename_i hok;cases h;simp [hok]
      ·rename_i hok;cases h;simp [hok]
     ·rename_i hr'
      exfalso
      have h3:=this.symm.trans (by cases mv<;>exact hr')
      cases h3
    ·cases h
 case len k x=>
  match k with
  | 0=>
   simp only [aop] at h ⊢
   split at h
   ·cases h;rfl
   ·split at h
    ·cases h;rfl
    ·cases h
  | 1=>
   simp only [aop] at h ⊢
   split at h
   ·cases h;rfl
   ·cases h
  | 2=>cases hc
  | k+3=>cases hc
 case bsl own t sz len zs ps=>
  cases own with
  | true=>cases hc
  | false=>
   simp only [aop] at h ⊢
   split at h
   ·rename_i vs env1 he
    simp only [Bool.false_eq_true,if_false] at h ⊢
    split at h
    ·rename_i hc2;cases h;rw [if_pos hc2]
    ·cases h
   ·cases h
 all_goals
  simp only [aop,okv] at h ⊢
  ((repeat' split at h)<;>first | (cases h;done) | (cases h;simp [*];done))
theorem MW {o p:aC} (h:Qv o p=true):(∃d t sz x y,o=⟨some d,none,.apprp d t sz x y⟩∧(∀dp,p.dst=some dp→dp ∉ x.slots∧dp ∉ y.slots∧dp≠d)∧abh (fun k=>k=d) p)∧p.op.calm=true∧p.op.quiet.isSome=true:=by
 obtain ⟨od,og,oop⟩:=o
 simp only [Qv,Bool.and_eq_true,Option.isNone_iff_eq_none] at h
 obtain ⟨⟨⟨⟨⟨h1,h2⟩,h3⟩,h4⟩,h5⟩,h6⟩:=h
 refine ⟨?_,h3,h4⟩
 subst h2
 cases oop<;>first | (cases od<;>cases h1;done)|skip
 rename_i d t sz x y
 cases od with
 | none=>cases h1
 | some d'=>
  simp only [Bool.and_eq_true,beq_iff_eq] at h1
  obtain ⟨rfl,h1⟩:=h1
  refine ⟨d,t,sz,x,y,rfl,fun dp hdp=>?_,fun k hk hkd=>?_⟩
  ·rw [hdp] at h1 h6
   simp [oW] at h1 h6
   exact ⟨fun hm=>h1.1 dp hm rfl,fun hm=>h1.2 dp hm rfl,fun h=>h6 h.symm⟩
  ·subst hkd
   simp [oW] at h5
   exact h5 k hk rfl
theorem LK {d t sz:Nat} {x y:IX} {env1:Env} {s1:St} (h:dJ glob call cx ⟨some d,none,.apprp d t sz x y⟩ env s=.norm env1 s1):
  ∃v,lk env d=none∧env1=(d,.v v)::env∧Keeps s1 s∧(∀env2,lk env2 d=none→(∀ys,elems glob env y=some ys→elems glob env2 y=some ys)→ev glob env2 x=ev glob env x→dJ glob call cx ⟨some d,none,.apprp d t sz x y⟩ env2 s=.norm ((d,.v v)::env2) s1):=by
 simp only [dJ,bY,aop] at h ⊢
 cases hd:lk env d with
 | some z=>rw [hd] at h;cases h
 | none=>
  rw [hd] at h
  simp only [] at h
  have hput:∀(env2:Env) e,lk env2 d=none→put env2 d e=(d,e)::env2:=fun env2 e h2=>by unfold put;rw [h2]
  cases hy:elems glob env y with
  | none=>rw [hy] at h;cases h
  | some ys=>
   rw [hy] at h
   cases hx:ev glob env x with
   | none=>rw [hx] at h;cases h
   | some z=>
    rw [hx] at h
    cases z<;>first | (cases h;done)|skip
    rename_i a
    cases a<;>first | (cases h;done)|skip
    ·by_cases hc:0<sz∧0<ys.length∧(ys.all fun e=>e.cells.length == sz)=true∧ys.length≤aP
     ·simp only [if_pos hc,EV.refers,Bool.false_eq_true,if_false,Out.norm.injEq] at h
      obtain ⟨rfl,rfl⟩:=h
      refine ⟨_,rfl,hput env _ hd,Keeps.push,fun env2 h2 hy2 hx2=>?_⟩
      rw [h2,hy2 ys rfl,hx2]
      simp only [if_pos hc,EV.refers,Bool.false_eq_true,if_false,hput env2 _ h2]
     ·simp only [if_neg hc] at h
      by_cases h0:ys.length=0
      ·simp only [if_pos h0,EV.refers,Bool.false_eq_true,if_false,Out.norm.injEq] at h
       obtain ⟨rfl,rfl⟩:=h
       refine ⟨_,rfl,hput env _ hd,⟨fun _ _ h=>h,fun _ _ h=>h,fun _ _ _ _ _ h=>h⟩,fun env2 h2 hy2 hx2=>?_⟩
       rw [h2,hy2 ys rfl,hx2]
       simp only [if_neg hc,if_pos h0,EV.refers,Bool.false_eq_true,if_false,hput env2 _ h2]
      ·simp only [if_neg h0] at h;cases h
    ·rename_i l es
     simp only [] at h
     cases hl:s[l]? with
     | none=>simp only [hl] at h;cases h
     | some ob=>
      simp only [hl] at h
      cases ob<;>first | (cases h;done)|skip
      rename_i t' sz' k
      by_cases hc:t=t'∧sz=sz'∧k=es.length∧0<sz∧0<ys.length∧(ys.all fun e=>e.cells.length == sz)=true∧(es.all fun e=>e.cells.length == sz)=true∧es.length+ys.length≤aP∧cx.lim≤l
      ·simp only [if_pos hc,EV.refers,Bool.false_eq_true,if_false,Out.norm.injEq] at h
       obtain ⟨rfl,rfl⟩:=h
       refine ⟨_,rfl,hput env _ hd,Keeps.set (List.getElem?_eq_some_iff.1 hl).1,fun env2 h2 hy2 hx2=>?_⟩
       rw [h2,hy2 ys rfl,hx2]
       simp only [hl,if_pos hc,EV.refers,Bool.false_eq_true,if_false,hput env2 _ h2]
      ·simp only [if_neg hc] at h
       by_cases h0:ys.length=0
       ·simp only [if_pos h0,EV.refers,Bool.false_eq_true,if_false,Out.norm.injEq] at h
        obtain ⟨rfl,rfl⟩:=h
        refine ⟨_,rfl,hput env _ hd,⟨fun _ _ h=>h,fun _ _ h=>h,fun _ _ _ _ _ h=>h⟩,fun env2 h2 hy2 hx2=>?_⟩
        rw [h2,hy2 ys rfl,hx2]
        simp only [hl,if_neg hc,if_pos h0,EV.refers,Bool.false_eq_true,if_false,hput env2 _ h2]
       ·simp only [if_neg h0] at h;cases h
    ·by_cases hc:0<sz∧0<ys.length∧(ys.all fun e=>e.cells.length == sz)=true∧ys.length≤aP
     ·simp only [if_pos hc,EV.refers,Bool.false_eq_true,if_false,Out.norm.injEq] at h
      obtain ⟨rfl,rfl⟩:=h
      refine ⟨_,rfl,hput env _ hd,Keeps.push,fun env2 h2 hy2 hx2=>?_⟩
      rw [h2,hy2 ys rfl,hx2]
      simp only [if_pos hc,EV.refers,Bool.false_eq_true,if_false,hput env2 _ h2]
     ·simp only [if_neg hc] at h
      by_cases h0:ys.length=0
      ·simp only [if_pos h0,EV.refers,Bool.false_eq_true,if_false,Out.norm.injEq] at h
       obtain ⟨rfl,rfl⟩:=h
       refine ⟨_,rfl,hput env _ hd,⟨fun _ _ h=>h,fun _ _ h=>h,fun _ _ _ _ _ h=>h⟩,fun env2 h2 hy2 hx2=>?_⟩
       rw [h2,hy2 ys rfl,hx2]
       simp only [if_neg hc,if_pos h0,EV.refers,Bool.false_eq_true,if_false,hput env2 _ h2]
      ·simp only [if_neg h0] at h;cases h
theorem WZ {s1:St} (hk:Keeps s1 s) {p:aC} (hc:p.op.calm=true) (hq:p.op.quiet.isSome=true) {e:EV} (h:qL glob call p env s1=some e):qL glob call p env s=some e:=by
 unfold qL at h ⊢
 split at h
 ·cases h
 ·exact h
 ·split at h
  ·rename_i hok
   rw [if_pos hok]
   split at h
   ·rename_i e1 env1 s2 ha
    rw [acy (cx2:=⟨s.length,s.length⟩) hk hc hq hok ha]
    split at h
    ·rename_i hcond
     cases h
     simp [hcond.2]
    ·cases h
   ·cases h
  ·cases h
theorem afx {o p:aC} (hap:Qv o p=true) {env1 env2:Env} {s1 s2:St} (h1:fE glob call cx o env s=.norm env1 s1) (h2:fE glob call cx p env1 s1=.norm env2 s2):
  s2=s1∧∃f1 f2,fE glob call cx p env s=.norm f1 s∧fE glob call cx o f1 s=.norm f2 s1∧EqE f2 env2:=by
 obtain ⟨⟨d,t,sz,x,y,rfl,hdst,hoff⟩,hcalm,hq⟩:=MW hap
 have hloud:(AOp.apprp d t sz x y).quiet.isSome=false:=rfl
 rw [dV hloud] at h1
 rw [bV hq] at h2
 obtain ⟨v,hdn,rfl,hk,hrun⟩:=LK h1
 obtain ⟨rfl,e,hqv,hokd,rfl⟩:=fG.1 h2
 have hagr:Agr (fun k=>k=d) ((d,.v v)::env) env:=by
  refine ⟨fun k hkd=>aT _ _ (fun h=>hkd h.symm),fun k e' hkd hl ho=>?_⟩
  subst hkd;rw [dB] at hl;cases hl;cases ho
 have hqv':qL glob call p env s=some e:=WZ hk hcalm hq (xQ hagr hoff hqv)
 have hok':okD env p.dst e:=fun dp hdp=>⟨(hokd dp hdp).1,by
  have:=(hokd dp hdp).2
  unfold jR at this ⊢
  rwa [aT _ _ (fun h=>(hdst dp hdp).2.2 h.symm)] at this⟩
 refine ⟨rfl,qM env p.dst e,(d,.v v)::qM env p.dst e,by rw [bV hq];exact fG.2 ⟨rfl,e,hqv',hok',rfl⟩, ?_,fun k=>?_⟩
 ·rw [dV hloud]
  have hagr2:=Ym (SG hqv') hok'
  refine hrun _ ?_ ?_ ?_
  ·rw [cO (fun h=>(hdst d h).2.2 rfl)];exact hdn
  ·exact fun ys hys=>KW (WB hok') (fun k hk hd=>(hdst k hd).2.1 hk) hys
  ·exact uw hagr2 (fun k hk hd=>(hdst k hd).1 hk)
 ·by_cases hkd:k=d
  ·subst hkd
   rw [dB,cO (fun h=>(hdst k h).2.2 rfl),dB]
  ·rw [aT _ _ (Ne.symm hkd)]
   cases hp:p.dst with
   | none=>show lk env k=lk ((d,.v v)::env) k;rw [aT _ _ (Ne.symm hkd)]
   | some dp=>
    show lk ((dp,e)::env) k=lk ((dp,e)::(d,.v v)::env) k
    by_cases hkp:dp=k
    ·subst hkp;rw [dB,dB]
    ·rw [aT _ _ hkp,aT _ _ hkp,aT _ _ (Ne.symm hkd)]
theorem qU {op:AOp} (h:op.free=true):op.quiet.isSome=true:=by cases op<;>first|rfl | (cases h;done)
theorem yX {op:AOp} (h:∀(cx:Ctx) (s:St),aop glob call cx env s op=match (match aop glob call ⟨0,0⟩ env [] op with | .ok e env1 _=>some (e,env1) | _=>none) with|some (e,env1)=>RO.ok e env1 s|none=>.fail):
  ∀(cx:Ctx) (s:St),aop glob call cx env s op=match (match aop glob call ⟨0,0⟩ env [] op with | .ok e env1 _=>some (e,env1) | _=>none) with|some (e,env1)=>RO.ok e env1 s|none=>.fail:=h
theorem aa8 {op:AOp} (ho:op.free=true) (hok:okQ glob env op=true):∃r:Option (EV×Env),∀(cx:Ctx) (s:St),aop glob call cx env s op=match r with|some (e,env1)=>.ok e env1 s|none=>.fail:=by
 cases op<;>(try (cases ho;done))
 case mov x=>
  simp only [okQ,AOp.quiet,List.all_cons,List.all_nil,Bool.and_true] at hok
  refine ⟨(Eb glob env x).map fun e=>(e,env),fun cx s=>?_⟩
  rw [FZ hok]
  cases Eb glob env x<;>rfl
 case ext x i=>
  refine ⟨_,fun cx s=>yX ?_ cx s⟩
  intro cx s
  simp only [aop,okv]
  (repeat' split)<;>first|rfl | (simp_all;done)
 case idxa len sz x i=>
  refine ⟨_,fun cx s=>yX ?_ cx s⟩
  intro cx s
  simp only [aop,okv]
  (repeat' split)<;>first|rfl | (simp_all;done)
 case fld off x=>
  refine ⟨_,fun cx s=>yX ?_ cx s⟩
  intro cx s
  simp only [aop,okv]
  (repeat' split)<;>first|rfl | (simp_all;done)
 case bin bop x y=>
  refine ⟨_,fun cx s=>yX ?_ cx s⟩
  intro cx s
  simp only [aop,okv]
  (repeat' split)<;>first|rfl | (simp_all;done)
 case build zs ps=>
  refine ⟨_,fun cx s=>yX ?_ cx s⟩
  intro cx s
  simp only [aop,okv]
  (repeat' split)<;>first|rfl | (simp_all;done)
 case idx sz x i=>
  refine ⟨_,fun cx s=>yX ?_ cx s⟩
  intro cx s
  simp only [aop,okv]
  (repeat' split)<;>first|rfl | (simp_all;done)
 case slc sz x lo hi=>
  refine ⟨_,fun cx s=>yX ?_ cx s⟩
  intro cx s
  simp only [aop,okv]
  (repeat' split)<;>first|rfl | (simp_all;done)
 case nilchk x=>
  refine ⟨_,fun cx s=>yX ?_ cx s⟩
  intro cx s
  simp only [aop,okv]
  (repeat' split)<;>first|rfl | (simp_all;done)
 case b2s x=>
  refine ⟨_,fun cx s=>yX ?_ cx s⟩
  intro cx s
  simp only [aop,okv]
  (repeat' split)<;>first|rfl | (simp_all;done)
 case loadl n x=>
  cases hx:ev glob env x with
  | none=>exact ⟨none,fun cx s=>by simp only [aop,hx]⟩
  | some y=>
   have good:(∀s s',fZ glob env s n x=fZ glob env s' n x)→(∀cx s,aop glob call cx env s (.loadl n x)=okv env s (fZ glob env s n x))→∃r:Option (EV×Env),∀(cx:Ctx) (s:St),aop glob call cx env s (.loadl n x)=match r with|some (e,env1)=>.ok e env1 s|none=>.fail:=by
    intro k1 k2
    refine ⟨(fZ glob env [] n x).map fun v=>(.v v,env),fun cx s=>?_⟩
    rw [k2,k1 s []]
    cases fZ glob env [] n x<;>rfl
   cases y with
   | bx cs=>exact good (fun s s'=>by unfold fZ;rw [hx]) (fun cx s=>by simp only [aop,hx])
   | lp k o=>exact good (fun s s'=>by unfold fZ;rw [hx]) (fun cx s=>by simp only [aop,hx])
   | v a=>
    cases a with
    | ip cs=>exact good (fun s s'=>by unfold fZ;rw [hx]) (fun cx s=>by simp only [aop,hx])
    | _=>exact ⟨none,fun cx s=>by simp only [aop,hx]⟩
   | _=>exact ⟨none,fun cx s=>by simp only [aop,hx]⟩
theorem FN {o:aC} (ho:o.op.free=true) (s s':St):qL glob call o env s=qL glob call o env s':=by
 unfold qL
 split
 ·rfl
 ·rfl
 ·split
  ·rename_i hok
   obtain ⟨r,hr⟩:=aa8 (call:=call) ho hok
   rw [hr,hr]
   cases r<;>simp
  ·rfl
theorem Au {od:Option Nat} {op:AOp} {l:List Nat} (hl:op.heapy=some l) (hd:VX op od=true) {env1:Env} {s1:St}
  (h:dJ glob call cx ⟨od,none,op⟩ env s=.norm env1 s1):
  ∃e,env1=qM env od e∧e.owns=false∧(∀d,od=some d→lk env d=none)∧∀env2,(∀k∈l,lk env2 k=lk env k)→(∀d,od=some d→lk env2 d=none)→dJ glob call cx ⟨od,none,op⟩ env2 s=.norm (qM env2 od e) s1:=by
 have hev:∀(x:IX) (env2:Env),(∀k∈x.slots,lk env2 k=lk env k)→ev glob env2 x=ev glob env x:=by
  intro x env2 hx
  cases x with
  | t k=>exact hx k (by simp [IX.slots])
  | c a=>rfl
  | g k=>rfl
 cases op with
 | umap d=>
  cases od with
  | none=>cases hd
  | some d'=>
   have hd':d=d':=by simpa [VX] using hd
   subst hd'
   simp only [dJ,bY,aop] at h ⊢
   cases hk:lk env d with
   | some e=>rw [hk] at h;cases h
   | none=>
    rw [hk] at h
    simp only [EV.refers,Bool.false_eq_true,if_false,Out.norm.injEq] at h
    obtain ⟨rfl,rfl⟩:=h
    have hput:∀(env2:Env) e,lk env2 d=none→put env2 d e=(d,e)::env2:=fun env2 e h2=>by unfold put;rw [h2]
    refine ⟨.v (.mp s.length),by rw [hput env _ hk];rfl,rfl,(fun _ h=>by cases h;exact hk),fun env2 _ h2=>?_⟩
    rw [h2 d rfl]
    simp only [EV.refers,Bool.false_eq_true,if_false,hput env2 _ (h2 d rfl)];rfl
 | uins m k v=>
  simp only [AOp.heapy,Option.some.injEq] at hl
  cases od with
  | some d=>cases hd
  | none=>
   subst hl
   simp only [dJ,bY] at h
   cases ha:aop glob call cx env s (.uins m k v) with
   | fail=>rw [ha] at h;cases h
   | pan _ _=>rw [ha] at h;cases h
   | ok e env' s'=>
    rw [ha] at h
    simp only [Out.norm.injEq] at h
    obtain ⟨rfl,rfl⟩:=h
    have henv:env'=env:=by
     simp only [aop] at ha
     (repeat' split at ha)<;>first | (cases ha;done) | (cases ha;rfl)
    subst henv
    refine ⟨.v .u,rfl,rfl,(fun _ h=>by cases h),fun env2 h1 _=>?_⟩
    have:aop glob call cx env2 s (.uins m k v)=.ok e env2 s':=by
     simp only [aop] at ha ⊢
     rw [hev m env2 (fun j hj=>h1 j (by simp [hj])),hev k env2 (fun j hj=>h1 j (by simp [hj])),hev v env2 (fun j hj=>h1 j (by simp [hj]))]
     (repeat' split at ha)<;>first | (cases ha;done) | (cases ha;simp [*];done)
    simp only [dJ,bY,this];rfl
 | storep n x y=>
  simp only [AOp.heapy,Option.some.injEq] at hl
  cases od with
  | some d=>cases hd
  | none=>
   subst hl
   simp only [dJ,bY] at h
   cases ha:aop glob call cx env s (.storep n x y) with
   | fail=>rw [ha] at h;cases h
   | pan _ _=>rw [ha] at h;cases h
   | ok e env' s'=>
    rw [ha] at h
    simp only [Out.norm.injEq] at h
    obtain ⟨rfl,rfl⟩:=h
    have henv:env'=env:=by
     simp only [aop] at ha
     (repeat' split at ha)<;>first | (cases ha;done) | (cases ha;rfl)
    subst henv
    refine ⟨.v .u,rfl,rfl,(fun _ h=>by cases h),fun env2 h1 _=>?_⟩
    have ex:=hev x env2 (fun j hj=>h1 j (by simp [hj]))
    have ey:=hev y env2 (fun j hj=>h1 j (by simp [hj]))
    have:aop glob call cx env2 s (.storep n x y)=.ok e env2 s':=by
     simp only [aop] at ha ⊢
     rw [ex,ey]
     split at ha
     ·rename_i av xv hx hy
      have hst:∀env3:Env,ev glob env3 x=some (.v av)→(qc glob cx env3 s n x xv).map (·.2)=(qc glob cx env' s n x xv).map (·.2):=by
       intro env3 h3
       unfold qc
       rw [h3,hx]
       by_cases hc:xv.cells.length=n∧n≠0∧(xv.cells.all AV.one)=true
       ·rw [if_pos hc,if_pos hc]
        cases av<;>first|rfl | (simp only [];(repeat' split)<;>first|rfl | (simp_all;done))
       ·rw [if_neg hc,if_neg hc]
      have h4:=hst env2 (ex.trans hx)
      split at ha
      ·rename_i q s1 hq
       cases ha
       rw [hq] at h4
       cases hq2:qc glob cx env2 s n x xv with
       | none=>rw [hq2] at h4;cases h4
       | some r=>
        rw [hq2] at h4
        simp at h4
        simp [h4]
      ·cases ha
     ·cases ha
    simp only [dJ,bY,this];rfl
 | _=>simp [AOp.heapy] at hl
theorem uq {op:AOp} {l:List Nat} (h:op.heapy=some l):op.quiet.isSome=false:=by cases op<;>first|rfl | (simp [AOp.heapy] at h;done)
theorem afB {o p:aC} (hap:Qz o p=true) {env1 env2:Env} {s1 s2:St} (h1:fE glob call cx o env s=.norm env1 s1) (h2:fE glob call cx p env1 s1=.norm env2 s2):
  s2=s1∧∃f1 f2,fE glob call cx p env s=.norm f1 s∧fE glob call cx o f1 s=.norm f2 s1∧EqE f2 env2:=by
 obtain ⟨od,og,oop⟩:=o
 simp only [Qz,Bool.and_eq_true,Option.isNone_iff_eq_none] at hap
 obtain ⟨⟨⟨⟨⟨a1,a2⟩,a3⟩,a4⟩,a5⟩,a6⟩:=hap
 subst a3
 cases hl:oop.heapy with
 | none=>rw [hl] at a1;cases a1
 | some l=>
 rw [hl] at a1
 simp only [] at a1
 have hq:p.op.quiet.isSome=true:=qU a4
 rw [dV (uq hl)] at h1
 rw [bV hq] at h2
 obtain ⟨eo,rfl,howns,hnone,hrun⟩:=Au hl a2 h1
 obtain ⟨rfl,e,hqv,hokd,rfl⟩:=fG.1 h2
 have hne:∀d,od=some d→p.dst≠some d:=by
  intro d hd hp
  subst hd
  rw [hp] at a6
  simp at a6
 have hqv':qL glob call p env s=some e:=by rw [FN a4 s s2];exact xQ (WA howns) (C9 a5) hqv
 have hok':okD env p.dst e:=fun dp hdp=>⟨(hokd dp hdp).1,by
  have:=(hokd dp hdp).2
  unfold jR at this ⊢
  rwa [cO (fun h=>hne dp h hdp)] at this⟩
 refine ⟨rfl,qM env p.dst e,qM (qM env p.dst e) od eo,by rw [bV hq];exact fG.2 ⟨rfl,e,hqv',hok',rfl⟩, ?_,yZ hne⟩
 rw [dV (uq hl)]
 refine hrun _ (fun k hk=>cO (fun hp=>?_)) (fun d hd=>?_)
 ·rw [hp] at a1
  simp [oW] at a1
  exact a1 k hk rfl
 ·rw [cO (hne d hd)];exact hnone d hd
theorem afv {o p:aC} (hap:Qs o p=true) {env1 env2:Env} {s1 s2:St} (h1:fE glob call cx o env s=.norm env1 s1) (h2:fE glob call cx p env1 s1=.norm env2 s2):
  ∃f1 t1 f2,fE glob call cx p env s=.norm f1 t1∧fE glob call cx o f1 t1=.norm f2 s2∧EqE f2 env2:=by
 unfold Qs at hap
 split at hap
 case h_2=>cases hap
 rename_i m k v m' k' v'
 simp only [Bool.and_eq_true,beq_iff_eq] at hap
 obtain ⟨hm,rfl⟩:=hap
 have hmm:∃j,m=.t j∧m'=.t j:=by
  split at hm
  ·rename_i a b;simp at hm;subst hm;exact ⟨_,rfl,rfl⟩
  ·cases hm
 obtain ⟨j,rfl,rfl⟩:=hmm
 have hl:∀m k v,(AOp.uins m k v).quiet.isSome=false:=fun _ _ _=>rfl
 rw [dV (hl _ _ _)] at h1 h2
 -- what an entry does
 have one:∀(k:IX) {s s':St} {env env':Env},dJ glob call cx ⟨none,none,.uins (.t j) k (.c (.b v))⟩ env s=.norm env' s'→env'=env∧∃l key es,lk env j=some (.v (.mp l))∧ev glob env k=some (.v (.s key))∧s[l]?=some (.umap es)∧cx.lim≤l∧s'=s.set l (.umap (BA key (.b v) es)):=by
  intro k s s' env env' h
  simp only [dJ,bY,aop] at h
  split at h
  ·cases h
  ·cases h
  ·rename_i e env2 s2 ha
   cases h
   split at ha
   ·rename_i l key val hm hk hv
    split at ha
    ·rename_i es hs
     split at ha
     ·rename_i hc
      cases ha
      have hvv:∀E:Env,ev glob E (.c (.b v))=some (.v (.b v)):=fun _=>rfl
      rw [hvv] at hv
      cases hv
      exact ⟨rfl,l,key,es,hm,hk,hs,hc.2.2,rfl⟩
     ·cases ha
    ·cases ha
   ·cases ha
 have back:∀(k:IX) {s:St} {env:Env} {l:Nat} {key:List UInt8} {es:List (List UInt8×AV)},lk env j=some (.v (.mp l))→ev glob env k=some (.v (.s key))→s[l]?=some (.umap es)→cx.lim≤l→
   dJ glob call cx ⟨none,none,.uins (.t j) k (.c (.b v))⟩ env s=.norm env (s.set l (.umap (BA key (.b v) es))):=by
  intro k s env l key es q1 q2 q3 q4
  have hvv:ev glob env (.c (.b v))=some (.v (.b v)):=rfl
  have hmv:ev glob env (.t j)=some (.v (.mp l)):=q1
  simp [dJ,bY,aop,hmv,q2,hvv,q3,q4,AV.one,AV.flat]
 obtain ⟨rfl,l,key1,es,a1,a2,a3,a4,rfl⟩:=one k h1
 obtain ⟨rfl,l',key2,es',b1,b2,b3,b4,rfl⟩:=one k' h2
 rw [a1] at b1
 cases b1
 have hlt:l<s.length:=(List.getElem?_eq_some_iff.1 a3).1
 rw [List.getElem?_set_self hlt] at b3
 cases b3
 refine ⟨env2,s.set l (.umap (BA key2 (.b v) es)),env2,by rw [dV (hl _ _ _)];exact back k' a1 b2 a3 a4, ?_,.refl _⟩
 rw [dV (hl _ _ _)]
 have:=back k (s:=s.set l (.umap (BA key2 (.b v) es))) a1 a2 (List.getElem?_set_self hlt) a4
 rw [this,List.set_set,List.set_set,Yp]
theorem xU {d:Nat} {zs:List AV} {env1:Env} {s1:St}:fE glob call cx ⟨some d,none,.lallocp d zs⟩ env s=.norm env1 s1 ↔ lk env d=none∧env1=(d,.bx zs)::env∧s1=s:=by
 have hl:(AOp.lallocp d zs).quiet.isSome=false:=rfl
 rw [dV hl]
 simp only [dJ,bY,aop]
 cases hk:lk env d with
 | some e=>simp
 | none=>
  have hput:put env d (.bx zs)=(d,.bx zs)::env:=by unfold put;rw [hk]
  simp only [EV.refers,Bool.false_eq_true,if_false,hput,Out.norm.injEq,true_and]
  exact ⟨fun h=>⟨h.1.symm,h.2.symm⟩,fun h=>⟨h.1.symm,h.2.symm⟩⟩
theorem afz {o p:aC} (hap:Qx o p=true) {env1 env2:Env} {s1 s2:St} (h1:fE glob call cx o env s=.norm env1 s1) (h2:fE glob call cx p env1 s1=.norm env2 s2):
  ∃f1 t1 f2,fE glob call cx p env s=.norm f1 t1∧fE glob call cx o f1 t1=.norm f2 s2∧EqE f2 env2:=by
 obtain ⟨pd,pg,pop⟩:=p
 simp only [Qx,Bool.and_eq_true,Option.isNone_iff_eq_none] at hap
 obtain ⟨⟨⟨a1,a2⟩,a3⟩,a4⟩:=hap
 subst a2
 have hp:∃d zs,pd=some d∧pop=.lallocp d zs:=by
  split at a1
  ·rename_i d zs d';simp at a1;subst a1;exact ⟨d,zs,rfl,rfl⟩
  ·cases a1
 obtain ⟨d,zs,rfl,rfl⟩:=hp
 obtain ⟨hn,rfl,rfl⟩:=xU.1 h2
 have hod:o.dst≠some d:=by
  intro h
  rw [h] at a3
  simp at a3
 have agr:∀env:Env,lk env d=none→Agr (fun k=>k=d) env ((d,.bx zs)::env):=fun env h=>⟨fun k hk=>(aT _ _ (Ne.symm hk)).symm,fun k e hk he _=>by subst hk;rw [h] at he;cases he⟩
 by_cases hq:o.op.quiet.isSome=true
 ·rw [if_pos hq] at a4
  rw [bV hq] at h1
  obtain ⟨rfl,e,hqv,hokd,rfl⟩:=fG.1 h1
  rw [cO hod] at hn
  refine ⟨(d,.bx zs)::env,s2,qM ((d,.bx zs)::env) o.dst e,xU.2 ⟨hn,rfl,rfl⟩, ?_, ?_⟩
  ·rw [bV hq]
   refine fG.2 ⟨rfl,e,xQ (agr env hn) (fun k hk hkd=>?_) hqv,fun dp hdp=>⟨(hokd dp hdp).1, ?_⟩,rfl⟩
   ·subst hkd
    have:=C9 a4 k hk
    exact this rfl
   ·have:=(hokd dp hdp).2
    unfold jR at this ⊢
    rwa [aT _ _ (fun h=>hod (by rw [hdp,h]))]
  ·exact yZ (d1:=o.dst) (d2:=some d) (e1:=e) (e2:=.bx zs) (fun x hx hd=>hod (by rw [hx,hd]))
 ·rw [if_neg hq] at a4
  obtain ⟨od,og,oop⟩:=o
  simp only [] at a4 hod hq
  split at a4
  ·rename_i dd t sz x y d'
   simp only [Bool.and_eq_true,beq_iff_eq,Option.isNone_iff_eq_none] at a4
   obtain ⟨⟨rfl,b1⟩,rfl⟩:=a4
   have hloud:(AOp.apprp dd t sz x y).quiet.isSome=false:=rfl
   rw [dV hloud] at h1
   obtain ⟨v,hdn,rfl,_,hrun⟩:=LK h1
   have hdd:dd≠d:=fun h=>hod (by rw [h])
   rw [aT _ _ hdd] at hn
   simp [oW] at b1
   refine ⟨(d,.bx zs)::env,s,(dd,.v v)::(d,.bx zs)::env,xU.2 ⟨hn,rfl,rfl⟩, ?_, ?_⟩
   ·rw [dV hloud]
    refine hrun _ (by rw [aT _ _ (Ne.symm hdd)];exact hdn) (fun ys hys=>KW (agr env hn) (fun k hk hkd=>?_) hys) (uw (agr env hn) (fun k hk hkd=>?_)).symm
    ·subst hkd;exact (b1.2 k hk) rfl
    ·subst hkd;exact (b1.1 k hk) rfl
   ·exact yZ (d1:=some dd) (d2:=some d) (e1:=.v v) (e2:=.bx zs) (fun x hx hd=>hod (by cases hx;cases hd;rfl))
  ·cases a4
theorem afA {o p:aC} (hap:Qy o p=true) {env1 env2:Env} {s1 s2:St} (h1:fE glob call cx o env s=.norm env1 s1) (h2:fE glob call cx p env1 s1=.norm env2 s2):
  ∃f1 t1 f2,fE glob call cx p env s=.norm f1 t1∧fE glob call cx o f1 t1=.norm f2 s2∧EqE f2 env2:=by
 obtain ⟨pd,pg,pop⟩:=p
 simp only [Qy,Bool.and_eq_true,Option.isNone_iff_eq_none] at hap
 obtain ⟨⟨⟨⟨a1,a2⟩,a3⟩,a4⟩,a5⟩:=hap
 subst a3 a4
 cases hl:pop.heapy with
 | none=>rw [hl] at a2;cases a2
 | some l=>
 rw [hl] at a2
 simp only [] at a2
 have hq:=qU a1
 rw [bV hq] at h1
 rw [dV (uq hl)] at h2
 obtain ⟨rfl,e,hqv,hokd,rfl⟩:=fG.1 h1
 obtain ⟨eo,rfl,_,_,hrun⟩:=Au hl a5 h2
 refine ⟨env,s2,qM env o.dst e, ?_, ?_,.refl _⟩
 ·rw [dV (uq hl)]
  refine hrun env (fun j hj=>(cO (fun hd=>?_)).symm) (fun d hd=>by cases hd)
  rw [hd] at a2
  simp only [oW,List.all_eq_true,bne_iff_ne] at a2
  exact a2 j hj rfl
 ·rw [bV hq]
  exact fG.2 ⟨rfl,e,by rw [FN a1 s2 s1];exact hqv,hokd,rfl⟩
theorem aa6 {l:Nat}:∀{bs:List Nat} {b:Nat},Qp env l bs=true→b∈bs→∃l' o',lk env b=some (.v (.pt l' o'))∧l'≠l:=by
 intro bs b h hb
 have:=List.all_eq_true.1 h b hb
 split at this
 ·rename_i l' o' hl;exact ⟨l',o',hl,by simpa using this⟩
 ·cases this
theorem Yq {n b:Nat} {x:IX} {lb ob:Nat} (hb:lk env b=some (.v (.pt lb ob))) {env1:Env} {s1:St} (h:dJ glob call cx ⟨none,none,.storep n (.t b) x⟩ env s=.norm env1 s1):∀l,lb≠l→s1[l]?=s[l]?:=by
 intro l hl
 have hev:ev glob env (.t b)=some (.v (.pt lb ob)):=hb
 simp only [dJ,bY,aop,hev] at h
 cases hx:ev glob env x with
 | none=>rw [hx] at h;cases h
 | some y=>
  rw [hx] at h
  cases y with
  | v xv=>
   simp only [] at h
   cases hst:qc glob cx env s n (.t b) xv with
   | none=>rw [hst] at h;cases h
   | some r=>
    obtain ⟨env',s'⟩:=r
    rw [hst] at h
    simp only [Out.norm.injEq] at h
    obtain ⟨_,rfl⟩:=h
    unfold qc at hst
    rw [hev] at hst
    split at hst
    ·simp only [] at hst
     split at hst
     ·split at hst
      ·cases hst;exact List.getElem?_set_ne hl
      ·cases hst
     ·cases hst
    ·cases hst
  | _=>cases h
theorem aft {o p:aC} (hap:Qr o p=true) {env1 env2:Env} {s1 s2:St} (h1:fE glob call cx o env s=.norm env1 s1) (h2:fE glob call cx p env1 s1=.norm env2 s2):
  ∃f1 t1 f2,fE glob call cx p env s=.norm f1 t1∧fE glob call cx o f1 t1=.norm f2 s2∧EqE f2 env2:=by
 obtain ⟨pd,pg,pop⟩:=p
 simp only [Qr,Bool.and_eq_true,Option.isNone_iff_eq_none] at hap
 obtain ⟨⟨⟨a1,a2⟩,a3⟩,a4⟩:=hap
 subst a3 a4
 split at a1
 case h_2=>cases a1
 rename_i n a bs m b x ho
 simp only [Bool.and_eq_true,List.contains_eq_mem,decide_eq_true_eq] at a1
 obtain ⟨hb,hni⟩:=a1
 have hq:o.op.quiet.isSome=true:=by rw [ho];rfl
 have hl:(AOp.storep m (.t b) x).heapy=some (IX.slots (.t b)++x.slots):=rfl
 rw [bV hq] at h1
 rw [dV (uq hl)] at h2
 obtain ⟨rfl,e,hqv,hokd,rfl⟩:=fG.1 h1
 have hnd:∀k∈b::x.slots,o.dst≠some k:=by
  intro k hk hd
  rw [hd] at hni
  simp only [oW,List.all_eq_true,bne_iff_ne] at hni
  exact hni k hk rfl
 obtain ⟨eo,rfl,_,_,hrun⟩:=Au hl rfl h2
 refine ⟨env,s2,qM env o.dst e, ?_, ?_,.refl _⟩
 ·rw [dV (uq hl)]
  refine hrun env (fun j hj=>(cO (hnd j ?_)).symm) (fun d hd=>by cases hd)
  simpa [IX.slots] using hj
 ·rw [bV hq]
  refine fG.2 ⟨rfl,e, ?_,hokd,rfl⟩
  unfold qL at hqv ⊢
  rw [a2] at hqv ⊢
  simp only [bY] at hqv ⊢
  split at hqv
  ·rename_i hok
   rw [if_pos hok]
   rw [ho] at hqv ⊢
   simp only [aop] at hqv ⊢
   cases hx:ev glob env a with
   | none=>rw [hx] at hqv;cases hqv
   | some y=>
    rw [hx] at hqv
    cases y with
    | v ya=>
     cases ya with
     | pt l o1=>
      dsimp only at hqv ⊢
      by_cases haw:Qp env l bs=true
      ·rw [if_pos haw] at hqv ⊢
       obtain ⟨lb,ob,hlb,hne⟩:=aa6 haw hb
       have hk:s2[l]?=s1[l]?:=Yq (by rw [cO (hnd b (by simp))];exact hlb) h2 l hne
       have hld:fZ glob env s2 n a=fZ glob env s1 n a:=by
        unfold fZ
        rw [hx]
        simp only [hk]
       rw [hld]
       simp only [okv] at hqv ⊢
       cases hv:fZ glob env s1 n a with
       | none=>rw [hv] at hqv;cases hqv
       | some v=>rw [hv] at hqv;simpa using hqv
      ·rw [if_neg haw] at hqv;cases hqv
     | _=>cases hqv
    | _=>cases hqv
  ·cases hqv
theorem CJ {n k:Nat} {x:IX} {env1:Env} {s1:St}:fE glob call cx ⟨none,none,.storel n k x⟩ env s=.norm env1 s1 ↔
  s1=s∧∃cs xv,lk env k=some (.bx cs)∧ev glob env x=some (.v xv)∧(xv.cells.length=n∧n≠0∧xv.cells.all AV.one=true∧n≤cs.length)∧env1=(k,.bx (splice cs 0 xv.cells))::env:=by
 have hl:(AOp.storel n k x).quiet.isSome=false:=rfl
 rw [dV hl]
 simp only [dJ,bY,aop]
 constructor
 ·intro h
  split at h
  ·cases h
  ·cases h
  ·rename_i e env2 s2 ha
   cases h
   split at ha
   ·rename_i cs xv hk hx
    split at ha
    ·rename_i hc;cases ha;exact ⟨rfl,cs,xv,hk,hx,hc,rfl⟩
    ·cases ha
   ·cases ha
 ·rintro ⟨rfl,cs,xv,hk,hx,hc,rfl⟩
  rw [hk,hx]
  simp only [if_pos hc]
def YW (glob:Nat→Option (List AV)) (env:Env) (sz:Nat) (x i:IX):Option EV:=
 match rd glob env i with
 | some (.i _ n)=>match iK env x with
  | some k=>match lk env k with
   | some (.own _ _ sz' es)=>if sz=sz'∧0≤n∧n.toNat<es.length then some (.ep k sz n.toNat 0) else none
   | _=>none
  | none=>match rd glob env x with
   | some (.sl es)=>match es[n.toNat]? with
    | some e=>if 0≤n∧e.cells.length=sz then some (.v (.ip e.cells)) else none
    | none=>none
   | some (.sk l ver sz' o m)=>if sz=sz'∧0≤n∧n.toNat<m then some (.v (.sp l ver (o+n.toNat * sz))) else none
   | _=>none
 | _=>none
theorem acH {sz:Nat} {x i:IX}:aop glob call cx env s (.idx sz x i)=match YW glob env sz x i with|some e=>.ok e env s|none=>.fail:=by
 unfold YW
 simp only [aop]
 cases rd glob env i with
 | none=>rfl
 | some a=>
  cases a<;>try rfl
  rename_i k n
  simp only []
  cases iK env x with
  | some j=>
   simp only []
   cases lk env j with
   | none=>rfl
   | some e=>
    cases e<;>try rfl
    rename_i tip t sz' es
    simp only []
    by_cases hc:sz=sz'∧0≤n∧n.toNat<es.length
    ·rw [if_pos hc,if_pos hc]
    ·rw [if_neg hc,if_neg hc]
  | none=>
   simp only []
   cases rd glob env x with
   | none=>rfl
   | some b=>
    cases b<;>try rfl
    ·rename_i es
     simp only []
     cases es[n.toNat]? with
     | none=>rfl
     | some e=>
      simp only []
      by_cases hc:0≤n∧e.cells.length=sz
      ·rw [if_pos hc,if_pos hc]
      ·rw [if_neg hc,if_neg hc]
    ·rename_i l ver sz' o m
     simp only []
     by_cases hc:sz=sz'∧0≤n∧n.toNat<m
     ·rw [if_pos hc,if_pos hc]
     ·rw [if_neg hc,if_neg hc]
theorem U3 {op:AOp} (h:op.still=true):op.quiet.isSome=true:=by cases op<;>first|rfl | (cases h;done)
theorem NS {x:IX} (h:∀j∈x.slots,lk env2 j=lk env j):ev glob env2 x=ev glob env x:=by
 cases x with
 | t k=>exact h k (by simp [IX.slots])
 | c a=>rfl
 | g k=>rfl
theorem WY {o:aC} (ho:o.op.still=true) (h:∀j∈o.reads,lk env2 j=lk env j) (hk:∀j,lk env2 j=lk env j∨∃cs cs',lk env2 j=some (.bx cs)∧lk env j=some (.bx cs')):qL glob call o env2 s=qL glob call o env s:=by
 have hw:bY env2 o.guard=bY env o.guard:=by
  cases hg:o.guard with
  | none=>rfl
  | some p=>
   obtain ⟨k,b⟩:=p
   have:lk env2 k=lk env k:=h k (by simp [aC.reads,hg])
   simp only [bY,this]
 have hx:∀{rs es:List IX},o.op.quiet=some (rs,es)→∀x∈rs++es,ev glob env2 x=ev glob env x:=by
  intro rs es hq x hx
  refine NS fun j hj=>h j ?_
  simp only [aC.reads,hq,List.mem_append,List.mem_flatMap]
  exact .inl ⟨x,by simpa using hx,hj⟩
 unfold qL
 rw [hw]
 split
 ·rfl
 ·rfl
 ·cases hop:o.op<;>rw [hop] at ho<;>(try (cases ho;done))
  case mov x=>
   have hex:ev glob env2 x=ev glob env x:=hx (rs:=[x]) (es:=[]) (by rw [hop];rfl) x (by simp)
   have hn:oZ glob env2 x=oZ glob env x:=by unfold oZ;rw [hex]
   have hm:Eb glob env2 x=Eb glob env x:=by unfold Eb;rw [hex]
   simp only [okQ,AOp.quiet,List.all_cons,List.all_nil,Bool.and_true,hn]
   split
   ·rename_i hok
    rw [FZ hok,FZ (by rw [hn];exact hok),hm]
    cases Eb glob env x<;>simp
   ·rfl
  case bin bop x y=>
   have hex:ev glob env2 x=ev glob env x:=hx (rs:=[x,y]) (es:=[]) (by rw [hop];rfl) x (by simp)
   have hey:ev glob env2 y=ev glob env y:=hx (rs:=[x,y]) (es:=[]) (by rw [hop];rfl) y (by simp)
   have hn:oZ glob env2 x=oZ glob env x:=by unfold oZ;rw [hex]
   have hn2:oZ glob env2 y=oZ glob env y:=by unfold oZ;rw [hey]
   have hr:rd glob env2 x=rd glob env x:=by unfold rd;rw [hex]
   have hr2:rd glob env2 y=rd glob env y:=by unfold rd;rw [hey]
   simp only [okQ,AOp.quiet,List.all_cons,List.all_nil,Bool.and_true,hn,hn2,aop,hr,hr2]
   split
   ·cases rd glob env x with
    | none=>rfl
    | some a=>
     cases rd glob env y with
     | none=>rfl
     | some b=>simp only [];cases Wq bop a b<;>simp [okv]
   ·rfl
  case len k x=>
   have hex:ev glob env2 x=ev glob env x:=hx (rs:=[x]) (es:=[]) (by rw [hop];rfl) x (by simp)
   have hn:oZ glob env2 x=oZ glob env x:=by unfold oZ;rw [hex]
   have hr:rd glob env2 x=rd glob env x:=by unfold rd;rw [hex]
   have hel:elems glob env2 x=elems glob env x:=by
    unfold elems
    rw [hex]
    split<;>try rfl
    rename_i j _
    rcases hk j with h1|⟨cs,cs',h1,h2⟩
    ·rw [h1]
    ·rw [h1,h2]
   simp only [okQ,AOp.quiet,List.all_cons,List.all_nil,Bool.and_true,hn]
   split
   ·rcases k with _ | _ | _|k
    ·simp only [aop,hel,hr]
     cases elems glob env x with
     | some es=>simp
     | none=>
      cases rd glob env x with
      | none=>simp
      | some a=>cases a<;>simp
    ·simp only [aop,hr]
     cases rd glob env x with
     | none=>simp
     | some a=>cases a<;>simp
    ·simp only [aop,hr]
     cases rd glob env x with
     | none=>simp
     | some a=>
      cases a<;>try (simp;done)
      rename_i l
      cases hsl:s[l]? with
      | none=>simp [hsl]
      | some ob=>cases ob<;>simp [hsl]
    ·simp [aop]
   ·rfl
  case fld off x=>
   have hex:ev glob env2 x=ev glob env x:=hx (rs:=[x]) (es:=[]) (by rw [hop];rfl) x (by simp)
   have hn:oZ glob env2 x=oZ glob env x:=by unfold oZ;rw [hex]
   have ha:addr glob env2 off x=addr glob env off x:=by unfold addr;rw [hex]
   simp only [okQ,AOp.quiet,List.all_cons,List.all_nil,Bool.and_true,hn,aop,ha]
   split
   ·cases addr glob env off x<;>rfl
   ·rfl
  case loadp d n x=>
   have hex:ev glob env2 x=ev glob env x:=hx (rs:=[x,.t d]) (es:=[]) (by rw [hop];rfl) x (by simp)
   have hed:ev glob env2 (.t d)=ev glob env (.t d):=hx (rs:=[x,.t d]) (es:=[]) (by rw [hop];rfl) (.t d) (by simp)
   have hed':lk env2 d=lk env d:=hed
   have hn:oZ glob env2 x=oZ glob env x:=by unfold oZ;rw [hex]
   have hn2:oZ glob env2 (.t d)=oZ glob env (.t d):=by unfold oZ;rw [hed]
   have hl2:∀a,ev glob env x=some (.v a)→fZ glob env2 s n x=fZ glob env s n x:=fun a hv=>by unfold fZ;rw [hex,hv];cases a<;>rfl
   simp only [okQ,AOp.quiet,List.all_cons,List.all_nil,Bool.and_true,hn,hn2,aop,hex,hed']
   split
   ·cases lk env d with
    | some e=>rfl
    | none=>
     cases hv:ev glob env x with
     | none=>rfl
     | some e=>
      cases e<;>try rfl
      rename_i a
      simp only [hl2 a hv]
      cases fZ glob env s n x<;>simp [okv]
   ·rfl
  case idx sz x y=>
   have hex:ev glob env2 x=ev glob env x:=hx (rs:=[x,y]) (es:=[]) (by rw [hop];rfl) x (by simp)
   have hey:ev glob env2 y=ev glob env y:=hx (rs:=[x,y]) (es:=[]) (by rw [hop];rfl) y (by simp)
   have hn:oZ glob env2 x=oZ glob env x:=by unfold oZ;rw [hex]
   have hn2:oZ glob env2 y=oZ glob env y:=by unfold oZ;rw [hey]
   have hr:rd glob env2 x=rd glob env x:=by unfold rd;rw [hex]
   have hr2:rd glob env2 y=rd glob env y:=by unfold rd;rw [hey]
   have ho:iK env2 x=iK env x:=by
    cases x with
    | t k=>have:lk env2 k=lk env k:=hex;unfold iK;simp only [this]
    | c a=>rfl
    | g k=>rfl
   have hi:YW glob env2 sz x y=YW glob env sz x y:=by
    unfold YW
    rw [hr,hr2,ho]
    cases iK env x with
    | none=>rfl
    | some k=>
     rcases hk k with h1|⟨cs,cs',h1,h2⟩
     ·simp only [h1]
     ·simp only [h1,h2]
   simp only [okQ,AOp.quiet,List.all_cons,List.all_nil,Bool.and_true,hn,hn2,acH,hi]
   split
   ·cases YW glob env sz x y<;>rfl
   ·rfl
theorem afw {o p:aC} (hap:Qu o p=true) {env1 env2:Env} {s1 s2:St} (h1:fE glob call cx o env s=.norm env1 s1) (h2:fE glob call cx p env1 s1=.norm env2 s2):
  ∃f1 t1 f2,fE glob call cx p env s=.norm f1 t1∧fE glob call cx o f1 t1=.norm f2 s2∧EqE f2 env2:=by
 obtain ⟨pd,pg,pop⟩:=p
 simp only [Qu,Bool.and_eq_true,Option.isNone_iff_eq_none] at hap
 obtain ⟨⟨⟨a1,a2⟩,a3⟩,a4⟩:=hap
 subst a2 a3
 cases pop<;>(try (cases a4;done))
 rename_i n k x
 simp only [Bool.and_eq_true] at a4
 obtain ⟨b1,b2⟩:=a4
 have hq:=U3 a1
 rw [bV hq] at h1
 obtain ⟨rfl,e,hqv,hokd,rfl⟩:=fG.1 h1
 obtain ⟨rfl,cs,xv,c1,c2,c3,rfl⟩:=CJ.1 h2
 have hd:∀j∈k::x.slots,o.dst≠some j:=by
  intro j hj hdj
  rw [hdj] at b1
  simp only [oW,List.all_eq_true,bne_iff_ne] at b1
  exact b1 j hj rfl
 have hk:lk env k=some (.bx cs):=by rw [←c1,cO (hd k (by simp))]
 have hx:ev glob env x=some (.v xv):=by
  rw [←c2]
  exact (NS fun j hj=>cO (hd j (by simp [hj]))).symm
 refine ⟨(k,.bx (splice cs 0 xv.cells))::env,s2,qM ((k,.bx (splice cs 0 xv.cells))::env) o.dst e,CJ.2 ⟨rfl,cs,xv,hk,hx,c3,rfl⟩, ?_, ?_⟩
 ·rw [bV hq]
  refine fG.2 ⟨rfl,e, ?_,fun d hdd=>⟨(hokd d hdd).1, ?_⟩,rfl⟩
  ·rw [WY (env:=env) a1 (fun j hj=>aT _ _ (fun h=>?_)) (fun j=>?_)]
   ·exact hqv
   ·simp only [List.all_eq_true,bne_iff_ne] at b2
    exact b2 j hj h.symm
   ·by_cases hjk:k=j
    ·subst hjk;exact .inr ⟨_,_,dB _ _ _,hk⟩
    ·exact .inl (aT _ _ hjk)
  ·have:=(hokd d hdd).2
   unfold jR at this ⊢
   rwa [aT _ _ (fun h=>hd k (by simp) (by rw [hdd,h]))]
 ·exact yZ (d1:=o.dst) (d2:=some k) (e1:=e) (e2:=.bx (splice cs 0 xv.cells)) (fun y hy hz=>hd k (by simp) (by rw [hy,hz]))
theorem Dy {o:aC} {d:Nat} {l:List Nat} (h:o.callS=some (d,l)):∃f as kk,o=⟨some d,none,.callh d f as kk⟩∧l=(f.slots++as.flatMap IX.slots)++(kk.map (·.1)).toList:=by
 unfold aC.callS at h
 split at h
 ·split at h
  ·rename_i hd;cases h;subst hd;exact ⟨_,_,_,rfl,rfl⟩
  ·cases h
 ·cases h
theorem Td {env2:Env} {s1 s2:St}:∀{kk:Option (Nat×Nat)},(∀k∈(kk.map (·.1)).toList,lk env2 k=lk env k)→BQ env2 s1 s2 kk=BQ env s1 s2 kk
 | none,_=>rfl
 | some (k,off),h=>by
  have h1:=h k (by simp)
  simp only [BQ,h1]
theorem I4 {env2:Env} {x:IX} (h:∀k∈x.slots,lk env2 k=lk env k):rd glob env2 x=rd glob env x:=by
 unfold rd;rw [NS (env2:=env2) (env:=env) h]
theorem I5 {env2:Env}:∀{as:List IX},(∀k∈as.flatMap IX.slots,lk env2 k=lk env k)→rds glob env2 as=rds glob env as
 | [],_=>rfl
 | x::r,h=>by
  unfold rds
  rw [I4 (env2:=env2) (env:=env) (fun k hk=>h k (by simp [hk])),I5 (as:=r) (fun k hk=>h k (by simp at hk ⊢;exact .inr hk))]
theorem Fa {d:Nat} {f:IX} {as:List IX} {kk:Option (Nat×Nat)} {out:Out} (h:dJ glob call cx ⟨some d,none,.callh d f as kk⟩ env s=out) (ho:out≠.fail):
  lk env d=none∧∃fv vs,rd glob env f=some fv∧rds glob env as=some vs∧((∃r s1,(call fv vs s cx=.ret r s1∧BQ env s s1 kk=true)∧out=.norm ((d,.v r)::env) s1)∨∃v s1,call fv vs s cx=.pan v s1∧out=.pan v s1):=by
 simp only [dJ,bY,aop] at h
 cases hk:lk env d with
 | some e=>rw [hk] at h;exact absurd h.symm ho
 | none=>
  rw [hk] at h
  simp only [] at h
  cases hf:rd glob env f with
  | none=>rw [hf] at h;exact absurd h.symm ho
  | some fv=>
   cases hv:rds glob env as with
   | none=>rw [hf,hv] at h;exact absurd h.symm ho
   | some vs=>
    rw [hf,hv] at h
    simp only [] at h
    refine ⟨rfl,fv,vs,rfl,rfl, ?_⟩
    cases hc:call fv vs s cx with
    | fail=>rw [hc] at h;exact absurd h.symm ho
    | pan v s1=>rw [hc] at h;exact .inr ⟨v,s1,rfl,h.symm⟩
    | ret r s1=>
     rw [hc] at h
     have hput:put env d (.v r)=(d,.v r)::env:=by unfold put;rw [hk]
     by_cases hkp:BQ env s s1 kk=true
     ·simp only [hkp,if_true,EV.refers,Bool.false_eq_true,if_false,hput] at h
      exact .inl ⟨r,s1,⟨rfl,hkp⟩,h.symm⟩
     ·simp only [hkp,if_false,Bool.false_eq_true] at h
      exact absurd h.symm ho
theorem Fb {d:Nat} {f:IX} {as:List IX} {kk:Option (Nat×Nat)} {fv:AV} {vs:List AV} (hk:lk env d=none) (hf:rd glob env f=some fv) (hv:rds glob env as=some vs):
  dJ glob call cx ⟨some d,none,.callh d f as kk⟩ env s=match call fv vs s cx with
   | .ret r s1=>if BQ env s s1 kk=true then .norm ((d,.v r)::env) s1 else .fail
   | .pan v s1=>.pan v s1
   | .fail=>.fail:=by
 have hput:∀e,put env d e=(d,e)::env:=fun e=>by unfold put;rw [hk]
 simp only [dJ,bY,aop,hk,hf,hv]
 cases call fv vs s cx with
 | ret r s1=>by_cases hkp:BQ env s s1 kk=true<;>simp [EV.refers,hput,hkp]
 | _=>simp [EV.refers,hput]
theorem zS {d:Nat} {f:IX} {as:List IX} {kk:Option (Nat×Nat)}:(AOp.callh d f as kk).quiet.isSome=false:=rfl
theorem Lc {o:aC} {d:Nat} {f:IX} {as:List IX} {kk:Option (Nat×Nat)} {e:EV} {fv:AV} {vs:List AV} (hnd:∀k∈d::((f.slots++as.flatMap IX.slots)++(kk.map (·.1)).toList),o.dst≠some k):
  lk (qM env o.dst e) d=lk env d∧rd glob (qM env o.dst e) f=rd glob env f∧rds glob (qM env o.dst e) as=rds glob env as∧∀s1 s2,BQ (qM env o.dst e) s1 s2 kk=BQ env s1 s2 kk:=
 ⟨cO (hnd d (by simp)),I4 (fun k hk=>cO (hnd k (by simp [hk]))),
  I5 (fun k hk=>cO (hnd k (List.mem_cons_of_mem _ (List.mem_append_left _ (List.mem_append_right _ hk))))),
  fun _ _=>Td (fun k hk=>cO (hnd k (List.mem_cons_of_mem _ (List.mem_append_right _ hk))))⟩
theorem acT {o:aC} {d:Nat} {f:IX} {as:List IX} {kk:Option (Nat×Nat)} (hq:o.op.quiet.isSome=true) (hnd:∀k∈d::((f.slots++as.flatMap IX.slots)++(kk.map (·.1)).toList),o.dst≠some k) (a3:∀k∈o.reads,¬k=d)
  {env1 env2:Env} {s1 s2:St} (h1:fE glob call cx o env s=.norm env1 s1) (h2:fE glob call cx ⟨some d,none,.callh d f as kk⟩ env1 s1=.norm env2 s2)
  (hsame:BQ env s s2 kk=true→∀e,qL glob call o env s=some e→qL glob call o env s2=some e):
  ∃f1 t1 f2,fE glob call cx ⟨some d,none,.callh d f as kk⟩ env s=.norm f1 t1∧fE glob call cx o f1 t1=.norm f2 s2∧EqE f2 env2:=by
 rw [bV hq] at h1
 rw [dV zS] at h2
 obtain ⟨rfl,e,hqv,hokd,rfl⟩:=fG.1 h1
 obtain ⟨hn,fv,vs,hf,hv,hcase⟩:=Fa h2 (by simp)
 have hod:o.dst≠some d:=hnd d (by simp)
 obtain ⟨g1,g2,g3,g4⟩:=Lc (glob:=glob) (env:=env) (e:=e) (fv:=fv) (vs:=vs) hnd
 rw [g1] at hn
 rw [g2] at hf
 rw [g3] at hv
 rcases hcase with ⟨r,t,⟨hc,hk⟩,hout⟩|⟨_,_,_,hout⟩
 ·cases hout
  rw [g4] at hk
  refine ⟨(d,.v r)::env,s2,qM ((d,.v r)::env) o.dst e,by rw [dV zS,Fb hn hf hv,hc];simp only [hk,if_true], ?_, ?_⟩
  ·rw [bV hq]
   have agr:Agr (fun k=>k=d) env ((d,.v r)::env):=⟨fun k hk=>(aT _ _ (Ne.symm hk)).symm,fun k e hk he _=>by subst hk;rw [hn] at he;cases he⟩
   refine fG.2 ⟨rfl,e,xQ agr (fun k hk hkd=>a3 k hk hkd) (hsame hk e hqv),fun dp hdp=>⟨(hokd dp hdp).1, ?_⟩,rfl⟩
   have:=(hokd dp hdp).2
   unfold jR at this ⊢
   rwa [aT _ _ (fun h=>hod (by rw [hdp,h]))]
  ·exact yZ (d1:=o.dst) (d2:=some d) (e1:=e) (e2:=.v r) (fun x hx hd=>hod (by rw [hx,hd]))
 ·cases hout
theorem AY {o p:aC} (h:(match p.callS with|some (d,l)=>oW o.dst (d::l) && o.reads.all (fun j=>j != d)|none=>false)=true):
  ∃d f as kk,p=⟨some d,none,.callh d f as kk⟩∧(∀k∈d::((f.slots++as.flatMap IX.slots)++(kk.map (·.1)).toList),o.dst≠some k)∧∀k∈o.reads,¬k=d:=by
 cases hcs:p.callS with
 | none=>rw [hcs] at h;cases h
 | some q=>
  obtain ⟨d,l⟩:=q
  rw [hcs] at h
  simp only [Bool.and_eq_true,List.all_eq_true,bne_iff_ne,ne_eq] at h
  obtain ⟨a2,a3⟩:=h
  obtain ⟨f,as,kk,rfl,rfl⟩:=Dy hcs
  refine ⟨d,f,as,kk,rfl,fun k hk hd=>?_,a3⟩
  rw [hd] at a2
  simp only [oW,List.all_eq_true,bne_iff_ne] at a2
  exact a2 k hk rfl
theorem afD {o p:aC} (hap:zW o p=true) {env1 env2:Env} {s1 s2:St} (h1:fE glob call cx o env s=.norm env1 s1) (h2:fE glob call cx p env1 s1=.norm env2 s2):
  ∃f1 t1 f2,fE glob call cx p env s=.norm f1 t1∧fE glob call cx o f1 t1=.norm f2 s2∧EqE f2 env2:=by
 simp only [zW,Bool.and_eq_true] at hap
 obtain ⟨a1,a2⟩:=hap
 obtain ⟨d,f,as,kk,rfl,hnd,a3⟩:=AY a2
 exact acT (qU a1) hnd a3 h1 h2 (fun _ e he=>by rw [FN a1 s2 s];exact he)
theorem Uo {o p:aC} (hap:Bl o p=true):∃a k off d f as,o.op=.loadv a k off∧o.guard=none∧p=⟨some d,none,.callh d f as (some (k,off))⟩∧
  (∀k'∈d::((f.slots++as.flatMap IX.slots)++((some (k,off)).map (·.1)).toList),o.dst≠some k')∧∀k'∈o.reads,¬k'=d:=by
 simp only [Bl,Bool.and_eq_true,Option.isNone_iff_eq_none] at hap
 obtain ⟨⟨a1,a2⟩,a3⟩:=hap
 obtain ⟨d,f,as,kk,rfl,hnd,hr⟩:=AY a3
 split at a1
 ·rename_i a k off d' f' as' k' off' ho hp
  injection hp with e1 e2 e3 e4
  subst e4
  simp only [Bool.and_eq_true,beq_iff_eq] at a1
  obtain ⟨rfl,rfl⟩:=a1
  exact ⟨a,k,off,d,f,as,ho,a2,rfl,hnd,hr⟩
 ·cases a1
theorem afu {o p:aC} (hap:Bl o p=true) {env1 env2:Env} {s1 s2:St} (h1:fE glob call cx o env s=.norm env1 s1) (h2:fE glob call cx p env1 s1=.norm env2 s2):
  ∃f1 t1 f2,fE glob call cx p env s=.norm f1 t1∧fE glob call cx o f1 t1=.norm f2 s2∧EqE f2 env2:=by
 obtain ⟨a,k,off,d,f,as,ho,hg,rfl,hnd,a3⟩:=Uo hap
 refine acT (by rw [ho];rfl) hnd a3 h1 h2 (fun hk e he=>?_)
 unfold qL at he ⊢
 rw [hg] at he ⊢
 simp only [bY] at he ⊢
 split at he
 ·rename_i hok
  rw [if_pos hok]
  rw [ho] at he ⊢
  simp only [aop] at he ⊢
  unfold BQ at hk
  dsimp only at hk
  cases hl:lk env k with
  | none=>rw [hl] at hk;cases hk
  | some x=>
   rw [hl] at hk he
   revert hk he
   cases ev glob env a with
   | none=>intro he hk;cases he
   | some y=>
    cases y with
    | v ya=>
     cases ya with
     | pt l o1=>
      cases x with
      | v xa=>
       cases xa with
       | pt l' o'=>
        intro he hk
        dsimp only at hk he ⊢
        by_cases hlo:l=l'∧o1=o'+off
        ·rw [if_pos hlo] at he ⊢
         obtain ⟨rfl,rfl⟩:=hlo
         cases hm:Xf s l (o'+off) with
         | none=>rw [hm] at hk;cases hk
         | some m=>
          cases hm2:Xf s2 l (o'+off) with
          | none=>rw [hm,hm2] at hk;cases hk
          | some m2=>
           rw [hm,hm2] at hk
           simp only [beq_iff_eq] at hk
           subst hk
           rw [hm] at he
           simpa using he
        ·rw [if_neg hlo] at he;cases he
       | _=>intro he hk;cases he
      | _=>intro he hk;cases he
     | _=>intro he hk;cases he
    | _=>intro he hk;cases he
 ·cases he
theorem SH {o:aC} {d:Nat} {f:IX} {as:List IX} {kk:Option (Nat×Nat)} (hq:o.op.quiet.isSome=true) (hnd:∀k∈d::((f.slots++as.flatMap IX.slots)++(kk.map (·.1)).toList),o.dst≠some k)
  {env1:Env} {s1:St} (h1:fE glob call cx o env s=.norm env1 s1) {v:AV} (h2:dJ glob call cx ⟨some d,none,.callh d f as kk⟩ env1 s1=.pan v s'):s1=s∧dJ glob call cx ⟨some d,none,.callh d f as kk⟩ env s=.pan v s':=by
 rw [bV hq] at h1
 obtain ⟨rfl,e,hqv,hokd,rfl⟩:=fG.1 h1
 obtain ⟨hn,fv,vs,hf,hv,hcase⟩:=Fa h2 (by simp)
 obtain ⟨g1,g2,g3,g4⟩:=Lc (glob:=glob) (env:=env) (e:=e) (fv:=fv) (vs:=vs) hnd
 rw [g1] at hn
 rw [g2] at hf
 rw [g3] at hv
 rcases hcase with ⟨_,_,_,hout⟩|⟨v',t,hc,hout⟩
 ·cases hout
 ·cases hout
  exact ⟨rfl,by rw [Fb hn hf hv,hc]⟩
theorem YH {o p:aC} (hap:zW o p=true∨Bl o p=true) {env1:Env} {s1:St} (h1:fE glob call cx o env s=.norm env1 s1) {v:AV} (h2:dJ glob call cx p env1 s1=.pan v s'):s1=s∧dJ glob call cx p env s=.pan v s':=by
 rcases hap with hap|hap
 ·simp only [zW,Bool.and_eq_true] at hap
  obtain ⟨a1,a2⟩:=hap
  obtain ⟨d,f,as,kk,rfl,hnd,_⟩:=AY a2
  exact SH (qU a1) hnd h1 h2
 ·obtain ⟨a,k,off,d,f,as,ho,hg,rfl,hnd,a3⟩:=Uo hap
  exact SH (by rw [ho];rfl) hnd h1 h2
theorem afC {o p:aC} (hap:QA o p=true) {env1 env2:Env} {s1 s2:St} (h1:fE glob call cx o env s=.norm env1 s1) (h2:fE glob call cx p env1 s1=.norm env2 s2):
  s2=s1∧∃f1 f2,fE glob call cx p env s=.norm f1 s∧fE glob call cx o f1 s=.norm f2 s1∧EqE f2 env2:=by
 simp only [QA,Bool.and_eq_true] at hap
 obtain ⟨a1,a2⟩:=hap
 obtain ⟨d,f,as,kk,rfl,hnd,a3⟩:=AY (o:=p) (p:=o) a2
 have hq:=qU a1
 rw [dV zS] at h1
 rw [bV hq] at h2
 obtain ⟨hn,fv,vs,hf,hv,hcase⟩:=Fa h1 (by simp)
 rcases hcase with ⟨r,t,⟨hc,hk⟩,hout⟩|⟨_,_,_,hout⟩
 ·cases hout
  obtain ⟨rfl,e,hqv,hokd,rfl⟩:=fG.1 h2
  have hpd:p.dst≠some d:=hnd d (by simp)
  have agr:Agr (fun k=>k=d) ((d,.v r)::env) env:=⟨fun k hk=>aT _ _ (Ne.symm hk),fun k e hk he ho=>by subst hk;rw [dB] at he;cases he;cases ho⟩
  have hqv':qL glob call p env s=some e:=by rw [FN a1 s s2];exact xQ agr (fun k hk hkd=>a3 k hk hkd) hqv
  have hok':okD env p.dst e:=fun dp hdp=>⟨(hokd dp hdp).1,by
   have:=(hokd dp hdp).2
   unfold jR at this ⊢
   rwa [aT _ _ (fun h=>hpd (by rw [hdp,h]))] at this⟩
  obtain ⟨g1,g2,g3,g4⟩:=Lc (glob:=glob) (env:=env) (e:=e) (fv:=fv) (vs:=vs) hnd
  refine ⟨rfl,qM env p.dst e,(d,.v r)::qM env p.dst e,by rw [bV hq];exact fG.2 ⟨rfl,e,hqv',hok',rfl⟩, ?_,yZ (d1:=some d) (d2:=p.dst) (e1:=.v r) (e2:=e) (fun x hx hd=>hpd (by cases hx;exact hd))⟩
  rw [dV zS,Fb (by rw [g1];exact hn) (by rw [g2];exact hf) (by rw [g3];exact hv),hc]
  simp only [g4,hk,if_true]
 ·cases hout
def UW (p:aC):Prop:=p.op.quiet.isSome=true∨(∃d zs,p=⟨some d,none,.lallocp d zs⟩)∨(∃op l,p=⟨none,none,op⟩∧op.heapy=some l∧VX op none=true)∨(∃n k x,p=⟨none,none,.storel n k x⟩)∨∃d f as kk,p=⟨some d,none,.callh d f as kk⟩
theorem LV {p:aC} (hp:UW p) (he:EqE env env2) {env1:Env} {s1:St} (h:fE glob call cx p env s=.norm env1 s1):∃env1',fE glob call cx p env2 s=.norm env1' s1∧EqE env1 env1':=by
 rcases hp with hq|⟨d,zs,rfl⟩|⟨op,l,rfl,hl,hd⟩|⟨n,k,x,rfl⟩|⟨d,f,as,kk,rfl⟩
 ·have hs:=BI hq h
  subst hs
  exact YD hq he h
 ·obtain ⟨h1,rfl,rfl⟩:=xU.1 h
  exact ⟨_,xU.2 ⟨by rw [←he];exact h1,rfl,rfl⟩,fun j=>by rw [gZ,gZ,he j]⟩
 ·rw [dV (uq hl)] at h ⊢
  obtain ⟨e,rfl,_,_,hrun⟩:=Au hl hd h
  exact ⟨_,hrun env2 (fun j _=>(he j).symm) (fun d hd=>by cases hd),he⟩
 ·obtain ⟨rfl,cs,xv,c1,c2,c3,rfl⟩:=CJ.1 h
  exact ⟨_,CJ.2 ⟨rfl,cs,xv,by rw [←he];exact c1,by rw [NS (env2:=env2) (env:=env) (fun j _=>(he j).symm)];exact c2,c3,rfl⟩,fun j=>by rw [gZ,gZ,he j]⟩
 ·rw [dV zS] at h ⊢
  obtain ⟨hn,fv,vs,hf,hv,hcase⟩:=Fa h (by simp)
  rcases hcase with ⟨r,t,⟨hc,hk⟩,hout⟩|⟨_,_,_,hout⟩
  ·cases hout
   refine ⟨(d,.v r)::env2, ?_,fun j=>by rw [gZ,gZ,he j]⟩
   rw [Fb (by rw [←he];exact hn) (by rw [I4 (env2:=env2) (env:=env) (fun j _=>(he j).symm)];exact hf) (by rw [I5 (env2:=env2) (env:=env) (fun j _=>(he j).symm)];exact hv),hc]
   simp only [Td (env2:=env2) (env:=env) (fun j _=>(he j).symm),hk,if_true]
  ·cases hout
theorem UQ {o p:aC} (h:apart o p=true):UW p:=by
 simp only [apart,Bool.or_eq_true] at h
 rcases h with ((((((((((h|h)|h)|h)|h)|h)|h)|h)|h)|h)|h)|h
 ·exact .inl (A7 h).2.1
 ·obtain ⟨_,_,d,n,x,rfl⟩:=MX h;exact .inl rfl
 ·exact .inl (MW h).2.2
 ·simp only [Qz,Bool.and_eq_true] at h
  have h4:=h.1.1.2
  exact .inl (qU h4)
 ·unfold Qs at h
  split at h
  ·exact .inr (.inr (.inl ⟨_,_,rfl,rfl,rfl⟩))
  ·cases h
 ·obtain ⟨pd,pg,pop⟩:=p
  simp only [Qx,Bool.and_eq_true,Option.isNone_iff_eq_none] at h
  obtain ⟨⟨⟨a1,a2⟩,_⟩,_⟩:=h
  subst a2
  split at a1
  ·rename_i d0 zs0 d1;simp at a1;subst a1;exact .inr (.inl ⟨_,_,rfl⟩)
  ·cases a1
 ·obtain ⟨pd,pg,pop⟩:=p
  simp only [Qy,Bool.and_eq_true,Option.isNone_iff_eq_none] at h
  obtain ⟨⟨⟨⟨_,a2⟩,a3⟩,a4⟩,a5⟩:=h
  subst a3 a4
  cases hl:pop.heapy with
  | none=>rw [hl] at a2;cases a2
  | some l=>exact .inr (.inr (.inl ⟨pop,l,rfl,hl,a5⟩))
 ·obtain ⟨pd,pg,pop⟩:=p
  simp only [Qu,Bool.and_eq_true,Option.isNone_iff_eq_none] at h
  obtain ⟨⟨⟨_,a2⟩,a3⟩,a4⟩:=h
  subst a2 a3
  cases pop<;>(try (cases a4;done))
  exact .inr (.inr (.inr (.inl ⟨_,_,_,rfl⟩)))
 ·simp only [zW,Bool.and_eq_true] at h
  cases hcs:p.callS with
  | none=>rw [hcs] at h;cases h.2
  | some q=>obtain ⟨f,as,kk,rfl,_⟩:=Dy hcs;exact .inr (.inr (.inr (.inr ⟨_,_,_,_,rfl⟩)))
 ·simp only [QA,Bool.and_eq_true] at h
  exact .inl (qU h.1)
 ·obtain ⟨a,k,off,d,f,as,ho,hg,rfl,hnd,a3⟩:=Uo h
  exact .inr (.inr (.inr (.inr ⟨_,_,_,_,rfl⟩)))
 ·obtain ⟨pd,pg,pop⟩:=p
  simp only [Qr,Bool.and_eq_true,Option.isNone_iff_eq_none] at h
  obtain ⟨⟨⟨a1,a2⟩,a3⟩,a4⟩:=h
  subst a3 a4
  split at a1
  ·exact .inr (.inr (.inl ⟨_,_,rfl,rfl,rfl⟩))
  ·cases a1
theorem swap {o p:aC} (hap:apart o p=true) {env1 env2:Env} {s1 s2:St} (h1:fE glob call cx o env s=.norm env1 s1) (h2:fE glob call cx p env1 s1=.norm env2 s2):
  ∃f1 t1 f2,fE glob call cx p env s=.norm f1 t1∧fE glob call cx o f1 t1=.norm f2 s2∧EqE f2 env2:=by
 simp only [apart,Bool.or_eq_true] at hap
 rcases hap with ((((((((((hap|hap)|hap)|hap)|hap)|hap)|hap)|hap)|hap)|hap)|hap)|hap
 ·have ho:=(A7 hap).1
  have hp2:=(A7 hap).2.1
  have e1:=BI ho h1
  subst e1
  have e2:=BI hp2 h2
  subst e2
  rw [bV ho] at h1
  rw [bV hp2] at h2
  obtain ⟨f1,f2,q1,q2,q3⟩:=Yz hap h1 h2
  exact ⟨f1,_,f2,by rw [bV hp2];exact q1,by rw [bV ho];exact q2,q3⟩
 ·obtain ⟨rfl,rfl,f1,f2,q⟩:=afy hap h1 h2
  exact ⟨f1,_,f2,q⟩
 ·obtain ⟨rfl,f1,f2,q⟩:=afx hap h1 h2
  exact ⟨f1,_,f2,q⟩
 ·obtain ⟨rfl,f1,f2,q⟩:=afB hap h1 h2
  exact ⟨f1,_,f2,q⟩
 ·exact afv hap h1 h2
 ·exact afz hap h1 h2
 ·exact afA hap h1 h2
 ·exact afw hap h1 h2
 ·exact afD hap h1 h2
 ·obtain ⟨rfl,f1,f2,q⟩:=afC hap h1 h2
  exact ⟨f1,_,f2,q⟩
 ·exact afu hap h1 h2
 ·exact aft hap h1 h2
theorem bubble {i:Nat} {q:List Nat} {oi:aC} (hoi:aops[i]?=some oi) (hmv:UW oi):∀(p:List Nat),(∀j∈p,IK aops j i)→∀{env:Env} {s:St},Runs glob call cx aops (p++i::q) env s env' s'→
  ∃env1 s1,fE glob call cx oi env s=.norm env1 s1∧Runs glob call cx aops (p++q) env1 s1 env' s'
 | [],_,env,s,h=>by
  obtain ⟨o,e0,e1,s1,ho,he,hr,h2⟩:=h
  rw [hoi] at ho;cases ho
  obtain ⟨e3,h3,h4⟩:=LV hmv he.symm hr
  exact ⟨e3,s1,h3,h2.eqE h4.symm⟩
 | j::p,hap,env,s,h=>by
  obtain ⟨oj,e0,ej,sj,hoj,he,hrj,hrest⟩:=h
  obtain ⟨ei,si,hri,h4⟩:=bubble hoi hmv p (fun k hk=>hap k (by simp [hk])) hrest
  obtain ⟨o1,o2,h1,h2,hapr⟩:=hap j (by simp)
  rw [hoj] at h1;cases h1
  rw [hoi] at h2;cases h2
  obtain ⟨f1,t1,f2,q1,q2,q3⟩:=swap hapr hrj hri
  obtain ⟨f3,q4,q5⟩:=LV hmv he.symm q1
  exact ⟨f3,t1,q4,oj,f1,f2,_,hoj,q5.symm,q2,h4.eqE q3⟩
theorem LP {F:Fence} {n i b0:Nat} {N:Wd} {ls:List Nat} {o:Oper} {ao:aC} {Q:Exit→Act→World→Prop} {K:Act→World→Prop} (hcall:qj qt P glob call) (hext:gB call) (hF:isF F) (h:Fr P glob g s B w a env N b0 ls)
  (hi:ops[i]?=some o) (hc:tZ P N ops o ao=true) (hr:yM glob call ao env s=.norm env' s)
  (hK:∀g' w' a',Step qt g s.length B w g' s.length w'→Fr P glob g' s B w' a' env' N b0 ls→K a' w'):wpOpIn F n P ops Q i K a w:=by
 obtain ⟨_,e,hq,hd,rfl⟩:=fG.1 hr
 have hcx:fA ⟨s.length,s.length⟩ s:=⟨Nat.le_refl _,Nat.le_refl _⟩
 have key:∃env1,dJ glob call ⟨s.length,s.length⟩ ao env s=.norm env1 s∧EqE env1 (qM env ao.dst e):=by
  unfold qL at hq
  unfold dJ
  split at hq
  ·cases hq
  ·rename_i hw
   cases hq
   try simp only [hw]
   cases hdst:ao.dst with
   | none=>exact ⟨env,rfl,fun _=>rfl⟩
   | some d=>exact ⟨_,rfl,fun k=>by rw [J9 (hd d hdst).2];rfl⟩
  ·rename_i hw
   try simp only [hw]
   split at hq
   ·rename_i hok
    split at hq
    ·rename_i e1 env1 s1 ha
     split at hq
     ·rename_i hc2
      cases hq
      have hx:Ext ⟨s.length,s.length⟩ s s1:=UR hext hcx ha
      have hs:s1=s:=by
       apply List.ext_getElem?
       intro l
       by_cases hl:l<s.length
       ·exact hx.lim l hl
       ·rw [List.getElem?_eq_none (by omega),List.getElem?_eq_none (by omega)]
      subst hs
      unfold okQ at hok
      split at hok
      ·rename_i rs es hqu
       simp only [Bool.and_eq_true] at hok
       obtain ⟨hl,_⟩:=Yl (Agr.refl env) hqu (fun x _ k _ hf=>hf) hok.1 hok.2 ha
       rw [ha]
       simp only []
       cases hdst:ao.dst with
       | none=>exact ⟨env1,rfl,hl⟩
       | some d=>
        obtain ⟨d1,d2⟩:=hd d hdst
        simp only [d1]
        refine ⟨_,rfl,fun k=>?_⟩
        rw [J9 (by unfold jR at d2 ⊢;rw [hl d];exact d2)]
        exact (EqE.put (env:=env1) (env2:=env) hl (some d) e) k
      ·cases hok
     ·cases hq
    ·cases hq
   ·cases hq
 obtain ⟨env1,hr1,he⟩:=key
 exact Es hcall hext hF hcx h hi hc hr1 (fun g' w' a' hs hf=>hK g' w' a' hs (hf.eqE he))
end Go.Ai
namespace Go.Ai
variable {qt:Prop} {P:Program} {glob:Nat→Option (List AV)} {g:ah} {s:St} {B:Nat} {w:World} {env env2:Env} {a:Act} {call:AV→List AV→St→Ctx→CO} {cx:Ctx} {env':Env} {s':St} {ops:Array Oper} {aops:List aC}
theorem Dx {N:Wd} {all:Array Oper}:∀(os:List Oper) (aos:List aC),jK P N all os aos=true→∀(i:Nat) (o:Oper),os[i]?=some o→∃ao,aos[i]?=some ao∧tZ P N all o ao=true
 | [],_,_,i,o,h=>by simp at h
 | o::os,[],hc,_,_,_=>by simp [jK] at hc
 | o::os,ao::aos,hc,i,o',h=>by
  simp only [jK,Bool.and_eq_true] at hc
  cases i with
  | zero=>simp at h;subst h;exact ⟨ao,rfl,hc.1⟩
  | succ i=>simp at h;simpa using Dx os aos hc.2 i o' h
theorem acp {F:Fence} {n b0:Nat} {N:Wd} {ls:List Nat} {Q:Exit→Act→World→Prop} (hcall:qj qt P glob call) (hext:gB call) (hF:isF F)
  (hops:∀(i:Nat) (o:Oper),ops[i]?=some o→∃ao,aops[i]?=some ao∧tZ P N ops o ao=true):
  ∀(fuel:Nat) (listed:Array Bool) (l:List Nat) {env:Env} {g:ah} {s:St} {w:World} {a:Act},l.length=fuel→Inv ops aops listed l→
    Runs glob call cx aops l env s env' s'→fA cx s→Fr P glob g s B w a env N b0 ls→
    (∀g' w' a',Step qt g s.length B w g' s'.length w'→Fr P glob g' s' B w' a' env' N b0 ls→Q .normal a' w')→wpAnyIn F n P .any ops Q fuel listed a w:=by
 intro fuel
 induction fuel with
 | zero=>
  intro listed l env g s w a hlen hinv hrun hcx hfr hQ
  have hnil:l=[]:=List.eq_nil_of_length_eq_zero hlen
  subst hnil
  obtain ⟨he,rfl⟩:=hrun
  exact ⟨hinv.nil_ready,hQ g w a (.refl _ _ _ _) (hfr.eqE he)⟩
 | succ fuel ih=>
  intro listed l env g s w a hlen hinv hrun hcx hfr hQ
  refine ⟨fun h0=>?_,fun i hi=>?_⟩
  ·cases l with
   | nil=>cases hlen
   | cons j t=>have:=hinv.head_ready;rw [h0] at this;cases this
  ·have hmem:=hinv.ready_mem hi
   obtain ⟨_,o,ho,_⟩:=mem_ready.1 hi
   obtain ⟨ao,hao,hchk⟩:=hops i o ho
   obtain ⟨p,q,rfl⟩:=List.append_of_mem hmem
   have hpair:∀j∈p,IK aops j i:=by
    intro j hj
    have:=(List.pairwise_append.1 hinv.pairs).2.2 j hj i (by simp)
    rcases this with h1|h1
    ·exact absurd h1 (hinv.not_reach hi (by simp [hj]))
    ·exact h1
   have hinv':Inv ops aops (listed.setIfInBounds i true) (p++q):=hinv.remove hi
   have hlen':(p++q).length=fuel:=by simp at hlen ⊢;omega
   have loudCase:∀{env1:Env} {s1:St},ao.op.quiet.isSome=false→(∃e0,EqE env e0∧dJ glob call cx ao e0 s=.norm env1 s1)→Runs glob call cx aops (p++q) env1 s1 env' s'→wpOpIn F n P ops Q i (fun a' w'=>wpAnyIn F n P .any ops Q fuel (listed.setIfInBounds i true) a' w') a w:=by
    intro env1 s1 hqq ⟨e0,he,hr1⟩ hrest
    have hx:Ext cx s s1:=nC hext hcx (o:=ao) (by rw [hr1];rfl)
    exact Es hcall hext hF hcx (hfr.eqE he) ho hchk hr1 (fun g1 w1 a1 st1 hf1=>ih _ (p++q) hlen' hinv' hrest (hcx.ext hx) hf1 (fun g2 w2 a2 st2 hf2=>hQ g2 w2 a2 (st1.trans st2) hf2))
   cases hqq:ao.op.quiet.isSome with
   | true=>
    obtain ⟨env1,s1,hr1,hrest⟩:=bubble hao (.inl hqq) p hpair hrun
    have hs:=BI hqq hr1
    subst hs
    rw [bV hqq] at hr1
    exact LP hcall hext hF hfr ho hchk hr1 (fun g1 w1 a1 st1 hf1=>ih _ (p++q) hlen' hinv' hrest hcx hf1 (fun g2 w2 a2 st2 hf2=>hQ g2 w2 a2 (st1.trans st2) hf2))
   | false=>
    cases p with
    | cons j p=>
     obtain ⟨o1,o2,h1,h2,hapr⟩:=hpair j (by simp)
     rw [hao] at h2;cases h2
     obtain ⟨env1,s1,hr1,hrest⟩:=bubble hao (UQ hapr) (j::p) hpair hrun
     rw [dV hqq] at hr1
     exact loudCase hqq ⟨env,.refl _,hr1⟩ hrest
    | nil=>
     obtain ⟨o',e0,env1,s1,ho',he,hr1,hrest⟩:=hrun
     rw [hao] at ho';cases ho'
     rw [dV hqq] at hr1
     exact loudCase hqq ⟨e0,he,hr1⟩ hrest
theorem Hq {b0:Nat} {N:Wd} {ls:List Nat}:∀(ts:List Nat) {g:ah} {env:Env},Fr P glob g s B w a env N b0 ls→∃g',Step qt g s.length B w g' s.length w∧Fr P glob g' s B w a (BB env ts) N b0 ls
 | [],g,env,h=>⟨g,.refl _ _ _ _,h⟩
 | k::ts,g,env,h=>by
  unfold BB
  split
  ·rename_i tip t sz es hk
   obtain ⟨g1,st1,hs1,_⟩:=FV h.sim hk
   obtain ⟨g2,st2,h2⟩:=Hq ts (h.next hs1 rfl rfl st1.le (fun _ hh=>hh) (fun _ _=>rfl))
   exact ⟨g2,st1.weak.trans st2,h2⟩
  ·exact Hq ts h
theorem JL:∀(π seen:List Nat),NW ops π seen=true→(∀i∈π,i<ops.size)∧π.Nodup∧(∀i∈π,i ∉ seen)∧∀p i q,π=p++i::q→∀e∈tC ops i,e∈seen∨e∈p
 | [],seen,_=>⟨fun _ h=>(by cases h),List.nodup_nil,fun _ h=>(by cases h),fun p i q h=>by simp at h⟩
 | i::r,seen,h=>by
  simp only [NW,Bool.and_eq_true,decide_eq_true_eq,List.all_eq_true,Bool.not_eq_true',List.contains_eq_mem,decide_eq_false_iff_not] at h
  obtain ⟨⟨⟨h1,h2⟩,h3⟩,h4⟩:=h
  obtain ⟨a1,a2,a3,a4⟩:=JL r (i::seen) h4
  refine ⟨fun j hj=>?_,List.nodup_cons.2 ⟨fun hh=>a3 i hh (by simp),a2⟩,fun j hj=>?_,fun p k q heq e he=>?_⟩
  ·rcases List.mem_cons.1 hj with rfl|hj
   ·exact h1
   ·exact a1 j hj
  ·rcases List.mem_cons.1 hj with rfl|hj
   ·exact h2
   ·exact fun hh=>a3 j hj (by simp [hh])
  ·cases p with
   | nil=>simp at heq;obtain ⟨rfl,rfl⟩:=heq;exact .inl (h3 e he)
   | cons x p=>
    simp at heq
    obtain ⟨rfl,rfl⟩:=heq
    rcases a4 p k q rfl e he with h5|h5
    ·rcases List.mem_cons.1 h5 with rfl|h5
     ·exact .inr (by simp)
     ·exact .inl h5
    ·exact .inr (by simp [h5])
theorem Ko:∀{π:List Nat} {c:Nat} {oc:aC},YI aops π=some (c,oc)→c∈π∧aops[c]?=some oc∧oc.callS.isSome=true
 | [],c,oc,h=>by cases h
 | i::r,c,oc,h=>by
  unfold YI at h
  split at h
  ·rename_i o ho
   split at h
   ·rename_i hc;cases h;exact ⟨by simp,ho,hc⟩
   ·obtain ⟨h1,h2⟩:=Ko h;exact ⟨by simp [h1],h2⟩
  ·obtain ⟨h1,h2⟩:=Ko h;exact ⟨by simp [h1],h2⟩
theorem Hw {c:Nat} {oc:aC} (hoc:aops[c]?=some oc):∀(l:List Nat) (seen:Bool),l.Pairwise (fun j i=>Reach ops i j∨IK aops j i)→(seen=true→∀i∈l,Reach ops i c∨IK aops c i)→(∀i∈l,∃o,aops[i]?=some o)→
  (yx aops c oc seen l).Sublist l∧∀i∈l,i∈yx aops c oc seen l∨i=c∨Reach ops i c
 | [],seen,_,_,_=>⟨.slnil,fun i h=>by cases h⟩
 | i::r,seen,hp,hs,ha=>by
  obtain ⟨hp1,hp2⟩:=List.pairwise_cons.1 hp
  unfold yx
  by_cases hic:i=c
  ·rw [if_pos hic]
   subst hic
   obtain ⟨h1,h2⟩:=Hw hoc r true hp2 (fun _ j hj=>hp1 j hj) (fun j hj=>ha j (by simp [hj]))
   refine ⟨h1.cons _,fun j hj=>?_⟩
   rcases List.mem_cons.1 hj with rfl|hj
   ·exact .inr (.inl rfl)
   ·exact h2 j hj
  ·rw [if_neg hic]
   obtain ⟨o,ho⟩:=ha i (by simp)
   rw [ho]
   simp only []
   obtain ⟨h1,h2⟩:=Hw hoc r seen hp2 (fun hs' j hj=>hs hs' j (by simp [hj])) (fun j hj=>ha j (by simp [hj]))
   split
   ·rename_i hc
    simp only [Bool.and_eq_true,Bool.not_eq_true'] at hc
    refine ⟨h1.cons _,fun j hj=>?_⟩
    rcases List.mem_cons.1 hj with rfl|hj
    ·rcases hs hc.1 j (by simp) with h3|⟨o1,o2,q1,q2,q3⟩
     ·exact .inr (.inr h3)
     ·rw [hoc] at q1;cases q1
      rw [ho] at q2;cases q2
      rw [hc.2] at q3;cases q3
    ·exact h2 j hj
   ·refine ⟨h1.cons_cons _,fun j hj=>?_⟩
    rcases List.mem_cons.1 hj with rfl|hj
    ·exact .inl (by simp)
    ·rcases h2 j hj with h3|h3
     ·exact .inl (by simp [h3])
     ·exact .inr h3
theorem XW {R:Nat→Nat→Prop} {c:Nat}:∀(π:List Nat),π.Pairwise R→c∈π→∀j∈π.takeWhile (fun x=>x != c),R j c
 | [],_,hc,_,_=>by cases hc
 | i::r,hp,hc,j,hj=>by
  obtain ⟨hp1,hp2⟩:=List.pairwise_cons.1 hp
  by_cases hic:i=c
  ·subst hic;simp at hj
  ·rw [List.takeWhile_cons_of_pos (by simpa using hic)] at hj
   have hcr:c∈r:=by
    rcases List.mem_cons.1 hc with h|h
    ·exact absurd h.symm hic
    ·exact h
   rcases List.mem_cons.1 hj with rfl|hj
   ·exact hp1 c hcr
   ·exact XW r hp2 hcr j hj
theorem YE {op:AOp} (h:op.pre=true):op.quiet.isSome=true:=by
 cases op<;>first|rfl|exact qU h
theorem Wv {o p:aC} (h:apart o p=true) (hcs:p.callS.isSome=true):zW o p=true∨Bl o p=true:=by
 obtain ⟨q,hq⟩:=Option.isSome_iff_exists.1 hcs
 obtain ⟨f,as,kk,rfl,_⟩:=Dy (d:=q.1) (l:=q.2) hq
 simp only [apart,Bool.or_eq_true] at h
 rcases h with ((((((((((h|h)|h)|h)|h)|h)|h)|h)|h)|h)|h)|h
 ·simp [QB,AOp.quiet] at h
 ·simp [Qw] at h
 ·simp [Qv,AOp.quiet] at h
 ·simp [Qz,AOp.free] at h
 ·unfold Qs at h;split at h<;>first | (rename_i h2;cases h2;done)|cases h
 ·simp [Qx] at h
 ·simp [Qy] at h
 ·simp [Qu] at h
 ·exact .inl h
 ·simp [QA,AOp.free] at h
 ·exact .inr h
 ·simp [Qr] at h
theorem TI {oc:aC} (hcs:oc.callS.isSome=true) (he:EqE env env2) {s1:St} {v:AV} (h:dJ glob call cx oc env2 s=.pan v s1):dJ glob call cx oc env s=.pan v s1:=by
 obtain ⟨q,hq⟩:=Option.isSome_iff_exists.1 hcs
 obtain ⟨f,as,kk,rfl,_⟩:=Dy (d:=q.1) (l:=q.2) hq
 obtain ⟨hn,fv,vs,hf,hv,hcase⟩:=Fa h (by simp)
 rcases hcase with ⟨_,_,⟨_,_⟩,hout⟩|⟨v',t,hc,hout⟩
 ·cases hout
 ·cases hout
  rw [Fb (by rw [he];exact hn) (by rw [I4 (env2:=env) (env:=env2) (fun j _=>he j)];exact hf) (by rw [I5 (env2:=env) (env:=env2) (fun j _=>he j)];exact hv),hc]
theorem Ve {oc:aC} (hcs:oc.callS.isSome=true) {v:AV} {env1:Env} {s1:St}:∀(pl:List Nat),(∀j∈pl,∃oj,aops[j]?=some oj∧oj.op.pre=true∧(zW oj oc=true∨Bl oj oc=true))→∀{env:Env} {s:St},Runs glob call cx aops pl env s env1 s1→dJ glob call cx oc env1 s1=.pan v s'→
  dJ glob call cx oc env s=.pan v s'
 | [],_,env,s,hr,h=>by
  obtain ⟨he,rfl⟩:=hr
  exact TI hcs he h
 | j::r,hf,env,s,hr,h=>by
  obtain ⟨o,e0,e1,s2,ho,he,hr1,hrest⟩:=hr
  have h2:=Ve hcs r (fun k hk=>hf k (by simp [hk])) hrest h
  obtain ⟨oj,q1,q2,q3⟩:=hf j (by simp)
  rw [ho] at q1;cases q1
  obtain ⟨rfl,h3⟩:=YH q3 hr1 h2
  exact TI hcs he h3
theorem aaY {F:Fence} {n b0:Nat} {N:Wd} {ls:List Nat} {Q:Exit→Act→World→Prop} (hcall:qj qt P glob call) (hext:gB call) (hF:isF F)
  (hops:∀(i:Nat) (o:Oper),ops[i]?=some o→∃ao,aops[i]?=some ao∧tZ P N ops o ao=true) {c:Nat} {oc:aC} {v:AV} {env1:Env} {s1:St} (hoc:aops[c]?=some oc) (hcs:oc.callS.isSome=true) (hpan:dJ glob call cx oc env1 s1=.pan v s'):
  ∀(fuel:Nat) (listed:Array Bool) (l pl:List Nat) {env:Env} {g:ah} {s:St} {w:World} {a:Act},l.length=fuel→Inv ops aops listed l→c∈l→pl.Sublist l→(∀i∈l,i∈pl∨i=c∨Reach ops i c)→(∀j∈pl,∃oj,aops[j]?=some oj∧oj.op.pre=true∧((zW oj oc=true∨Bl oj oc=true)∨Reach ops c j))→
    Runs glob call cx aops pl env s env1 s1→fA cx s→Fr P glob g s B w a env N b0 ls→
    (∀u g' w' a',Step qt g s.length B w g' s'.length w'→Fr P glob g' s' B w' a' [] N b0 ls→Rep g' s'.length u v→Q (.panic [{ v:=u,recovered:=false }]) a' w')→wpAnyIn F n P .any ops Q fuel listed a w:=by
 intro fuel
 induction fuel with
 | zero=>
  intro listed l pl env g s w a hlen hinv hcl hsub hcov hfree hrun hcx hfr hQ
  have hnil:l=[]:=List.eq_nil_of_length_eq_zero hlen
  subst hnil
  cases hcl
 | succ fuel ih=>
  intro listed l pl env g s w a hlen hinv hcl hsub hcov hfree hrun hcx hfr hQ
  refine ⟨fun h0=>?_,fun i hi=>?_⟩
  ·cases l with
   | nil=>cases hlen
   | cons j t=>have:=hinv.head_ready;rw [h0] at this;cases this
  ·have hmem:=hinv.ready_mem hi
   obtain ⟨_,o,ho,_⟩:=mem_ready.1 hi
   obtain ⟨ao,hao,hchk⟩:=hops i o ho
   by_cases hic:i=c
   ·subst hic
    rw [hoc] at hao;cases hao
    exact aam hcall hext hF hcx hfr ho hchk (Ve hcs pl (fun j hj=>by
     obtain ⟨oj,q1,q2,q3⟩:=hfree j hj
     exact ⟨oj,q1,q2,q3.elim id (fun h=>absurd h (hinv.not_reach hi (hsub.subset hj)))⟩) hrun hpan) hQ
   ·rcases hcov i hmem with hip|hip|hip
    ·obtain ⟨p,q,rfl⟩:=List.append_of_mem hip
     obtain ⟨p0,q0,rfl⟩:=List.append_of_mem hmem
     obtain ⟨oi,q1,q2,q3⟩:=hfree i (by simp)
     rw [hao] at q1;cases q1
     have hqq:ao.op.quiet.isSome=true:=YE q2
     have hnd:=hinv.nd
     have hni0:i ∉ p0:=by
      rw [List.nodup_append] at hnd
      exact fun h=>hnd.2.2 i h i (by simp) rfl
     have hni:i ∉ p:=by
      have h1:=hsub.nodup hnd
      rw [List.nodup_append] at h1
      exact fun h=>h1.2.2 i h i (by simp) rfl
     have hsub':(p++q).Sublist (p0++q0):=by
      have:=hsub.erase i
      rwa [List.erase_append_right _ hni,List.erase_append_right _ hni0,List.erase_cons_head,List.erase_cons_head] at this
     have hpair:∀j∈p,IK aops j i:=by
      intro j hj
      have:=(List.pairwise_append.1 (hinv.pairs.sublist hsub)).2.2 j hj i (by simp)
      rcases this with h1|h1
      ·exact absurd h1 (hinv.not_reach hi (hsub.subset (by simp [hj])))
      ·exact h1
     obtain ⟨env2,s2,hr1,hrest⟩:=bubble hao (.inl hqq) p hpair hrun
     have hs:=BI hqq hr1
     subst hs
     rw [bV hqq] at hr1
     refine LP hcall hext hF hfr ho hchk hr1 (fun g1 w1 a1 st1 hf1=>ih _ (p0++q0) (p++q) (by simp at hlen ⊢;omega) (hinv.remove hi) ?_ hsub' (fun j hj=>?_) (fun j hj=>hfree j (by rcases List.mem_append.1 hj with h|h<;>simp [h])) hrest hcx hf1 (fun u g2 w2 a2 st2 hf2 hr2=>hQ u g2 w2 a2 (st1.trans st2) hf2 hr2))
     ·rcases List.mem_append.1 hcl with h|h
      ·exact List.mem_append_left _ h
      ·rcases List.mem_cons.1 h with h|h
       ·exact absurd h.symm hic
       ·exact List.mem_append_right _ h
     ·have hji:j≠i:=fun h=>by
       subst h
       rcases List.mem_append.1 hj with h|h
       ·exact hni0 h
       ·rw [List.nodup_append] at hnd
        exact (List.nodup_cons.1 hnd.2.1).1 h
      rcases hcov j (by rcases List.mem_append.1 hj with h|h<;>simp [h]) with h|h
      ·rcases List.mem_append.1 h with h|h
       ·exact .inl (by simp [h])
       ·rcases List.mem_cons.1 h with h|h
        ·exact absurd h hji
        ·exact .inl (by simp [h])
      ·exact .inr h
    ·exact absurd hip hic
    ·exact absurd hip (hinv.not_reach hi hcl)
theorem VY {π:List Nat} (hdr:JO ops aops π=true):π.length=ops.size∧Inv ops aops (Array.replicate ops.size false) π:=by
 simp only [JO,Bool.and_eq_true,beq_iff_eq,List.all_eq_true,List.mem_range,List.contains_eq_mem,decide_eq_true_eq] at hdr
 obtain ⟨⟨⟨hlen,hall⟩,htopo⟩,hpairs⟩:=hdr
 obtain ⟨t1,t2,_,t4⟩:=JL π [] htopo
 have hpw:=Hf (ops:=ops) (O8 π [] (fun e j h=>by simp [Il] at h)) π hpairs
 refine ⟨hlen,by simp,fun j hj=>?_,t1,t2,hpw,fun i hi=>?_,fun p i q heq e he=>?_⟩
 ·simp [Array.getD_eq_getD_getElem?,hj];exact hall j hj
 ·exfalso
  rw [Array.getD_eq_getD_getElem?] at hi
  by_cases hlt:i<ops.size<;>simp [hlt] at hi
 ·rcases t4 p i q heq e he with h|h
  ·cases h
  ·exact .inr h
theorem aco (hM:P.follows .mixedOrders=true) (hcall:qj qt P glob call) (hext:gB call):FC qt P glob call:=by
 have start:∀{g:ah} {s:St} {B:Nat} {w:World} {a:Act} {env:Env} {b0:Nat} {N:Wd} {ls ts:List Nat},Fr P glob g s B w a env N b0 ls→
   ∃g1,Step qt g s.length B w g1 s.length { w with drawn:=w.drawn+1 }∧Fr P glob g1 s B { w with drawn:=w.drawn+1 } a (BB env ts) N b0 ls:=by
  intro g s B w a env b0 N ls ts hfr
  have hfr0:Fr P glob g s B { w with drawn:=w.drawn+1 } a env N b0 ls:=by
   refine hfr.next ⟨hfr.sim.base.grew (qt:=False) ⟨Nat.le_refl _,fun _ _=>rfl,rfl,rfl,fun h=>h.elim⟩,hfr.sim.env.next (.refl _ _) (fun k e hk ho b hb=>⟨rfl,rfl,rfl,fun ht=>ht⟩),hfr.sim.B⟩ rfl rfl (.refl _ _) (fun _ h=>h) (fun _ _=>rfl)
  have hst0:Step qt g s.length B w g s.length { w with drawn:=w.drawn+1 }:=⟨.refl _ _,Nat.le_refl _,fun _ _ _=>rfl,fun _ _ _=>rfl,fun _ _=>rfl,fun b hb=>.inl hb,rfl,rfl,fun _=>⟨rfl,Nat.le_succ _⟩⟩
  obtain ⟨g1,st1,hf1⟩:=Hq ts hfr0
  exact ⟨g1,hst0.trans st1,hf1⟩
 constructor
 ·intro F n id B b0 N ls ops aops π ts Q cx g s s' w a env env' hF hops hdr hcx hfr hrun hQ
  obtain ⟨hlen,hinv⟩:=VY hdr
  refine wpIn_region_any hM ?_
  obtain ⟨g1,st1,hf1⟩:=start (ts:=ts) hfr
  simp only [ou] at hrun
  replace hrun:gY glob call cx aops π (BB env ts) s=.norm env' s':=by
   cases hd:gY glob call cx aops π (BB env ts) s with
   | pan v s1=>
    rw [hd] at hrun
    obtain ⟨_,_,_,_,_,_,_,_,_,_,h3⟩:=Az (show zo glob call cx aops π (BB env ts) s=.norm env' s' from hrun) (by simp)
    cases h3
   | _=>rw [hd] at hrun;exact hrun
  exact acp hcall hext hF (fun i o ho=>Dx _ _ hops i o (by simpa using ho)) ops.size _ π hlen hinv (TY π hrun) hcx hf1 (fun g2 w2 a2 st2 hf2=>hQ g2 w2 a2 (st1.trans st2) hf2)
 ·intro F n id B b0 N ls ops aops π ts Q cx g s s' w a env v hF hops hdr hcx hfr hrun hQ
  obtain ⟨hlen,hinv⟩:=VY hdr
  refine wpIn_region_any hM ?_
  obtain ⟨g1,st1,hf1⟩:=start (ts:=ts) hfr
  simp only [ou] at hrun
  replace hrun:zo glob call cx aops π (BB env ts) s=.pan v s':=by
   cases hd:gY glob call cx aops π (BB env ts) s with
   | pan v s1=>rw [hd] at hrun;exact hrun
   | _=>rw [hd] at hrun;cases hrun
  obtain ⟨c,oc,env1,s1,v',s2,hpc,hall,hr1,hr2,h3⟩:=Az hrun (by simp)
  cases h3
  obtain ⟨hcm,hoc,hcs⟩:=Ko hpc
  have hops':∀(i:Nat) (o:Oper),ops[i]?=some o→∃ao,aops[i]?=some ao∧tZ P N ops o ao=true:=fun i o ho=>Dx _ _ hops i o (by simpa using ho)
  obtain ⟨hsub,hcov⟩:=Hw (ops:=ops) hoc π false hinv.pairs (fun h=>by cases h) (fun i hi=>by
   have hlt:=hinv.lt i hi
   obtain ⟨ao,h1,_⟩:=hops' i (ops[i]'hlt) (by simp [hlt])
   exact ⟨ao,h1⟩)
  refine aaY hcall hext hF hops' hoc hcs hr2 ops.size _ π _ hlen hinv hcm hsub hcov (fun j hj=>?_) (TY _ hr1) hcx hf1 (fun u g2 w2 a2 st2 hf2 hr3=>hQ u g2 w2 a2 (st1.trans st2) hf2 hr3)
  have:=List.all_eq_true.1 hall j hj
  split at this
  ·rename_i oj hoj
   simp only [Bool.and_eq_true,Bool.or_eq_true,List.contains_eq_mem,decide_eq_true_eq] at this
   refine ⟨oj,hoj,this.1, ?_⟩
   rcases this.2 with (h|h)|h
   ·exact .inl (.inl h)
   ·exact .inl (.inr h)
   ·rcases XW π hinv.pairs hcm j h with h|⟨o1,o2,q1,q2,q3⟩
    ·exact .inr h
    ·rw [hoj] at q1;cases q1
     rw [hoc] at q2;cases q2
     exact .inl (Wv q3 hcs)
  ·cases this
end Go.Ai
