/-
 Open regions: operations change places.
-/
import Derived.Test.YtdjjghikaijfpaaGreatDoorAiD2
import Derived.Test.YtdjjghikaijfpaaGreatDoorAiA8
set_option maxRecDepth 100000
set_option linter.unusedSimpArgs false
set_option linter.unusedVariables false
set_option linter.unusedSectionVars false
namespace Go.Ai
variable {qt:Prop} {P:Program} {glob:Nat→Option (List AV)} {g:ah} {s:St} {B:Nat} {w:World} {env env2:Env} {a:Act} {call:AV→List AV→St→Ctx→CO} {cx:Ctx} {env':Env} {s':St} {ops:Array Oper} {aops:List aG}
theorem cO {o:aG} (h:o.op.quiet.isSome=true):iD glob call cx o env s=Ah glob call o env s:=by
 unfold iD;rw [if_pos h]
theorem fH {o:aG} (h:o.op.quiet.isSome=false):iD glob call cx o env s=dQ glob call cx o env s:=by
 unfold iD;rw [if_neg (by rw [h];simp)]
theorem Ol {d:Nat} {e:EV} (h:lU env d=false):put env d e=(d,e)::env:=by
 unfold put
 unfold lU at h
 split
 ·rename_i o ho;rw [ho] at h;simp [h]
 ·rfl
def Runs (glob:Nat→Option (List AV)) (call:AV→List AV→St→Ctx→CO) (cx:Ctx) (aops:List aG):List Nat→Env→St→Env→St→Prop
 | [],env,s,env',s'=>EqE env env'∧s'=s
 | i::r,env,s,env',s'=>∃o xP env1 s1,aops[i]?=some o∧EqE env xP∧iD glob call cx o xP s=.norm env1 s1∧Runs glob call cx aops r env1 s1 env' s'
theorem EqE.trans {env3:Env} (h:EqE env env2) (h':EqE env2 env3):EqE env env3:=fun k=>(h k).trans (h' k)
theorem EqE.symm (h:EqE env env2):EqE env2 env:=fun k=>(h k).symm
theorem EqE.refl (env:Env):EqE env env:=fun _=>rfl
theorem Runs.eqE {l:List Nat} (h:Runs glob call cx aops l env s env' s') (he:EqE env2 env):Runs glob call cx aops l env2 s env' s':=by
 cases l with
 | nil=>exact ⟨he.trans h.1,h.2⟩
 | cons i r=>obtain ⟨o,e0,e1,s1,h1,h2,h3,h4⟩:=h;exact ⟨o,e0,e1,s1,h1,he.trans h2,h3,h4⟩
theorem Xg:∀(l:List Nat) {env:Env} {s:St},iC glob call cx aops l env s=.norm env' s'→Runs glob call cx aops l env s env' s'
 | [],env,s,h=>by simp only [iC,Out.norm.injEq] at h;exact ⟨by rw [h.1];exact .refl _,h.2.symm⟩
 | i::r,env,s,h=>by
  simp only [iC] at h
  split at h
  ·cases h
  ·rename_i o ho
   split at h
   ·rename_i env1 s1 hr;exact ⟨o,env,env1,s1,ho,.refl _,hr,Xg r h⟩
   ·rename_i hne;exact absurd h (hne _ _)
theorem Bv {d:Nat} {e:EV} {k:Nat} (hk:k≠d):lk (put env d e) k=(if lU env d=true then (lk env k).map (fun x=>if x.refers d then .v .u else x) else lk env k):=by
 by_cases ho:lU env d=true
 ·rw [if_pos ho]
  unfold lU at ho
  unfold put
  split
  ·rename_i o hlo
   rw [hlo] at ho
   simp only [] at ho
   rw [if_pos ho,aP _ _ (Ne.symm hk),rJ]
  ·rename_i hlo;rw [hlo] at ho;cases ho
 ·rw [if_neg ho,Ol (by simpa using ho),aP _ _ (Ne.symm hk)]
theorem agq {X X':Env} {d dj:Nat} {e:EV} {v:AV} (hd:d≠dj) (hx:∀j,j≠d→lk X j=lk X' j) (hv:lk X d=some (.v v)):EqE (put X dj e) ((d,.v v)::put X' dj e):=by
 intro k
 have hown:lU X dj=lU X' dj:=by unfold lU;rw [hx dj (Ne.symm hd)]
 by_cases hk:k=d
 ·subst hk
  rw [dn,Bv hd]
  split
  ·rw [hv];rfl
  ·exact hv
 ·rw [aP _ _ (Ne.symm hk)]
  by_cases hkj:k=dj
  ·subst hkj;rw [oJ,oJ]
  ·rw [Bv hkj,Bv hkj,hown,hx k hk]
theorem aex {d k:Nat} {e:EV} (h:lk (put env d e) k=none):k≠d∧lk env k=none:=by
 have hk:k≠d:=fun hk=>by subst hk;rw [oJ] at h;cases h
 rw [Bv hk] at h
 split at h
 ·exact ⟨hk,by simpa using h⟩
 ·exact ⟨hk,h⟩
theorem abj {d k:Nat} {e:EV} (he:e.owns=true) {x:AV} (hx:x≠.u) (h:lk (put env d e) k=some (.v x)):lk env k=some (.v x):=by
 have hk:k≠d:=fun hk=>by subst hk;rw [oJ] at h;cases h;cases he
 rw [Bv hk] at h
 split at h
 ·cases hl:lk env k with
  | none=>rw [hl] at h;cases h
  | some y=>
   rw [hl] at h
   simp only [Option.map_some,Option.some.injEq] at h
   split at h
   ·cases h;exact absurd rfl hx
   ·rw [h]
 ·exact h
theorem ads {k j:Nat} (h:lk ((k,EV.v .u)::mX env k) j=none):j≠k∧lk env j=none:=by
 have hk:j≠k:=fun hk=>by subst hk;rw [dn] at h;cases h
 rw [aP _ _ (Ne.symm hk),rJ] at h
 exact ⟨hk,by simpa using h⟩
theorem air {k j:Nat} {x:AV} (hx:x≠.u) (h:lk ((k,EV.v .u)::mX env k) j=some (.v x)):lk env j=some (.v x):=by
 have hk:j≠k:=fun hk=>by subst hk;rw [dn] at h;cases h;exact absurd rfl hx
 rw [aP _ _ (Ne.symm hk),rJ] at h
 cases hl:lk env j with
 | none=>rw [hl] at h;cases h
 | some y=>
  rw [hl] at h
  simp only [Option.map_some,Option.some.injEq] at h
  split at h
  ·cases h;exact absurd rfl hx
  ·rw [h]
theorem agZ {op:AOp} (ho:op.isApp=true) {e:EV} {env1:Env} {s1:St} (h:aop glob call cx env s op=.ok e env1 s1):s1=s∧e.owns=true∧(env1=env∨∃k x,lk env k=some x∧env1=(k,.v .u)::mX env k):=by
 cases op<;>first | (cases ho;done)|skip
 ·simp only [aop] at h
  split at h
  ·split at h
   ·rename_i _ _ _ _ _ _ hl
    split at h
    ·cases h;exact ⟨rfl,rfl,.inr ⟨_,_,hl,rfl⟩⟩
    ·cases h
   ·cases h
  ·split at h
   ·split at h
    ·cases h;exact ⟨rfl,rfl,.inl rfl⟩
    ·cases h
   ·cases h
  ·cases h
 ·simp only [aop] at h
  split at h
  ·split at h
   ·rename_i _ _ _ _ _ _ hl
    split at h
    ·cases h;exact ⟨rfl,rfl,.inr ⟨_,_,hl,rfl⟩⟩
    ·cases h
   ·cases h
  ·cases h
section
variable {d:Nat} {v:AV} (hd:lk env d=none)
include hd
theorem Uj {k:Nat} {x:EV} (h:lk env k=some x):lk ((d,.v v)::env) k=some x:=by
 have:d≠k:=fun hk=>by subst hk;rw [hd] at h;cases h
 rw [aP _ _ this];exact h
theorem ae3 {x:IX} {y:EV} (h:ev glob env x=some y):ev glob ((d,.v v)::env) x=some y:=by
 cases x with
 | t k=>exact Uj hd h
 | c a=>exact h
 | g k=>exact h
theorem ae2 {x:IX} {y:AV} (h:rd glob env x=some y):rd glob ((d,.v v)::env) x=some y:=by
 unfold rd at h ⊢
 cases he:ev glob env x with
 | none=>rw [he] at h;cases h
 | some z=>rw [ae3 hd he];rw [he] at h;exact h
theorem acL {x:IX} {y:List AV} (h:elems glob env x=some y):elems glob ((d,.v v)::env) x=some y:=by
 unfold elems at h ⊢
 cases he:ev glob env x with
 | none=>rw [he] at h;cases h
 | some z=>
  rw [ae3 hd he]
  rw [he] at h
  cases z with
  | al j=>
   simp only [] at h ⊢
   cases hj:lk env j with
   | none=>rw [hj] at h;cases h
   | some o=>rw [Uj hd hj];rw [hj] at h;exact h
  | v a=>cases a<;>exact h
  | _=>exact h
theorem XE {x:IX} (hx:ev glob env x≠none):jd ((d,.v v)::env) x=jd env x:=by
 cases x with
 | t k=>
  cases hk:lk env k with
  | none=>exact absurd hk hx
  | some o=>simp only [jd,Uj hd hk,hk]
 | c a=>rfl
 | g k=>rfl
theorem abK {op:AOp} (ho:op.isApp=true) {e:EV} {env1:Env} (h:aop glob call cx env s op=.ok e env1 s):
  ∃env2,aop glob call cx ((d,.v v)::env) s op=.ok e env2 s∧lk env2 d=some (.v v)∧∀j,j≠d→lk env2 j=lk env1 j:=by
 have key:∀k,(∃x,lk env k=some x)→lk ((k,EV.v .u)::(d,.v v)::mX env k) d=some (.v v)∧∀j,j≠d→lk ((k,EV.v .u)::(d,.v v)::mX env k) j=lk ((k,.v .u)::mX env k) j:=by
  intro k ⟨x,hk⟩
  have hne:k≠d:=fun hk'=>by subst hk';rw [hd] at hk;cases hk
  refine ⟨by rw [aP _ _ hne,dn],fun j hj=>?_⟩
  by_cases hkj:k=j
  ·subst hkj;rw [dn,dn]
  ·rw [aP _ _ hkj,aP _ _ (Ne.symm hj),aP _ _ hkj]
 cases op<;>first | (cases ho;done)|skip
 ·rename_i t sz x y
  simp only [aop] at h ⊢
  cases hy:elems glob env y with
  | none=>rw [hy] at h;simp at h
  | some ys=>
   rw [hy] at h
   rw [acL hd hy]
   have hx:ev glob env x≠none:=by
    intro hn
    cases x with
    | t k=>
     have hk:lk env k=none:=hn
     simp [jd,hk,rd,ev] at h
    | c a=>cases hn
    | g k=>simp [jd,rd,hn] at h
   have hyn:ev glob env y≠none:=by intro hn;unfold elems at hy;rw [hn] at hy;cases hy
   rw [XE hd hx,XE hd hyn]
   cases hk:jd env x with
   | none=>
    rw [hk] at h
    simp only [] at h ⊢
    cases hr:rd glob env x with
    | none=>rw [hr] at h;cases h
    | some z=>
     rw [hr] at h
     rw [ae2 hd hr]
     split at h
     ·split at h
      ·rename_i hz hc
       cases h
       cases hz
       exact ⟨_,by rw [if_pos hc],dn _ _ _,fun j hj=>aP _ _ (Ne.symm hj)⟩
      ·cases h
     ·cases h
   | some k=>
    rw [hk] at h
    simp only [] at h ⊢
    cases hl:lk env k with
    | none=>rw [hl] at h;cases h
    | some o=>
     rw [hl] at h
     rw [Uj hd hl]
     cases o<;>simp only [] at h ⊢<;>first | (cases h;done)|skip
     split at h
     ·rename_i hc
      cases h
      rw [if_pos hc]
      exact ⟨_,rfl,key k ⟨_,hl⟩⟩
     ·cases h
 ·rename_i t x y
  simp only [aop] at h ⊢
  cases hy:rd glob env y with
  | none=>rw [hy] at h;simp at h
  | some ys=>
   rw [hy] at h
   rw [ae2 hd hy]
   cases hk:jd env x with
   | none=>rw [hk] at h;cases ys<;>cases h
   | some k=>
    have hx:ev glob env x≠none:=by
     intro hn
     cases x with
     | t k'=>have hk':lk env k'=none:=hn;simp [jd,hk'] at hk
     | c a=>cases hn
     | g k'=>simp [jd] at hk
    rw [XE hd hx]
    rw [hk] at h ⊢
    cases ys<;>simp only [] at h ⊢<;>first | (cases h;done)|skip
    cases hl:lk env k with
    | none=>rw [hl] at h;cases h
    | some o=>
     rw [hl] at h
     rw [Uj hd hl]
     cases o<;>simp only [] at h ⊢<;>first | (cases h;done)|skip
     split at h
     ·rename_i hc
      cases h
      rw [if_pos hc]
      exact ⟨_,rfl,key k ⟨_,hl⟩⟩
     ·cases h
end
theorem Qs {o p:aG} (h:U7 o p=true):o.op.isApp=true∧o.guard=none∧∃d n x,p=⟨some d,none,.loadp d n x⟩:=by
 simp only [U7,Bool.and_eq_true,Option.isNone_iff_eq_none] at h
 obtain ⟨⟨⟨h1,h2⟩,h3⟩,h4⟩:=h
 refine ⟨h1,h2, ?_⟩
 obtain ⟨dst,gd,op⟩:=p
 simp only [] at h3 h4
 subst h3
 cases op<;>first | (cases dst<;>cases h4;done)|skip
 cases dst with
 | none=>cases h4
 | some d'=>
  simp at h4
  subst h4
  exact ⟨_,_,_,rfl⟩
theorem U3 {op:AOp} (h:op.isApp=true):op.quiet.isSome=false:=by cases op<;>first|rfl | (cases h;done)
theorem Ws {d:Nat} {n:Option Nat} {x:IX} {env1:Env} {s1:St}:Ah glob call ⟨some d,none,.loadp d n x⟩ env s=.norm env1 s1 ↔
  s1=s∧lk env d=none∧∃v0 v,ev glob env x=some (.v v0)∧iU glob env s n x=some v∧env1=(d,.v v)::env:=by
 rw [gG]
 constructor
 ·rintro ⟨h1,e,hq,hd,rfl⟩
  refine ⟨h1, ?_⟩
  unfold wz at hq
  simp only [dh] at hq
  split at hq
  ·split at hq
   ·rename_i e1 env2 s2 ha
    simp only [aop] at ha
    split at ha
    ·rename_i h2 h3
     obtain ⟨r,hr,he,_,_⟩:=xC ha
     split at hq
     ·cases hq;subst he;exact ⟨h2,_,r,h3,hr,rfl⟩
     ·cases hq
    ·cases ha
   ·cases hq
  ·cases hq
 ·rintro ⟨rfl,hd,v0,v,hv,hl,rfl⟩
  refine ⟨rfl,.v v, ?_,fun d' hd'=>?_,rfl⟩
  ·have hok:okQ glob env (.loadp d n x)=true:=by
    have:ev glob env (.t d)=none:=hd
    simp [okQ,AOp.quiet,rH,hv,this]
   unfold wz
   simp only [dh,hok,if_true,aop,hd,hv,hl,okv]
   simp [EV.owns]
  ·cases hd';exact ⟨rfl,by unfold lU;rw [hd]⟩
theorem agk {n:Option Nat} {x:IX} {v0:AV} (h:ev glob env x=some (.v v0)) (h':ev glob env2 x=some (.v v0)):iU glob env s n x=iU glob env2 s n x:=by
 unfold iU;rw [h,h']
 cases v0<;>rfl
theorem akl {o p:aG} (hap:U7 o p=true) {env1 env2:Env} {s1 s2:St} (h1:iD glob call cx o env s=.norm env1 s1) (h2:iD glob call cx p env1 s1=.norm env2 s2):
  s1=s∧s2=s∧∃f1 f2,iD glob call cx p env s=.norm f1 s∧iD glob call cx o f1 s=.norm f2 s∧EqE f2 env2:=by
 obtain ⟨ho,hg,d,n,x,rfl⟩:=Qs hap
 rw [fH (U3 ho)] at h1
 have hpq:(AOp.loadp d n x).quiet.isSome=true:=rfl
 rw [cO hpq] at h2
 obtain ⟨hs2,hdn,v0,v,hv,hl,rfl⟩:=Ws.1 h2
 obtain ⟨dst,gd,op⟩:=o
 simp only [] at ho hg
 subst hg
 simp only [dQ,dh] at h1
 cases ha:aop glob call cx env s op with
 | fail=>rw [ha] at h1;cases h1
 | pan v s=>rw [ha] at h1;cases h1
 | ok e enva sa=>
  rw [ha] at h1
  obtain ⟨rfl,hown,hform⟩:=agZ ho ha
  simp only [] at h1
  have hv0:v0≠.u:=fun h=>by subst h;unfold iU at hl;rw [hv] at hl;cases hl
  have hA:(∀k,lk enva k=none→lk env k=none)∧(∀k y,y≠.u→lk enva k=some (.v y)→lk env k=some (.v y)):=by
   rcases hform with rfl|⟨k,y,hk,rfl⟩
   ·exact ⟨fun _ h=>h,fun _ _ _ h=>h⟩
   ·exact ⟨fun j h=>(ads h).2,fun j z hz h=>air hz h⟩
  have fin:∀env1,s1=sa→(lk env1 d=none→lk enva d=none)→(∀k y,y≠.u→lk env1 k=some (.v y)→lk enva k=some (.v y))→lk env1 d=none→ev glob env1 x=some (.v v0)→iU glob env1 s1 n x=some v→
    lk env d=none∧Ah glob call ⟨some d,none,.loadp d n x⟩ env sa=.norm ((d,.v v)::env) sa:=by
   intro env1 hs q1 q2 q3 q4 q5
   subst hs
   have hdn':lk env d=none:=hA.1 d (q1 q3)
   have hv':ev glob env x=some (.v v0):=by
    cases x with
    | t k=>exact hA.2 k v0 hv0 (q2 k v0 hv0 q4)
    | c a=>exact q4
    | g k=>exact q4
   exact ⟨hdn',Ws.2 ⟨rfl,hdn',v0,v,hv',by rw [←agk q4 hv'];exact q5,rfl⟩⟩
  cases dst with
  | none=>
   simp only [Out.norm.injEq] at h1
   obtain ⟨rfl,rfl⟩:=h1
   obtain ⟨hdn',hp⟩:=fin enva rfl (fun h=>h) (fun _ _ _ h=>h) hdn hv hl
   obtain ⟨env3,h3,h4,h5⟩:=abK (v:=v) hdn' ho ha
   refine ⟨rfl,hs2,_,env3,by rw [cO hpq];exact hp,by rw [fH (U3 ho)];simp [dQ,dh,h3],fun k=>?_⟩
   by_cases hk:k=d
   ·subst hk;rw [h4,dn]
   ·rw [h5 k hk,aP _ _ (Ne.symm hk)]
  | some dj=>
   have hrf:e.refers dj=false:=by cases e<;>first|rfl | (cases hown;done)
   simp only [hrf,Bool.false_eq_true,if_false,Out.norm.injEq] at h1
   obtain ⟨rfl,rfl⟩:=h1
   obtain ⟨hddj,hdn2⟩:=aex hdn
   obtain ⟨hdn',hp⟩:=fin (put enva dj e) rfl (fun _=>hdn2) (fun k y hy h=>abj hown hy h) hdn hv hl
   obtain ⟨env3,h3,h4,h5⟩:=abK (v:=v) hdn' ho ha
   refine ⟨rfl,hs2,_,put env3 dj e,by rw [cO hpq];exact hp,by rw [fH (U3 ho)];simp [dQ,dh,h3,hrf],agq hddj h5 h4⟩
theorem DR {o:aG} (hq:o.op.quiet.isSome=true) {env1:Env} {s1:St} (h:iD glob call cx o env s=.norm env1 s1):s1=s:=by
 rw [cO hq] at h;exact (gG.1 h).1
theorem acs {o:aG} (hq:o.op.quiet.isSome=true) (he:EqE env env2) {env1:Env} {s1:St} (h:iD glob call cx o env s=.norm env1 s1):∃env3,iD glob call cx o env2 s=.norm env3 s∧EqE env1 env3:=by
 have hs:=DR hq h
 subst hs
 rw [cO hq] at h ⊢
 exact aef he h
def Keeps (s1 s:St):Prop:=(∀(l:Nat) cs,s1[l]?=some (dJ.cells cs)→s[l]?=some (dJ.cells cs))∧(∀(l:Nat) es,s1[l]?=some (dJ.map es)→s[l]?=some (dJ.map es))∧∀(l:Nat) t sz ver cs,s1[l]?=some (dJ.buf t sz ver cs)→s[l]?=some (dJ.buf t sz ver cs)
theorem Td {o o':dJ} {l:Nat} (hne:o'≠o) (h:(s++[o])[l]?=some o'):s[l]?=some o':=by
 by_cases hl:l<s.length
 ·rwa [List.getElem?_append_left hl] at h
 ·rw [List.getElem?_append_right (by omega)] at h
  cases hx:l - s.length with
  | zero=>rw [hx] at h;simp at h;exact absurd h.symm hne
  | succ k=>rw [hx] at h;simp at h
theorem Xf {o o':dJ} {l k:Nat} (hl:l<s.length) (hne:o'≠o) (h:(s.set l o)[k]?=some o'):s[k]?=some o':=by
 by_cases hk:l=k
 ·subst hk;rw [List.getElem?_set_self hl] at h;simp at h;exact absurd h.symm hne
 ·rwa [List.getElem?_set_ne hk] at h
theorem Keeps.push {t sz n:Nat}:Keeps (s++[.row t sz n]) s:=
 ⟨fun _ _ h=>Td (by simp) h,fun _ _ h=>Td (by simp) h,fun _ _ _ _ _ h=>Td (by simp) h⟩
theorem Keeps.set {l t sz n:Nat} (hl:l<s.length):Keeps (s.set l (.row t sz n)) s:=
 ⟨fun _ _ h=>Xf hl (by simp) h,fun _ _ h=>Xf hl (by simp) h,fun _ _ _ _ _ h=>Xf hl (by simp) h⟩
theorem P5 {s1:St} (hk:Keeps s1 s) {n:Option Nat} {x:IX} {v:AV} (h:iU glob env s1 n x=some v):iU glob env s n x=some v:=by
 unfold iU at h ⊢
 split at h
 ·exact h
 ·exact h
 ·exact h
 ·exact h
 ·split at h
  ·rename_i cs hl
   rw [hk.1 _ cs hl];exact h
  ·cases h
 ·split at h
  ·rename_i hl
   rw [hk.2.2 _ _ _ _ _ hl];exact h
  ·cases h
 ·cases h
theorem agN {s1:St} (hk:Keeps s1 s) {op:AOp} (hc:op.calm=true) (hq:op.quiet.isSome=true) {cx1 cx2:Ctx} {e:EV} {env1:Env} {s2:St} (hno:okQ glob env op=true) (h:aop glob call cx1 env s1 op=.ok e env1 s2):aop glob call cx2 env s op=.ok e env1 s:=by
 cases op<;>first | (cases hc;done)|skip
 case mov x=>
  simp only [okQ,AOp.quiet,List.all_cons,List.all_nil,Bool.and_true] at hno
  rw [Ju hno] at h ⊢
  cases hm:Gv glob env x with
  | none=>rw [hm] at h;cases h
  | some e1=>rw [hm] at h;cases h;rfl
 case load n x=>
  simp only [aop] at h ⊢
  obtain ⟨r,hr,rfl,rfl,_⟩:=xC h
  rw [P5 hk hr];rfl
 case loadp d n x=>
  simp only [aop] at h ⊢
  split at h
  ·obtain ⟨r,hr,rfl,rfl,_⟩:=xC h
   rw [P5 hk hr];rfl
  ·cases h
 case look kk z ok m k=>
  simp only [aop] at h ⊢
  cases hkv:rd glob env k with
  | none=>rw [hkv] at h;cases h
  | some key=>
   rw [hkv] at h
   simp only [] at h ⊢
   cases hm:rd glob env m with
   | none=>
    rw [hm] at h
    split at h
    ·cases h
    ·simp at h
   | some mv=>
    rw [hm] at h
    have key2:∀r:Option AV,(match mv with | .im es=>find kk key es | .nm=>if yP kk key then some none else none | .mp l=>(match s1[l]? with|some (.map es)=>find kk key es | _=>none) | _=>none)=some r→
      (match mv with | .im es=>find kk key es | .nm=>if yP kk key then some none else none | .mp l=>(match s[l]? with|some (.map es)=>find kk key es | _=>none) | _=>none)=some r:=by
     intro r hr
     cases mv<;>first|exact hr|skip
     simp only [] at hr ⊢
     split at hr
     ·rename_i es hl;rw [hk.2.1 _ es hl];exact hr
     ·cases hr
    by_cases h3k:3≤kk∧yP kk key=false
    ·rw [if_pos h3k] at h;cases h
    rw [if_neg h3k] at h
    rw [if_neg h3k]
    split at h
    ·rename_i r hr
     have:=key2 r (by cases mv<;>exact hr)
     split
     ·rename_i r' hr'
      have e1:r=r':=Option.some.inj (this.symm.trans (by cases mv<;>exact hr'))
      subst e1
      split at h
      ·rename_i hok;cases h;simp [hok]
      ·rename_i hok;cases h;simp [hok]
     ·rename_i hr'
      exfalso
      have h3:=this.symm.trans (by cases mv<;>exact hr')
      cases h3
    ·cases h
 case len k x=>
  match k with
  | 0=>
   simp only [aop] at h ⊢
   split at h
   ·cases h;rfl
   ·split at h
    ·cases h;rfl
    ·cases h
  | 1=>
   simp only [aop] at h ⊢
   split at h
   ·cases h;rfl
   ·cases h
  | 2=>cases hc
  | k+3=>cases hc
 case bsl own t sz len zs ps=>
  cases own with
  | true=>cases hc
  | false=>
   simp only [aop] at h ⊢
   split at h
   ·rename_i vs env1 he
    simp only [Bool.false_eq_true,if_false] at h ⊢
    split at h
    ·rename_i hc2;cases h;rw [if_pos hc2]
    ·cases h
   ·cases h
 all_goals
  simp only [aop,okv] at h ⊢
  ((repeat' split at h)<;>first | (cases h;done) | (cases h;simp [*];done))
theorem Qr {o p:aG} (h:U6 o p=true):(∃d t sz x y,o=⟨some d,none,.apprp d t sz x y⟩∧(∀dp,p.dst=some dp→dp ∉ x.slots∧dp ∉ y.slots∧dp≠d)∧afN (fun k=>k=d) p)∧p.op.calm=true∧p.op.quiet.isSome=true:=by
 obtain ⟨od,og,oop⟩:=o
 simp only [U6,Bool.and_eq_true,Option.isNone_iff_eq_none] at h
 obtain ⟨⟨⟨⟨⟨h1,h2⟩,h3⟩,h4⟩,h5⟩,h6⟩:=h
 refine ⟨?_,h3,h4⟩
 subst h2
 cases oop<;>first | (cases od<;>cases h1;done)|skip
 rename_i d t sz x y
 cases od with
 | none=>cases h1
 | some d'=>
  simp only [Bool.and_eq_true,beq_iff_eq] at h1
  obtain ⟨rfl,h1⟩:=h1
  refine ⟨d,t,sz,x,y,rfl,fun dp hdp=>?_,fun k hk hkd=>?_⟩
  ·rw [hdp] at h1 h6
   simp [tY] at h1 h6
   exact ⟨fun hm=>h1.1 dp hm rfl,fun hm=>h1.2 dp hm rfl,fun h=>h6 h.symm⟩
  ·subst hkd
   simp [tY] at h5
   exact h5 k hk rfl
theorem PL {d t sz:Nat} {x y:IX} {env1:Env} {s1:St} (h:dQ glob call cx ⟨some d,none,.apprp d t sz x y⟩ env s=.norm env1 s1):
  ∃v,lk env d=none∧env1=(d,.v v)::env∧Keeps s1 s∧(∀env2,lk env2 d=none→(∀ys,elems glob env y=some ys→elems glob env2 y=some ys)→ev glob env2 x=ev glob env x→dQ glob call cx ⟨some d,none,.apprp d t sz x y⟩ env2 s=.norm ((d,.v v)::env2) s1):=by
 simp only [dQ,dh,aop] at h ⊢
 cases hd:lk env d with
 | some z=>rw [hd] at h;cases h
 | none=>
  rw [hd] at h
  simp only [] at h
  have hput:∀(env2:Env) e,lk env2 d=none→put env2 d e=(d,e)::env2:=fun env2 e h2=>by unfold put;rw [h2]
  cases hy:elems glob env y with
  | none=>rw [hy] at h;cases h
  | some ys=>
   rw [hy] at h
   cases hx:ev glob env x with
   | none=>rw [hx] at h;cases h
   | some z=>
    rw [hx] at h
    cases z<;>first | (cases h;done)|skip
    rename_i a
    cases a<;>first | (cases h;done)|skip
    ·by_cases hc:0<sz∧0<ys.length∧(ys.all fun e=>e.cells.length == sz)=true∧ys.length≤aW
     ·simp only [if_pos hc,EV.refers,Bool.false_eq_true,if_false,Out.norm.injEq] at h
      obtain ⟨rfl,rfl⟩:=h
      refine ⟨_,rfl,hput env _ hd,Keeps.push,fun env2 h2 hy2 hx2=>?_⟩
      rw [h2,hy2 ys rfl,hx2]
      simp only [if_pos hc,EV.refers,Bool.false_eq_true,if_false,hput env2 _ h2]
     ·simp only [if_neg hc] at h
      by_cases h0:ys.length=0
      ·simp only [if_pos h0,EV.refers,Bool.false_eq_true,if_false,Out.norm.injEq] at h
       obtain ⟨rfl,rfl⟩:=h
       refine ⟨_,rfl,hput env _ hd,⟨fun _ _ h=>h,fun _ _ h=>h,fun _ _ _ _ _ h=>h⟩,fun env2 h2 hy2 hx2=>?_⟩
       rw [h2,hy2 ys rfl,hx2]
       simp only [if_neg hc,if_pos h0,EV.refers,Bool.false_eq_true,if_false,hput env2 _ h2]
      ·simp only [if_neg h0] at h;cases h
    ·rename_i l es
     simp only [] at h
     cases hl:s[l]? with
     | none=>simp only [hl] at h;cases h
     | some ob=>
      simp only [hl] at h
      cases ob<;>first | (cases h;done)|skip
      rename_i t' sz' k
      by_cases hc:t=t'∧sz=sz'∧k=es.length∧0<sz∧0<ys.length∧(ys.all fun e=>e.cells.length == sz)=true∧(es.all fun e=>e.cells.length == sz)=true∧es.length+ys.length≤aW∧cx.lim≤l
      ·simp only [if_pos hc,EV.refers,Bool.false_eq_true,if_false,Out.norm.injEq] at h
       obtain ⟨rfl,rfl⟩:=h
       refine ⟨_,rfl,hput env _ hd,Keeps.set (List.getElem?_eq_some_iff.1 hl).1,fun env2 h2 hy2 hx2=>?_⟩
       rw [h2,hy2 ys rfl,hx2]
       simp only [hl,if_pos hc,EV.refers,Bool.false_eq_true,if_false,hput env2 _ h2]
      ·simp only [if_neg hc] at h
       by_cases h0:ys.length=0
       ·simp only [if_pos h0,EV.refers,Bool.false_eq_true,if_false,Out.norm.injEq] at h
        obtain ⟨rfl,rfl⟩:=h
        refine ⟨_,rfl,hput env _ hd,⟨fun _ _ h=>h,fun _ _ h=>h,fun _ _ _ _ _ h=>h⟩,fun env2 h2 hy2 hx2=>?_⟩
        rw [h2,hy2 ys rfl,hx2]
        simp only [hl,if_neg hc,if_pos h0,EV.refers,Bool.false_eq_true,if_false,hput env2 _ h2]
       ·simp only [if_neg h0] at h;cases h
    ·by_cases hc:0<sz∧0<ys.length∧(ys.all fun e=>e.cells.length == sz)=true∧ys.length≤aW
     ·simp only [if_pos hc,EV.refers,Bool.false_eq_true,if_false,Out.norm.injEq] at h
      obtain ⟨rfl,rfl⟩:=h
      refine ⟨_,rfl,hput env _ hd,Keeps.push,fun env2 h2 hy2 hx2=>?_⟩
      rw [h2,hy2 ys rfl,hx2]
      simp only [if_pos hc,EV.refers,Bool.false_eq_true,if_false,hput env2 _ h2]
     ·simp only [if_neg hc] at h
      by_cases h0:ys.length=0
      ·simp only [if_pos h0,EV.refers,Bool.false_eq_true,if_false,Out.norm.injEq] at h
       obtain ⟨rfl,rfl⟩:=h
       refine ⟨_,rfl,hput env _ hd,⟨fun _ _ h=>h,fun _ _ h=>h,fun _ _ _ _ _ h=>h⟩,fun env2 h2 hy2 hx2=>?_⟩
       rw [h2,hy2 ys rfl,hx2]
       simp only [if_neg hc,if_pos h0,EV.refers,Bool.false_eq_true,if_false,hput env2 _ h2]
      ·simp only [if_neg h0] at h;cases h
theorem aat {s1:St} (hk:Keeps s1 s) {p:aG} (hc:p.op.calm=true) (hq:p.op.quiet.isSome=true) {e:EV} (h:wz glob call p env s1=some e):wz glob call p env s=some e:=by
 unfold wz at h ⊢
 split at h
 ·cases h
 ·exact h
 ·split at h
  ·rename_i hok
   rw [if_pos hok]
   split at h
   ·rename_i e1 env1 s2 ha
    rw [agN (cx2:=⟨s.length,s.length⟩) hk hc hq hok ha]
    split at h
    ·rename_i hcond
     cases h
     simp [hcond.2]
    ·cases h
   ·cases h
  ·cases h
theorem akk {o p:aG} (hap:U6 o p=true) {env1 env2:Env} {s1 s2:St} (h1:iD glob call cx o env s=.norm env1 s1) (h2:iD glob call cx p env1 s1=.norm env2 s2):
  s2=s1∧∃f1 f2,iD glob call cx p env s=.norm f1 s∧iD glob call cx o f1 s=.norm f2 s1∧EqE f2 env2:=by
 obtain ⟨⟨d,t,sz,x,y,rfl,hdst,hoff⟩,hcalm,hq⟩:=Qr hap
 have hloud:(AOp.apprp d t sz x y).quiet.isSome=false:=rfl
 rw [fH hloud] at h1
 rw [cO hq] at h2
 obtain ⟨v,hdn,rfl,hk,hrun⟩:=PL h1
 obtain ⟨rfl,e,hqv,hokd,rfl⟩:=gG.1 h2
 have hagr:Agr (fun k=>k=d) ((d,.v v)::env) env:=by
  refine ⟨fun k hkd=>aP _ _ (fun h=>hkd h.symm),fun k e' hkd hl ho=>?_⟩
  subst hkd;rw [dn] at hl;cases hl;cases ho
 have hqv':wz glob call p env s=some e:=aat hk hcalm hq (zo hagr hoff hqv)
 have hok':okD env p.dst e:=fun dp hdp=>⟨(hokd dp hdp).1,by
  have:=(hokd dp hdp).2
  unfold lU at this ⊢
  rwa [aP _ _ (fun h=>(hdst dp hdp).2.2 h.symm)] at this⟩
 refine ⟨rfl,tH env p.dst e,(d,.v v)::tH env p.dst e,by rw [cO hq];exact gG.2 ⟨rfl,e,hqv',hok',rfl⟩, ?_,fun k=>?_⟩
 ·rw [fH hloud]
  have hagr2:=ab3 (Wh hqv') hok'
  refine hrun _ ?_ ?_ ?_
  ·rw [bH (fun h=>(hdst d h).2.2 rfl)];exact hdn
  ·exact fun ys hys=>O6 (ZU hok') (fun k hk hd=>(hdst k hd).2.1 hk) hys
  ·exact yU hagr2 (fun k hk hd=>(hdst k hd).1 hk)
 ·by_cases hkd:k=d
  ·subst hkd
   rw [dn,bH (fun h=>(hdst k h).2.2 rfl),dn]
  ·rw [aP _ _ (Ne.symm hkd)]
   cases hp:p.dst with
   | none=>show lk env k=lk ((d,.v v)::env) k;rw [aP _ _ (Ne.symm hkd)]
   | some dp=>
    show lk ((dp,e)::env) k=lk ((dp,e)::(d,.v v)::env) k
    by_cases hkp:dp=k
    ·subst hkp;rw [dn,dn]
    ·rw [aP _ _ hkp,aP _ _ hkp,aP _ _ (Ne.symm hkd)]
theorem um {op:AOp} (h:op.free=true):op.quiet.isSome=true:=by cases op<;>first|rfl | (cases h;done)
theorem Jm {op:AOp} (h:∀(cx:Ctx) (s:St),aop glob call cx env s op=match (match aop glob call ⟨0,0⟩ env [] op with | .ok e env1 _=>some (e,env1) | _=>none) with|some (e,env1)=>RO.ok e env1 s|none=>.fail):
  ∀(cx:Ctx) (s:St),aop glob call cx env s op=match (match aop glob call ⟨0,0⟩ env [] op with | .ok e env1 _=>some (e,env1) | _=>none) with|some (e,env1)=>RO.ok e env1 s|none=>.fail:=h
theorem afI {op:AOp} (ho:op.free=true) (hok:okQ glob env op=true):∃r:Option (EV×Env),∀(cx:Ctx) (s:St),aop glob call cx env s op=match r with|some (e,env1)=>.ok e env1 s|none=>.fail:=by
 cases op<;>(try (cases ho;done))
 case mov x=>
  simp only [okQ,AOp.quiet,List.all_cons,List.all_nil,Bool.and_true] at hok
  refine ⟨(Gv glob env x).map fun e=>(e,env),fun cx s=>?_⟩
  rw [Ju hok]
  cases Gv glob env x<;>rfl
 case ext x i=>
  refine ⟨_,fun cx s=>Jm ?_ cx s⟩
  intro cx s
  simp only [aop,okv]
  (repeat' split)<;>first|rfl | (simp_all;done)
 case idxa len sz x i=>
  refine ⟨_,fun cx s=>Jm ?_ cx s⟩
  intro cx s
  simp only [aop,okv]
  (repeat' split)<;>first|rfl | (simp_all;done)
 case fld off x=>
  refine ⟨_,fun cx s=>Jm ?_ cx s⟩
  intro cx s
  simp only [aop,okv]
  (repeat' split)<;>first|rfl | (simp_all;done)
 case bin bop x y=>
  refine ⟨_,fun cx s=>Jm ?_ cx s⟩
  intro cx s
  simp only [aop,okv]
  (repeat' split)<;>first|rfl | (simp_all;done)
 case build zs ps=>
  refine ⟨_,fun cx s=>Jm ?_ cx s⟩
  intro cx s
  simp only [aop,okv]
  (repeat' split)<;>first|rfl | (simp_all;done)
 case idx sz x i=>
  refine ⟨_,fun cx s=>Jm ?_ cx s⟩
  intro cx s
  simp only [aop,okv]
  (repeat' split)<;>first|rfl | (simp_all;done)
 case loadl n x=>
  cases hx:ev glob env x with
  | none=>exact ⟨none,fun cx s=>by simp only [aop,hx]⟩
  | some y=>
   have good:(∀s s',iU glob env s n x=iU glob env s' n x)→(∀cx s,aop glob call cx env s (.loadl n x)=okv env s (iU glob env s n x))→∃r:Option (EV×Env),∀(cx:Ctx) (s:St),aop glob call cx env s (.loadl n x)=match r with|some (e,env1)=>.ok e env1 s|none=>.fail:=by
    intro k1 k2
    refine ⟨(iU glob env [] n x).map fun v=>(.v v,env),fun cx s=>?_⟩
    rw [k2,k1 s []]
    cases iU glob env [] n x<;>rfl
   cases y with
   | bx cs=>exact good (fun s s'=>by unfold iU;rw [hx]) (fun cx s=>by simp only [aop,hx])
   | lp k o=>exact good (fun s s'=>by unfold iU;rw [hx]) (fun cx s=>by simp only [aop,hx])
   | v a=>
    cases a with
    | ip cs=>exact good (fun s s'=>by unfold iU;rw [hx]) (fun cx s=>by simp only [aop,hx])
    | _=>exact ⟨none,fun cx s=>by simp only [aop,hx]⟩
   | _=>exact ⟨none,fun cx s=>by simp only [aop,hx]⟩
theorem Jc {o:aG} (ho:o.op.free=true) (s s':St):wz glob call o env s=wz glob call o env s':=by
 unfold wz
 split
 ·rfl
 ·rfl
 ·split
  ·rename_i hok
   obtain ⟨r,hr⟩:=afI (call:=call) ho hok
   rw [hr,hr]
   cases r<;>simp
  ·rfl
theorem GU {od:Option Nat} {op:AOp} {l:List Nat} (hl:op.heapy=some l) (hd:Zl op od=true) {env1:Env} {s1:St}
  (h:dQ glob call cx ⟨od,none,op⟩ env s=.norm env1 s1):
  ∃e,env1=tH env od e∧e.owns=false∧(∀d,od=some d→lk env d=none)∧∀env2,(∀k∈l,lk env2 k=lk env k)→(∀d,od=some d→lk env2 d=none)→dQ glob call cx ⟨od,none,op⟩ env2 s=.norm (tH env2 od e) s1:=by
 have hev:∀(x:IX) (env2:Env),(∀k∈x.slots,lk env2 k=lk env k)→ev glob env2 x=ev glob env x:=by
  intro x env2 hx
  cases x with
  | t k=>exact hx k (by simp [IX.slots])
  | c a=>rfl
  | g k=>rfl
 cases op with
 | umap d=>
  cases od with
  | none=>cases hd
  | some d'=>
   have hd':d=d':=by simpa [Zl] using hd
   subst hd'
   simp only [dQ,dh,aop] at h ⊢
   cases hk:lk env d with
   | some e=>rw [hk] at h;cases h
   | none=>
    rw [hk] at h
    simp only [EV.refers,Bool.false_eq_true,if_false,Out.norm.injEq] at h
    obtain ⟨rfl,rfl⟩:=h
    have hput:∀(env2:Env) e,lk env2 d=none→put env2 d e=(d,e)::env2:=fun env2 e h2=>by unfold put;rw [h2]
    refine ⟨.v (.mp s.length),by rw [hput env _ hk];rfl,rfl,(fun _ h=>by cases h;exact hk),fun env2 _ h2=>?_⟩
    rw [h2 d rfl]
    simp only [EV.refers,Bool.false_eq_true,if_false,hput env2 _ (h2 d rfl)];rfl
 | uins m k v=>
  simp only [AOp.heapy,Option.some.injEq] at hl
  cases od with
  | some d=>cases hd
  | none=>
   subst hl
   simp only [dQ,dh] at h
   cases ha:aop glob call cx env s (.uins m k v) with
   | fail=>rw [ha] at h;cases h
   | pan _ _=>rw [ha] at h;cases h
   | ok e env' s'=>
    rw [ha] at h
    simp only [Out.norm.injEq] at h
    obtain ⟨rfl,rfl⟩:=h
    have henv:env'=env:=by
     simp only [aop] at ha
     (repeat' split at ha)<;>first | (cases ha;done) | (cases ha;rfl)
    subst henv
    refine ⟨.v .u,rfl,rfl,(fun _ h=>by cases h),fun env2 h1 _=>?_⟩
    have:aop glob call cx env2 s (.uins m k v)=.ok e env2 s':=by
     simp only [aop] at ha ⊢
     rw [hev m env2 (fun j hj=>h1 j (by simp [hj])),hev k env2 (fun j hj=>h1 j (by simp [hj])),hev v env2 (fun j hj=>h1 j (by simp [hj]))]
     (repeat' split at ha)<;>first | (cases ha;done) | (cases ha;simp [*];done)
    simp only [dQ,dh,this];rfl
 | storep n x y=>
  simp only [AOp.heapy,Option.some.injEq] at hl
  cases od with
  | some d=>cases hd
  | none=>
   subst hl
   simp only [dQ,dh] at h
   cases ha:aop glob call cx env s (.storep n x y) with
   | fail=>rw [ha] at h;cases h
   | pan _ _=>rw [ha] at h;cases h
   | ok e env' s'=>
    rw [ha] at h
    simp only [Out.norm.injEq] at h
    obtain ⟨rfl,rfl⟩:=h
    have henv:env'=env:=by
     simp only [aop] at ha
     (repeat' split at ha)<;>first | (cases ha;done) | (cases ha;rfl)
    subst henv
    refine ⟨.v .u,rfl,rfl,(fun _ h=>by cases h),fun env2 h1 _=>?_⟩
    have ex:=hev x env2 (fun j hj=>h1 j (by simp [hj]))
    have ey:=hev y env2 (fun j hj=>h1 j (by simp [hj]))
    have:aop glob call cx env2 s (.storep n x y)=.ok e env2 s':=by
     simp only [aop] at ha ⊢
     rw [ex,ey]
     split at ha
     ·rename_i av xv hx hy
      have hst:∀env3:Env,ev glob env3 x=some (.v av)→(wo glob cx env3 s n x xv).map (·.2)=(wo glob cx env' s n x xv).map (·.2):=by
       intro env3 h3
       unfold wo
       rw [h3,hx]
       by_cases hc:xv.cells.length=n∧n≠0∧(xv.cells.all AV.one)=true
       ·rw [if_pos hc,if_pos hc]
        cases av<;>first|rfl | (simp only [];(repeat' split)<;>first|rfl | (simp_all;done))
       ·rw [if_neg hc,if_neg hc]
      have h4:=hst env2 (ex.trans hx)
      split at ha
      ·rename_i q s1 hq
       cases ha
       rw [hq] at h4
       cases hq2:wo glob cx env2 s n x xv with
       | none=>rw [hq2] at h4;cases h4
       | some r=>
        rw [hq2] at h4
        simp at h4
        simp [h4]
      ·cases ha
     ·cases ha
    simp only [dQ,dh,this];rfl
 | _=>simp [AOp.heapy] at hl
theorem BD {op:AOp} {l:List Nat} (h:op.heapy=some l):op.quiet.isSome=false:=by cases op<;>first|rfl | (simp [AOp.heapy] at h;done)
theorem ako {o p:aG} (hap:Va o p=true) {env1 env2:Env} {s1 s2:St} (h1:iD glob call cx o env s=.norm env1 s1) (h2:iD glob call cx p env1 s1=.norm env2 s2):
  s2=s1∧∃f1 f2,iD glob call cx p env s=.norm f1 s∧iD glob call cx o f1 s=.norm f2 s1∧EqE f2 env2:=by
 obtain ⟨od,og,oop⟩:=o
 simp only [Va,Bool.and_eq_true,Option.isNone_iff_eq_none] at hap
 obtain ⟨⟨⟨⟨⟨a1,a2⟩,a3⟩,a4⟩,a5⟩,a6⟩:=hap
 subst a3
 cases hl:oop.heapy with
 | none=>rw [hl] at a1;cases a1
 | some l=>
 rw [hl] at a1
 simp only [] at a1
 have hq:p.op.quiet.isSome=true:=um a4
 rw [fH (BD hl)] at h1
 rw [cO hq] at h2
 obtain ⟨eo,rfl,howns,hnone,hrun⟩:=GU hl a2 h1
 obtain ⟨rfl,e,hqv,hokd,rfl⟩:=gG.1 h2
 have hne:∀d,od=some d→p.dst≠some d:=by
  intro d hd hp
  subst hd
  rw [hp] at a6
  simp at a6
 have hqv':wz glob call p env s=some e:=by rw [Jc a4 s s2];exact zo (ZT howns) (EW a5) hqv
 have hok':okD env p.dst e:=fun dp hdp=>⟨(hokd dp hdp).1,by
  have:=(hokd dp hdp).2
  unfold lU at this ⊢
  rwa [bH (fun h=>hne dp h hdp)] at this⟩
 refine ⟨rfl,tH env p.dst e,tH (tH env p.dst e) od eo,by rw [cO hq];exact gG.2 ⟨rfl,e,hqv',hok',rfl⟩, ?_,AL hne⟩
 rw [fH (BD hl)]
 refine hrun _ (fun k hk=>bH (fun hp=>?_)) (fun d hd=>?_)
 ·rw [hp] at a1
  simp [tY] at a1
  exact a1 k hk rfl
 ·rw [bH (hne d hd)];exact hnone d hd
theorem aki {o p:aG} (hap:U4 o p=true) {env1 env2:Env} {s1 s2:St} (h1:iD glob call cx o env s=.norm env1 s1) (h2:iD glob call cx p env1 s1=.norm env2 s2):
  ∃f1 t1 f2,iD glob call cx p env s=.norm f1 t1∧iD glob call cx o f1 t1=.norm f2 s2∧EqE f2 env2:=by
 unfold U4 at hap
 split at hap
 case h_2=>cases hap
 rename_i m k v m' k' v'
 simp only [Bool.and_eq_true,beq_iff_eq] at hap
 obtain ⟨hm,rfl⟩:=hap
 have hmm:∃j,m=.t j∧m'=.t j:=by
  split at hm
  ·rename_i a b;simp at hm;subst hm;exact ⟨_,rfl,rfl⟩
  ·cases hm
 obtain ⟨j,rfl,rfl⟩:=hmm
 have hl:∀m k v,(AOp.uins m k v).quiet.isSome=false:=fun _ _ _=>rfl
 rw [fH (hl _ _ _)] at h1 h2
 -- what an entry does
 have one:∀(k:IX) {s s':St} {env env':Env},dQ glob call cx ⟨none,none,.uins (.t j) k (.c (.b v))⟩ env s=.norm env' s'→env'=env∧∃l key es,lk env j=some (.v (.mp l))∧ev glob env k=some (.v (.s key))∧s[l]?=some (.umap es)∧cx.lim≤l∧s'=s.set l (.umap (Dy key (.b v) es)):=by
  intro k s s' env env' h
  simp only [dQ,dh,aop] at h
  split at h
  ·cases h
  ·cases h
  ·rename_i e env2 s2 ha
   cases h
   split at ha
   ·rename_i l key val hm hk hv
    split at ha
    ·rename_i es hs
     split at ha
     ·rename_i hc
      cases ha
      have hvv:∀E:Env,ev glob E (.c (.b v))=some (.v (.b v)):=fun _=>rfl
      rw [hvv] at hv
      cases hv
      exact ⟨rfl,l,key,es,hm,hk,hs,hc.2.2,rfl⟩
     ·cases ha
    ·cases ha
   ·cases ha
 have back:∀(k:IX) {s:St} {env:Env} {l:Nat} {key:List UInt8} {es:List (List UInt8×AV)},lk env j=some (.v (.mp l))→ev glob env k=some (.v (.s key))→s[l]?=some (.umap es)→cx.lim≤l→
   dQ glob call cx ⟨none,none,.uins (.t j) k (.c (.b v))⟩ env s=.norm env (s.set l (.umap (Dy key (.b v) es))):=by
  intro k s env l key es q1 q2 q3 q4
  have hvv:ev glob env (.c (.b v))=some (.v (.b v)):=rfl
  have hmv:ev glob env (.t j)=some (.v (.mp l)):=q1
  simp [dQ,dh,aop,hmv,q2,hvv,q3,q4,AV.one,AV.flat]
 obtain ⟨rfl,l,key1,es,a1,a2,a3,a4,rfl⟩:=one k h1
 obtain ⟨rfl,l',key2,es',b1,b2,b3,b4,rfl⟩:=one k' h2
 rw [a1] at b1
 cases b1
 have hlt:l<s.length:=(List.getElem?_eq_some_iff.1 a3).1
 rw [List.getElem?_set_self hlt] at b3
 cases b3
 refine ⟨env2,s.set l (.umap (Dy key2 (.b v) es)),env2,by rw [fH (hl _ _ _)];exact back k' a1 b2 a3 a4, ?_,.refl _⟩
 rw [fH (hl _ _ _)]
 have:=back k (s:=s.set l (.umap (Dy key2 (.b v) es))) a1 a2 (List.getElem?_set_self hlt) a4
 rw [this,List.set_set,List.set_set,ab8]
theorem zy {d:Nat} {zs:List AV} {env1:Env} {s1:St}:iD glob call cx ⟨some d,none,.lallocp d zs⟩ env s=.norm env1 s1 ↔ lk env d=none∧env1=(d,.bx zs)::env∧s1=s:=by
 have hl:(AOp.lallocp d zs).quiet.isSome=false:=rfl
 rw [fH hl]
 simp only [dQ,dh,aop]
 cases hk:lk env d with
 | some e=>simp
 | none=>
  have hput:put env d (.bx zs)=(d,.bx zs)::env:=by unfold put;rw [hk]
  simp only [EV.refers,Bool.false_eq_true,if_false,hput,Out.norm.injEq,true_and]
  exact ⟨fun h=>⟨h.1.symm,h.2.symm⟩,fun h=>⟨h.1.symm,h.2.symm⟩⟩
theorem akm {o p:aG} (hap:U8 o p=true) {env1 env2:Env} {s1 s2:St} (h1:iD glob call cx o env s=.norm env1 s1) (h2:iD glob call cx p env1 s1=.norm env2 s2):
  ∃f1 t1 f2,iD glob call cx p env s=.norm f1 t1∧iD glob call cx o f1 t1=.norm f2 s2∧EqE f2 env2:=by
 obtain ⟨pd,pg,pop⟩:=p
 simp only [U8,Bool.and_eq_true,Option.isNone_iff_eq_none] at hap
 obtain ⟨⟨⟨a1,a2⟩,a3⟩,a4⟩:=hap
 subst a2
 have hp:∃d zs,pd=some d∧pop=.lallocp d zs:=by
  split at a1
  ·rename_i d zs d';simp at a1;subst a1;exact ⟨d,zs,rfl,rfl⟩
  ·cases a1
 obtain ⟨d,zs,rfl,rfl⟩:=hp
 obtain ⟨hn,rfl,rfl⟩:=zy.1 h2
 have hod:o.dst≠some d:=by
  intro h
  rw [h] at a3
  simp at a3
 have agr:∀env:Env,lk env d=none→Agr (fun k=>k=d) env ((d,.bx zs)::env):=fun env h=>⟨fun k hk=>(aP _ _ (Ne.symm hk)).symm,fun k e hk he _=>by subst hk;rw [h] at he;cases he⟩
 by_cases hq:o.op.quiet.isSome=true
 ·rw [if_pos hq] at a4
  rw [cO hq] at h1
  obtain ⟨rfl,e,hqv,hokd,rfl⟩:=gG.1 h1
  rw [bH hod] at hn
  refine ⟨(d,.bx zs)::env,s2,tH ((d,.bx zs)::env) o.dst e,zy.2 ⟨hn,rfl,rfl⟩, ?_, ?_⟩
  ·rw [cO hq]
   refine gG.2 ⟨rfl,e,zo (agr env hn) (fun k hk hkd=>?_) hqv,fun dp hdp=>⟨(hokd dp hdp).1, ?_⟩,rfl⟩
   ·subst hkd
    have:=EW a4 k hk
    exact this rfl
   ·have:=(hokd dp hdp).2
    unfold lU at this ⊢
    rwa [aP _ _ (fun h=>hod (by rw [hdp,h]))]
  ·exact AL (d1:=o.dst) (d2:=some d) (e1:=e) (e2:=.bx zs) (fun x hx hd=>hod (by rw [hx,hd]))
 ·rw [if_neg hq] at a4
  obtain ⟨od,og,oop⟩:=o
  simp only [] at a4 hod hq
  split at a4
  ·rename_i dd t sz x y d'
   simp only [Bool.and_eq_true,beq_iff_eq,Option.isNone_iff_eq_none] at a4
   obtain ⟨⟨rfl,b1⟩,rfl⟩:=a4
   have hloud:(AOp.apprp dd t sz x y).quiet.isSome=false:=rfl
   rw [fH hloud] at h1
   obtain ⟨v,hdn,rfl,_,hrun⟩:=PL h1
   have hdd:dd≠d:=fun h=>hod (by rw [h])
   rw [aP _ _ hdd] at hn
   simp [tY] at b1
   refine ⟨(d,.bx zs)::env,s,(dd,.v v)::(d,.bx zs)::env,zy.2 ⟨hn,rfl,rfl⟩, ?_, ?_⟩
   ·rw [fH hloud]
    refine hrun _ (by rw [aP _ _ (Ne.symm hdd)];exact hdn) (fun ys hys=>O6 (agr env hn) (fun k hk hkd=>?_) hys) (yU (agr env hn) (fun k hk hkd=>?_)).symm
    ·subst hkd;exact (b1.2 k hk) rfl
    ·subst hkd;exact (b1.1 k hk) rfl
   ·exact AL (d1:=some dd) (d2:=some d) (e1:=.v v) (e2:=.bx zs) (fun x hx hd=>hod (by cases hx;cases hd;rfl))
  ·cases a4
theorem akn {o p:aG} (hap:U9 o p=true) {env1 env2:Env} {s1 s2:St} (h1:iD glob call cx o env s=.norm env1 s1) (h2:iD glob call cx p env1 s1=.norm env2 s2):
  ∃f1 t1 f2,iD glob call cx p env s=.norm f1 t1∧iD glob call cx o f1 t1=.norm f2 s2∧EqE f2 env2:=by
 obtain ⟨pd,pg,pop⟩:=p
 simp only [U9,Bool.and_eq_true,Option.isNone_iff_eq_none] at hap
 obtain ⟨⟨⟨⟨a1,a2⟩,a3⟩,a4⟩,a5⟩:=hap
 subst a3 a4
 cases hl:pop.heapy with
 | none=>rw [hl] at a2;cases a2
 | some l=>
 rw [hl] at a2
 simp only [] at a2
 have hq:=um a1
 rw [cO hq] at h1
 rw [fH (BD hl)] at h2
 obtain ⟨rfl,e,hqv,hokd,rfl⟩:=gG.1 h1
 obtain ⟨eo,rfl,_,_,hrun⟩:=GU hl a5 h2
 refine ⟨env,s2,tH env o.dst e, ?_, ?_,.refl _⟩
 ·rw [fH (BD hl)]
  refine hrun env (fun j hj=>(bH (fun hd=>?_)).symm) (fun d hd=>by cases hd)
  rw [hd] at a2
  simp only [tY,List.all_eq_true,bne_iff_ne] at a2
  exact a2 j hj rfl
 ·rw [cO hq]
  exact gG.2 ⟨rfl,e,by rw [Jc a1 s2 s1];exact hqv,hokd,rfl⟩
theorem ED {n k:Nat} {x:IX} {env1:Env} {s1:St}:iD glob call cx ⟨none,none,.storel n k x⟩ env s=.norm env1 s1 ↔
  s1=s∧∃cs xv,lk env k=some (.bx cs)∧ev glob env x=some (.v xv)∧(xv.cells.length=n∧n≠0∧xv.cells.all AV.one=true∧n≤cs.length)∧env1=(k,.bx (splice cs 0 xv.cells))::env:=by
 have hl:(AOp.storel n k x).quiet.isSome=false:=rfl
 rw [fH hl]
 simp only [dQ,dh,aop]
 constructor
 ·intro h
  split at h
  ·cases h
  ·cases h
  ·rename_i e env2 s2 ha
   cases h
   split at ha
   ·rename_i cs xv hk hx
    split at ha
    ·rename_i hc;cases ha;exact ⟨rfl,cs,xv,hk,hx,hc,rfl⟩
    ·cases ha
   ·cases ha
 ·rintro ⟨rfl,cs,xv,hk,hx,hc,rfl⟩
  rw [hk,hx]
  simp only [if_pos hc]
def acO (glob:Nat→Option (List AV)) (env:Env) (sz:Nat) (x i:IX):Option EV:=
 match rd glob env i with
 | some (.i _ n)=>match jd env x with
  | some k=>match lk env k with
   | some (.own _ _ sz' es)=>if sz=sz'∧0≤n∧n.toNat<es.length then some (.ep k sz n.toNat 0) else none
   | _=>none
  | none=>match rd glob env x with
   | some (.sl es)=>match es[n.toNat]? with
    | some e=>if 0≤n∧e.cells.length=sz then some (.v (.ip e.cells)) else none
    | none=>none
   | some (.sk l ver sz' o m)=>if sz=sz'∧0≤n∧n.toNat<m then some (.v (.sp l ver (o+n.toNat * sz))) else none
   | _=>none
 | _=>none
theorem agY {sz:Nat} {x i:IX}:aop glob call cx env s (.idx sz x i)=match acO glob env sz x i with|some e=>.ok e env s|none=>.fail:=by
 unfold acO
 simp only [aop]
 cases rd glob env i with
 | none=>rfl
 | some a=>
  cases a<;>try rfl
  rename_i k n
  simp only []
  cases jd env x with
  | some j=>
   simp only []
   cases lk env j with
   | none=>rfl
   | some e=>
    cases e<;>try rfl
    rename_i tip t sz' es
    simp only []
    by_cases hc:sz=sz'∧0≤n∧n.toNat<es.length
    ·rw [if_pos hc,if_pos hc]
    ·rw [if_neg hc,if_neg hc]
  | none=>
   simp only []
   cases rd glob env x with
   | none=>rfl
   | some b=>
    cases b<;>try rfl
    ·rename_i es
     simp only []
     cases es[n.toNat]? with
     | none=>rfl
     | some e=>
      simp only []
      by_cases hc:0≤n∧e.cells.length=sz
      ·rw [if_pos hc,if_pos hc]
      ·rw [if_neg hc,if_neg hc]
    ·rename_i l ver sz' o m
     simp only []
     by_cases hc:sz=sz'∧0≤n∧n.toNat<m
     ·rw [if_pos hc,if_pos hc]
     ·rw [if_neg hc,if_neg hc]
theorem Yn {op:AOp} (h:op.still=true):op.quiet.isSome=true:=by cases op<;>first|rfl | (cases h;done)
theorem Rt {x:IX} (h:∀j∈x.slots,lk env2 j=lk env j):ev glob env2 x=ev glob env x:=by
 cases x with
 | t k=>exact h k (by simp [IX.slots])
 | c a=>rfl
 | g k=>rfl
theorem aas {o:aG} (ho:o.op.still=true) (h:∀j∈o.reads,lk env2 j=lk env j) (hk:∀j,lk env2 j=lk env j∨∃cs cs',lk env2 j=some (.bx cs)∧lk env j=some (.bx cs')):wz glob call o env2 s=wz glob call o env s:=by
 have hw:dh env2 o.guard=dh env o.guard:=by
  cases hg:o.guard with
  | none=>rfl
  | some p=>
   obtain ⟨k,b⟩:=p
   have:lk env2 k=lk env k:=h k (by simp [aG.reads,hg])
   simp only [dh,this]
 have hx:∀{rs es:List IX},o.op.quiet=some (rs,es)→∀x∈rs++es,ev glob env2 x=ev glob env x:=by
  intro rs es hq x hx
  refine Rt fun j hj=>h j ?_
  simp only [aG.reads,hq,List.mem_append,List.mem_flatMap]
  exact .inl ⟨x,by simpa using hx,hj⟩
 unfold wz
 rw [hw]
 split
 ·rfl
 ·rfl
 ·cases hop:o.op<;>rw [hop] at ho<;>(try (cases ho;done))
  case mov x=>
   have hex:ev glob env2 x=ev glob env x:=hx (rs:=[x]) (es:=[]) (by rw [hop];rfl) x (by simp)
   have hn:rH glob env2 x=rH glob env x:=by unfold rH;rw [hex]
   have hm:Gv glob env2 x=Gv glob env x:=by unfold Gv;rw [hex]
   simp only [okQ,AOp.quiet,List.all_cons,List.all_nil,Bool.and_true,hn]
   split
   ·rename_i hok
    rw [Ju hok,Ju (by rw [hn];exact hok),hm]
    cases Gv glob env x<;>simp
   ·rfl
  case bin bop x y=>
   have hex:ev glob env2 x=ev glob env x:=hx (rs:=[x,y]) (es:=[]) (by rw [hop];rfl) x (by simp)
   have hey:ev glob env2 y=ev glob env y:=hx (rs:=[x,y]) (es:=[]) (by rw [hop];rfl) y (by simp)
   have hn:rH glob env2 x=rH glob env x:=by unfold rH;rw [hex]
   have hn2:rH glob env2 y=rH glob env y:=by unfold rH;rw [hey]
   have hr:rd glob env2 x=rd glob env x:=by unfold rd;rw [hex]
   have hr2:rd glob env2 y=rd glob env y:=by unfold rd;rw [hey]
   simp only [okQ,AOp.quiet,List.all_cons,List.all_nil,Bool.and_true,hn,hn2,aop,hr,hr2]
   split
   ·cases rd glob env x with
    | none=>rfl
    | some a=>
     cases rd glob env y with
     | none=>rfl
     | some b=>simp only [];cases ZK bop a b<;>simp [okv]
   ·rfl
  case len k x=>
   have hex:ev glob env2 x=ev glob env x:=hx (rs:=[x]) (es:=[]) (by rw [hop];rfl) x (by simp)
   have hn:rH glob env2 x=rH glob env x:=by unfold rH;rw [hex]
   have hr:rd glob env2 x=rd glob env x:=by unfold rd;rw [hex]
   have hel:elems glob env2 x=elems glob env x:=by
    unfold elems
    rw [hex]
    split<;>try rfl
    rename_i j _
    rcases hk j with h1|⟨cs,cs',h1,h2⟩
    ·rw [h1]
    ·rw [h1,h2]
   simp only [okQ,AOp.quiet,List.all_cons,List.all_nil,Bool.and_true,hn]
   split
   ·rcases k with _ | _ | _|k
    ·simp only [aop,hel,hr]
     cases elems glob env x with
     | some es=>simp
     | none=>
      cases rd glob env x with
      | none=>simp
      | some a=>cases a<;>simp
    ·simp only [aop,hr]
     cases rd glob env x with
     | none=>simp
     | some a=>cases a<;>simp
    ·simp only [aop,hr]
     cases rd glob env x with
     | none=>simp
     | some a=>
      cases a<;>try (simp;done)
      rename_i l
      cases hsl:s[l]? with
      | none=>simp [hsl]
      | some ob=>cases ob<;>simp [hsl]
    ·simp [aop]
   ·rfl
  case fld off x=>
   have hex:ev glob env2 x=ev glob env x:=hx (rs:=[x]) (es:=[]) (by rw [hop];rfl) x (by simp)
   have hn:rH glob env2 x=rH glob env x:=by unfold rH;rw [hex]
   have ha:addr glob env2 off x=addr glob env off x:=by unfold addr;rw [hex]
   simp only [okQ,AOp.quiet,List.all_cons,List.all_nil,Bool.and_true,hn,aop,ha]
   split
   ·cases addr glob env off x<;>rfl
   ·rfl
  case loadp d n x=>
   have hex:ev glob env2 x=ev glob env x:=hx (rs:=[x,.t d]) (es:=[]) (by rw [hop];rfl) x (by simp)
   have hed:ev glob env2 (.t d)=ev glob env (.t d):=hx (rs:=[x,.t d]) (es:=[]) (by rw [hop];rfl) (.t d) (by simp)
   have hed':lk env2 d=lk env d:=hed
   have hn:rH glob env2 x=rH glob env x:=by unfold rH;rw [hex]
   have hn2:rH glob env2 (.t d)=rH glob env (.t d):=by unfold rH;rw [hed]
   have hl2:∀a,ev glob env x=some (.v a)→iU glob env2 s n x=iU glob env s n x:=fun a hv=>by unfold iU;rw [hex,hv];cases a<;>rfl
   simp only [okQ,AOp.quiet,List.all_cons,List.all_nil,Bool.and_true,hn,hn2,aop,hex,hed']
   split
   ·cases lk env d with
    | some e=>rfl
    | none=>
     cases hv:ev glob env x with
     | none=>rfl
     | some e=>
      cases e<;>try rfl
      rename_i a
      simp only [hl2 a hv]
      cases iU glob env s n x<;>simp [okv]
   ·rfl
  case idx sz x y=>
   have hex:ev glob env2 x=ev glob env x:=hx (rs:=[x,y]) (es:=[]) (by rw [hop];rfl) x (by simp)
   have hey:ev glob env2 y=ev glob env y:=hx (rs:=[x,y]) (es:=[]) (by rw [hop];rfl) y (by simp)
   have hn:rH glob env2 x=rH glob env x:=by unfold rH;rw [hex]
   have hn2:rH glob env2 y=rH glob env y:=by unfold rH;rw [hey]
   have hr:rd glob env2 x=rd glob env x:=by unfold rd;rw [hex]
   have hr2:rd glob env2 y=rd glob env y:=by unfold rd;rw [hey]
   have ho:jd env2 x=jd env x:=by
    cases x with
    | t k=>have:lk env2 k=lk env k:=hex;unfold jd;simp only [this]
    | c a=>rfl
    | g k=>rfl
   have hi:acO glob env2 sz x y=acO glob env sz x y:=by
    unfold acO
    rw [hr,hr2,ho]
    cases jd env x with
    | none=>rfl
    | some k=>
     rcases hk k with h1|⟨cs,cs',h1,h2⟩
     ·simp only [h1]
     ·simp only [h1,h2]
   simp only [okQ,AOp.quiet,List.all_cons,List.all_nil,Bool.and_true,hn,hn2,agY,hi]
   split
   ·cases acO glob env sz x y<;>rfl
   ·rfl
theorem akj {o p:aG} (hap:U5 o p=true) {env1 env2:Env} {s1 s2:St} (h1:iD glob call cx o env s=.norm env1 s1) (h2:iD glob call cx p env1 s1=.norm env2 s2):
  ∃f1 t1 f2,iD glob call cx p env s=.norm f1 t1∧iD glob call cx o f1 t1=.norm f2 s2∧EqE f2 env2:=by
 obtain ⟨pd,pg,pop⟩:=p
 simp only [U5,Bool.and_eq_true,Option.isNone_iff_eq_none] at hap
 obtain ⟨⟨⟨a1,a2⟩,a3⟩,a4⟩:=hap
 subst a2 a3
 cases pop<;>(try (cases a4;done))
 rename_i n k x
 simp only [Bool.and_eq_true] at a4
 obtain ⟨b1,b2⟩:=a4
 have hq:=Yn a1
 rw [cO hq] at h1
 obtain ⟨rfl,e,hqv,hokd,rfl⟩:=gG.1 h1
 obtain ⟨rfl,cs,xv,c1,c2,c3,rfl⟩:=ED.1 h2
 have hd:∀j∈k::x.slots,o.dst≠some j:=by
  intro j hj hdj
  rw [hdj] at b1
  simp only [tY,List.all_eq_true,bne_iff_ne] at b1
  exact b1 j hj rfl
 have hk:lk env k=some (.bx cs):=by rw [←c1,bH (hd k (by simp))]
 have hx:ev glob env x=some (.v xv):=by
  rw [←c2]
  exact (Rt fun j hj=>bH (hd j (by simp [hj]))).symm
 refine ⟨(k,.bx (splice cs 0 xv.cells))::env,s2,tH ((k,.bx (splice cs 0 xv.cells))::env) o.dst e,ED.2 ⟨rfl,cs,xv,hk,hx,c3,rfl⟩, ?_, ?_⟩
 ·rw [cO hq]
  refine gG.2 ⟨rfl,e, ?_,fun d hdd=>⟨(hokd d hdd).1, ?_⟩,rfl⟩
  ·rw [aas (env:=env) a1 (fun j hj=>aP _ _ (fun h=>?_)) (fun j=>?_)]
   ·exact hqv
   ·simp only [List.all_eq_true,bne_iff_ne] at b2
    exact b2 j hj h.symm
   ·by_cases hjk:k=j
    ·subst hjk;exact .inr ⟨_,_,dn _ _ _,hk⟩
    ·exact .inl (aP _ _ hjk)
  ·have:=(hokd d hdd).2
   unfold lU at this ⊢
   rwa [aP _ _ (fun h=>hd k (by simp) (by rw [hdd,h]))]
 ·exact AL (d1:=o.dst) (d2:=some k) (e1:=e) (e2:=.bx (splice cs 0 xv.cells)) (fun y hy hz=>hd k (by simp) (by rw [hy,hz]))
theorem yY {o:aG} {d:Nat} {l:List Nat} (h:o.callS=some (d,l)):∃f as,o=⟨some d,none,.callh d f as⟩∧l=f.slots++as.flatMap IX.slots:=by
 unfold aG.callS at h
 split at h
 ·split at h
  ·rename_i hd;cases h;subst hd;exact ⟨_,_,rfl,rfl⟩
  ·cases h
 ·cases h
theorem DL {env2:Env} {x:IX} (h:∀k∈x.slots,lk env2 k=lk env k):rd glob env2 x=rd glob env x:=by
 unfold rd;rw [Rt (env2:=env2) (env:=env) h]
theorem DN {env2:Env}:∀{as:List IX},(∀k∈as.flatMap IX.slots,lk env2 k=lk env k)→rds glob env2 as=rds glob env as
 | [],_=>rfl
 | x::r,h=>by
  unfold rds
  rw [DL (env2:=env2) (env:=env) (fun k hk=>h k (by simp [hk])),DN (as:=r) (fun k hk=>h k (by simp at hk ⊢;exact .inr hk))]
theorem IG {d:Nat} {f:IX} {as:List IX} {out:Out} (h:dQ glob call cx ⟨some d,none,.callh d f as⟩ env s=out) (ho:out≠.fail):
  lk env d=none∧∃fv vs,rd glob env f=some fv∧rds glob env as=some vs∧((∃r s1,call fv vs s cx=.ret r s1∧out=.norm ((d,.v r)::env) s1)∨∃v s1,call fv vs s cx=.pan v s1∧out=.pan v s1):=by
 simp only [dQ,dh,aop] at h
 cases hk:lk env d with
 | some e=>rw [hk] at h;exact absurd h.symm ho
 | none=>
  rw [hk] at h
  simp only [] at h
  cases hf:rd glob env f with
  | none=>rw [hf] at h;exact absurd h.symm ho
  | some fv=>
   cases hv:rds glob env as with
   | none=>rw [hf,hv] at h;exact absurd h.symm ho
   | some vs=>
    rw [hf,hv] at h
    simp only [] at h
    refine ⟨rfl,fv,vs,rfl,rfl, ?_⟩
    cases hc:call fv vs s cx with
    | fail=>rw [hc] at h;exact absurd h.symm ho
    | pan v s1=>rw [hc] at h;exact .inr ⟨v,s1,rfl,h.symm⟩
    | ret r s1=>
     rw [hc] at h
     have hput:put env d (.v r)=(d,.v r)::env:=by unfold put;rw [hk]
     simp only [EV.refers,Bool.false_eq_true,if_false,hput] at h
     exact .inl ⟨r,s1,rfl,h.symm⟩
theorem II {d:Nat} {f:IX} {as:List IX} {fv:AV} {vs:List AV} (hk:lk env d=none) (hf:rd glob env f=some fv) (hv:rds glob env as=some vs):
  dQ glob call cx ⟨some d,none,.callh d f as⟩ env s=match call fv vs s cx with
   | .ret r s1=>.norm ((d,.v r)::env) s1
   | .pan v s1=>.pan v s1
   | .fail=>.fail:=by
 have hput:∀e,put env d e=(d,e)::env:=fun e=>by unfold put;rw [hk]
 simp only [dQ,dh,aop,hk,hf,hv]
 cases call fv vs s cx<;>simp [EV.refers,hput]
theorem BK {d:Nat} {f:IX} {as:List IX}:(AOp.callh d f as).quiet.isSome=false:=rfl
theorem akq {o p:aG} (hap:zV o p=true) {env1 env2:Env} {s1 s2:St} (h1:iD glob call cx o env s=.norm env1 s1) (h2:iD glob call cx p env1 s1=.norm env2 s2):
  ∃f1 t1 f2,iD glob call cx p env s=.norm f1 t1∧iD glob call cx o f1 t1=.norm f2 s2∧EqE f2 env2:=by
 simp only [zV,Bool.and_eq_true] at hap
 obtain ⟨a1,a2⟩:=hap
 cases hcs:p.callS with
 | none=>rw [hcs] at a2;cases a2
 | some q=>
 obtain ⟨d,l⟩:=q
 rw [hcs] at a2
 simp only [Bool.and_eq_true,List.all_eq_true,bne_iff_ne,ne_eq] at a2
 obtain ⟨a2,a3⟩:=a2
 obtain ⟨f,as,rfl,rfl⟩:=yY hcs
 have hq:=um a1
 rw [cO hq] at h1
 rw [fH BK] at h2
 obtain ⟨rfl,e,hqv,hokd,rfl⟩:=gG.1 h1
 obtain ⟨hn,fv,vs,hf,hv,hcase⟩:=IG h2 (by simp)
 have hnd:∀k∈d::(f.slots++as.flatMap IX.slots),o.dst≠some k:=by
  intro k hk hd
  rw [hd] at a2
  simp only [tY,List.all_eq_true,bne_iff_ne] at a2
  exact a2 k hk rfl
 have hod:o.dst≠some d:=hnd d (by simp)
 rw [bH hod] at hn
 rw [DL (env2:=tH env o.dst e) (env:=env) (fun k hk=>bH (hnd k (by simp [hk])))] at hf
 rw [DN (env2:=tH env o.dst e) (env:=env) (fun k hk=>bH (hnd k (List.mem_cons_of_mem _ (List.mem_append_right _ hk))))] at hv
 rcases hcase with ⟨r,t,hc,hout⟩|⟨_,_,_,hout⟩
 ·cases hout
  refine ⟨(d,.v r)::env,s2,tH ((d,.v r)::env) o.dst e,by rw [fH BK,II hn hf hv,hc], ?_, ?_⟩
  ·rw [cO hq]
   have agr:Agr (fun k=>k=d) env ((d,.v r)::env):=⟨fun k hk=>(aP _ _ (Ne.symm hk)).symm,fun k e hk he _=>by subst hk;rw [hn] at he;cases he⟩
   refine gG.2 ⟨rfl,e,by rw [Jc a1 s2 s1];exact zo agr (fun k hk hkd=>a3 k hk hkd) hqv,fun dp hdp=>⟨(hokd dp hdp).1, ?_⟩,rfl⟩
   have:=(hokd dp hdp).2
   unfold lU at this ⊢
   rwa [aP _ _ (fun h=>hod (by rw [hdp,h]))]
  ·exact AL (d1:=o.dst) (d2:=some d) (e1:=e) (e2:=.v r) (fun x hx hd=>hod (by rw [hx,hd]))
 ·cases hout
theorem acy {o p:aG} (hap:zV o p=true) {env1:Env} {s1:St} (h1:iD glob call cx o env s=.norm env1 s1) {v:AV} (h2:dQ glob call cx p env1 s1=.pan v s'):s1=s∧dQ glob call cx p env s=.pan v s':=by
 simp only [zV,Bool.and_eq_true] at hap
 obtain ⟨a1,a2⟩:=hap
 cases hcs:p.callS with
 | none=>rw [hcs] at a2;cases a2
 | some q=>
 obtain ⟨d,l⟩:=q
 rw [hcs] at a2
 simp only [Bool.and_eq_true,List.all_eq_true,bne_iff_ne,ne_eq] at a2
 obtain ⟨a2,a3⟩:=a2
 obtain ⟨f,as,rfl,rfl⟩:=yY hcs
 have hq:=um a1
 rw [cO hq] at h1
 obtain ⟨rfl,e,hqv,hokd,rfl⟩:=gG.1 h1
 obtain ⟨hn,fv,vs,hf,hv,hcase⟩:=IG h2 (by simp)
 have hnd:∀k∈d::(f.slots++as.flatMap IX.slots),o.dst≠some k:=by
  intro k hk hd
  rw [hd] at a2
  simp only [tY,List.all_eq_true,bne_iff_ne] at a2
  exact a2 k hk rfl
 rw [bH (hnd d (by simp))] at hn
 rw [DL (env2:=tH env o.dst e) (env:=env) (fun k hk=>bH (hnd k (by simp [hk])))] at hf
 rw [DN (env2:=tH env o.dst e) (env:=env) (fun k hk=>bH (hnd k (List.mem_cons_of_mem _ (List.mem_append_right _ hk))))] at hv
 rcases hcase with ⟨_,_,_,hout⟩|⟨v',t,hc,hout⟩
 ·cases hout
 ·cases hout
  exact ⟨rfl,by rw [II hn hf hv,hc]⟩
theorem akp {o p:aG} (hap:Vb o p=true) {env1 env2:Env} {s1 s2:St} (h1:iD glob call cx o env s=.norm env1 s1) (h2:iD glob call cx p env1 s1=.norm env2 s2):
  s2=s1∧∃f1 f2,iD glob call cx p env s=.norm f1 s∧iD glob call cx o f1 s=.norm f2 s1∧EqE f2 env2:=by
 simp only [Vb,Bool.and_eq_true] at hap
 obtain ⟨a1,a2⟩:=hap
 cases hcs:o.callS with
 | none=>rw [hcs] at a2;cases a2
 | some q=>
 obtain ⟨d,l⟩:=q
 rw [hcs] at a2
 simp only [Bool.and_eq_true,List.all_eq_true,bne_iff_ne,ne_eq] at a2
 obtain ⟨a2,a3⟩:=a2
 obtain ⟨f,as,rfl,rfl⟩:=yY hcs
 have hq:=um a1
 rw [fH BK] at h1
 rw [cO hq] at h2
 obtain ⟨hn,fv,vs,hf,hv,hcase⟩:=IG h1 (by simp)
 rcases hcase with ⟨r,t,hc,hout⟩|⟨_,_,_,hout⟩
 ·cases hout
  obtain ⟨rfl,e,hqv,hokd,rfl⟩:=gG.1 h2
  have hnd:∀k∈d::(f.slots++as.flatMap IX.slots),p.dst≠some k:=by
   intro k hk hd
   rw [hd] at a2
   simp only [tY,List.all_eq_true,bne_iff_ne] at a2
   exact a2 k hk rfl
  have hpd:p.dst≠some d:=hnd d (by simp)
  have agr:Agr (fun k=>k=d) ((d,.v r)::env) env:=⟨fun k hk=>aP _ _ (Ne.symm hk),fun k e hk he ho=>by subst hk;rw [dn] at he;cases he;cases ho⟩
  have hqv':wz glob call p env s=some e:=by rw [Jc a1 s s2];exact zo agr (fun k hk hkd=>a3 k hk hkd) hqv
  have hok':okD env p.dst e:=fun dp hdp=>⟨(hokd dp hdp).1,by
   have:=(hokd dp hdp).2
   unfold lU at this ⊢
   rwa [aP _ _ (fun h=>hpd (by rw [hdp,h]))] at this⟩
  refine ⟨rfl,tH env p.dst e,(d,.v r)::tH env p.dst e,by rw [cO hq];exact gG.2 ⟨rfl,e,hqv',hok',rfl⟩, ?_,AL (d1:=some d) (d2:=p.dst) (e1:=.v r) (e2:=e) (fun x hx hd=>hpd (by cases hx;exact hd))⟩
  rw [fH BK,II (by rw [bH hpd];exact hn) (by rw [DL (env2:=tH env p.dst e) (env:=env) (fun k hk=>bH (hnd k (by simp [hk])))];exact hf) (by rw [DN (env2:=tH env p.dst e) (env:=env) (fun k hk=>bH (hnd k (List.mem_cons_of_mem _ (List.mem_append_right _ hk))))];exact hv),hc]
 ·cases hout
def Yb (p:aG):Prop:=p.op.quiet.isSome=true∨(∃d zs,p=⟨some d,none,.lallocp d zs⟩)∨(∃op l,p=⟨none,none,op⟩∧op.heapy=some l∧Zl op none=true)∨(∃n k x,p=⟨none,none,.storel n k x⟩)∨∃d f as,p=⟨some d,none,.callh d f as⟩
theorem PW {p:aG} (hp:Yb p) (he:EqE env env2) {env1:Env} {s1:St} (h:iD glob call cx p env s=.norm env1 s1):∃env1',iD glob call cx p env2 s=.norm env1' s1∧EqE env1 env1':=by
 rcases hp with hq|⟨d,zs,rfl⟩|⟨op,l,rfl,hl,hd⟩|⟨n,k,x,rfl⟩|⟨d,f,as,rfl⟩
 ·have hs:=DR hq h
  subst hs
  exact acs hq he h
 ·obtain ⟨h1,rfl,rfl⟩:=zy.1 h
  exact ⟨_,zy.2 ⟨by rw [←he];exact h1,rfl,rfl⟩,fun j=>by rw [iK,iK,he j]⟩
 ·rw [fH (BD hl)] at h ⊢
  obtain ⟨e,rfl,_,_,hrun⟩:=GU hl hd h
  exact ⟨_,hrun env2 (fun j _=>(he j).symm) (fun d hd=>by cases hd),he⟩
 ·obtain ⟨rfl,cs,xv,c1,c2,c3,rfl⟩:=ED.1 h
  exact ⟨_,ED.2 ⟨rfl,cs,xv,by rw [←he];exact c1,by rw [Rt (env2:=env2) (env:=env) (fun j _=>(he j).symm)];exact c2,c3,rfl⟩,fun j=>by rw [iK,iK,he j]⟩
 ·rw [fH BK] at h ⊢
  obtain ⟨hn,fv,vs,hf,hv,hcase⟩:=IG h (by simp)
  rcases hcase with ⟨r,t,hc,hout⟩|⟨_,_,_,hout⟩
  ·cases hout
   refine ⟨(d,.v r)::env2, ?_,fun j=>by rw [iK,iK,he j]⟩
   rw [II (by rw [←he];exact hn) (by rw [DL (env2:=env2) (env:=env) (fun j _=>(he j).symm)];exact hf) (by rw [DN (env2:=env2) (env:=env) (fun j _=>(he j).symm)];exact hv),hc]
  ·cases hout
theorem X8 {o p:aG} (h:apart o p=true):Yb p:=by
 simp only [apart,Bool.or_eq_true] at h
 rcases h with ((((((((h|h)|h)|h)|h)|h)|h)|h)|h)|h
 ·exact .inl (CW h).2.1
 ·obtain ⟨_,_,d,n,x,rfl⟩:=Qs h;exact .inl rfl
 ·exact .inl (Qr h).2.2
 ·simp only [Va,Bool.and_eq_true] at h
  have h4:=h.1.1.2
  exact .inl (um h4)
 ·unfold U4 at h
  split at h
  ·exact .inr (.inr (.inl ⟨_,_,rfl,rfl,rfl⟩))
  ·cases h
 ·obtain ⟨pd,pg,pop⟩:=p
  simp only [U8,Bool.and_eq_true,Option.isNone_iff_eq_none] at h
  obtain ⟨⟨⟨a1,a2⟩,_⟩,_⟩:=h
  subst a2
  split at a1
  ·rename_i d0 zs0 d1;simp at a1;subst a1;exact .inr (.inl ⟨_,_,rfl⟩)
  ·cases a1
 ·obtain ⟨pd,pg,pop⟩:=p
  simp only [U9,Bool.and_eq_true,Option.isNone_iff_eq_none] at h
  obtain ⟨⟨⟨⟨_,a2⟩,a3⟩,a4⟩,a5⟩:=h
  subst a3 a4
  cases hl:pop.heapy with
  | none=>rw [hl] at a2;cases a2
  | some l=>exact .inr (.inr (.inl ⟨pop,l,rfl,hl,a5⟩))
 ·obtain ⟨pd,pg,pop⟩:=p
  simp only [U5,Bool.and_eq_true,Option.isNone_iff_eq_none] at h
  obtain ⟨⟨⟨_,a2⟩,a3⟩,a4⟩:=h
  subst a2 a3
  cases pop<;>(try (cases a4;done))
  exact .inr (.inr (.inr (.inl ⟨_,_,_,rfl⟩)))
 ·simp only [zV,Bool.and_eq_true] at h
  cases hcs:p.callS with
  | none=>rw [hcs] at h;cases h.2
  | some q=>obtain ⟨f,as,rfl,_⟩:=yY hcs;exact .inr (.inr (.inr (.inr ⟨_,_,_,rfl⟩)))
 ·simp only [Vb,Bool.and_eq_true] at h
  exact .inl (um h.1)
theorem swap {o p:aG} (hap:apart o p=true) {env1 env2:Env} {s1 s2:St} (h1:iD glob call cx o env s=.norm env1 s1) (h2:iD glob call cx p env1 s1=.norm env2 s2):
  ∃f1 t1 f2,iD glob call cx p env s=.norm f1 t1∧iD glob call cx o f1 t1=.norm f2 s2∧EqE f2 env2:=by
 simp only [apart,Bool.or_eq_true] at hap
 rcases hap with ((((((((hap|hap)|hap)|hap)|hap)|hap)|hap)|hap)|hap)|hap
 ·have ho:=(CW hap).1
  have hp2:=(CW hap).2.1
  have e1:=DR ho h1
  subst e1
  have e2:=DR hp2 h2
  subst e2
  rw [cO ho] at h1
  rw [cO hp2] at h2
  obtain ⟨f1,f2,q1,q2,q3⟩:=ack hap h1 h2
  exact ⟨f1,_,f2,by rw [cO hp2];exact q1,by rw [cO ho];exact q2,q3⟩
 ·obtain ⟨rfl,rfl,f1,f2,q⟩:=akl hap h1 h2
  exact ⟨f1,_,f2,q⟩
 ·obtain ⟨rfl,f1,f2,q⟩:=akk hap h1 h2
  exact ⟨f1,_,f2,q⟩
 ·obtain ⟨rfl,f1,f2,q⟩:=ako hap h1 h2
  exact ⟨f1,_,f2,q⟩
 ·exact aki hap h1 h2
 ·exact akm hap h1 h2
 ·exact akn hap h1 h2
 ·exact akj hap h1 h2
 ·exact akq hap h1 h2
 ·obtain ⟨rfl,f1,f2,q⟩:=akp hap h1 h2
  exact ⟨f1,_,f2,q⟩
theorem bubble {i:Nat} {q:List Nat} {oi:aG} (hoi:aops[i]?=some oi) (hmv:Yb oi):∀(p:List Nat),(∀j∈p,LH aops j i)→∀{env:Env} {s:St},Runs glob call cx aops (p++i::q) env s env' s'→
  ∃env1 s1,iD glob call cx oi env s=.norm env1 s1∧Runs glob call cx aops (p++q) env1 s1 env' s'
 | [],_,env,s,h=>by
  obtain ⟨o,e0,e1,s1,ho,he,hr,h2⟩:=h
  rw [hoi] at ho;cases ho
  obtain ⟨e3,h3,h4⟩:=PW hmv he.symm hr
  exact ⟨e3,s1,h3,h2.eqE h4.symm⟩
 | j::p,hap,env,s,h=>by
  obtain ⟨oj,e0,ej,sj,hoj,he,hrj,hrest⟩:=h
  obtain ⟨ei,si,hri,h4⟩:=bubble hoi hmv p (fun k hk=>hap k (by simp [hk])) hrest
  obtain ⟨o1,o2,h1,h2,hapr⟩:=hap j (by simp)
  rw [hoj] at h1;cases h1
  rw [hoi] at h2;cases h2
  obtain ⟨f1,t1,f2,q1,q2,q3⟩:=swap hapr hrj hri
  obtain ⟨f3,q4,q5⟩:=PW hmv he.symm q1
  exact ⟨f3,t1,q4,oj,f1,f2,_,hoj,q5.symm,q2,h4.eqE q3⟩
theorem PO {F:Fence} {n i b0:Nat} {N:Wd} {ls:List Nat} {o:Oper} {ao:aG} {Q:Exit→Act→World→Prop} {K:Act→World→Prop} (hcall:sN qt P glob call) (hext:gX call) (hF:isF F) (h:Fr P glob g s B w a env N b0 ls)
  (hi:ops[i]?=some o) (hc:vW P N ops o ao=true) (hr:Ah glob call ao env s=.norm env' s)
  (hK:∀g' w' a',Step qt g s.length B w g' s.length w'→Fr P glob g' s B w' a' env' N b0 ls→K a' w'):wpOpIn F n P ops Q i K a w:=by
 obtain ⟨_,e,hq,hd,rfl⟩:=gG.1 hr
 have hcx:fE ⟨s.length,s.length⟩ s:=⟨Nat.le_refl _,Nat.le_refl _⟩
 have key:∃env1,dQ glob call ⟨s.length,s.length⟩ ao env s=.norm env1 s∧EqE env1 (tH env ao.dst e):=by
  unfold wz at hq
  unfold dQ
  split at hq
  ·cases hq
  ·rename_i hw
   cases hq
   try simp only [hw]
   cases hdst:ao.dst with
   | none=>exact ⟨env,rfl,fun _=>rfl⟩
   | some d=>exact ⟨_,rfl,fun k=>by rw [Ol (hd d hdst).2];rfl⟩
  ·rename_i hw
   try simp only [hw]
   split at hq
   ·rename_i hok
    split at hq
    ·rename_i e1 env1 s1 ha
     split at hq
     ·rename_i hc2
      cases hq
      have hx:Ext ⟨s.length,s.length⟩ s s1:=X9 hext hcx ha
      have hs:s1=s:=by
       apply List.ext_getElem?
       intro l
       by_cases hl:l<s.length
       ·exact hx.lim l hl
       ·rw [List.getElem?_eq_none (by omega),List.getElem?_eq_none (by omega)]
      subst hs
      unfold okQ at hok
      split at hok
      ·rename_i rs es hqu
       simp only [Bool.and_eq_true] at hok
       obtain ⟨hl,_⟩:=ab2 (Agr.refl env) hqu (fun x _ k _ hf=>hf) hok.1 hok.2 ha
       rw [ha]
       simp only []
       cases hdst:ao.dst with
       | none=>exact ⟨env1,rfl,hl⟩
       | some d=>
        obtain ⟨d1,d2⟩:=hd d hdst
        simp only [d1]
        refine ⟨_,rfl,fun k=>?_⟩
        rw [Ol (by unfold lU at d2 ⊢;rw [hl d];exact d2)]
        exact (EqE.put (env:=env1) (env2:=env) hl (some d) e) k
      ·cases hok
     ·cases hq
    ·cases hq
   ·cases hq
 obtain ⟨env1,hr1,he⟩:=key
 exact G7 hcall hext hF hcx h hi hc hr1 (fun g' w' a' hs hf=>hK g' w' a' hs (hf.eqE he))
end Go.Ai
namespace Go.Ai
variable {qt:Prop} {P:Program} {glob:Nat→Option (List AV)} {g:ah} {s:St} {B:Nat} {w:World} {env env2:Env} {a:Act} {call:AV→List AV→St→Ctx→CO} {cx:Ctx} {env':Env} {s':St} {ops:Array Oper} {aops:List aG}
theorem FD {N:Wd} {all:Array Oper}:∀(os:List Oper) (aos:List aG),lH P N all os aos=true→∀(i:Nat) (o:Oper),os[i]?=some o→∃ao,aos[i]?=some ao∧vW P N all o ao=true
 | [],_,_,i,o,h=>by simp at h
 | o::os,[],hc,_,_,_=>by simp [lH] at hc
 | o::os,ao::aos,hc,i,o',h=>by
  simp only [lH,Bool.and_eq_true] at hc
  cases i with
  | zero=>simp at h;subst h;exact ⟨ao,rfl,hc.1⟩
  | succ i=>simp at h;simpa using FD os aos hc.2 i o' h
theorem agH {F:Fence} {n b0:Nat} {N:Wd} {ls:List Nat} {Q:Exit→Act→World→Prop} (hcall:sN qt P glob call) (hext:gX call) (hF:isF F)
  (hops:∀(i:Nat) (o:Oper),ops[i]?=some o→∃ao,aops[i]?=some ao∧vW P N ops o ao=true):
  ∀(fuel:Nat) (listed:Array Bool) (l:List Nat) {env:Env} {g:ah} {s:St} {w:World} {a:Act},l.length=fuel→Inv ops aops listed l→
    Runs glob call cx aops l env s env' s'→fE cx s→Fr P glob g s B w a env N b0 ls→
    (∀g' w' a',Step qt g s.length B w g' s'.length w'→Fr P glob g' s' B w' a' env' N b0 ls→Q .normal a' w')→wpAnyIn F n P .any ops Q fuel listed a w:=by
 intro fuel
 induction fuel with
 | zero=>
  intro listed l env g s w a hlen hinv hrun hcx hfr hQ
  have hnil:l=[]:=List.eq_nil_of_length_eq_zero hlen
  subst hnil
  obtain ⟨he,rfl⟩:=hrun
  exact ⟨hinv.nil_ready,hQ g w a (.refl _ _ _ _) (hfr.eqE he)⟩
 | succ fuel ih=>
  intro listed l env g s w a hlen hinv hrun hcx hfr hQ
  refine ⟨fun h0=>?_,fun i hi=>?_⟩
  ·cases l with
   | nil=>cases hlen
   | cons j t=>have:=hinv.head_ready;rw [h0] at this;cases this
  ·have hmem:=hinv.ready_mem hi
   obtain ⟨_,o,ho,_⟩:=mem_ready.1 hi
   obtain ⟨ao,hao,hchk⟩:=hops i o ho
   obtain ⟨p,q,rfl⟩:=List.append_of_mem hmem
   have hpair:∀j∈p,LH aops j i:=by
    intro j hj
    have:=(List.pairwise_append.1 hinv.pairs).2.2 j hj i (by simp)
    rcases this with h1|h1
    ·exact absurd h1 (hinv.not_reach hi (by simp [hj]))
    ·exact h1
   have hinv':Inv ops aops (listed.setIfInBounds i true) (p++q):=hinv.remove hi
   have hlen':(p++q).length=fuel:=by simp at hlen ⊢;omega
   have loudCase:∀{env1:Env} {s1:St},ao.op.quiet.isSome=false→(∃e0,EqE env e0∧dQ glob call cx ao e0 s=.norm env1 s1)→Runs glob call cx aops (p++q) env1 s1 env' s'→wpOpIn F n P ops Q i (fun a' w'=>wpAnyIn F n P .any ops Q fuel (listed.setIfInBounds i true) a' w') a w:=by
    intro env1 s1 hqq ⟨e0,he,hr1⟩ hrest
    have hx:Ext cx s s1:=qm hext hcx (o:=ao) (by rw [hr1];rfl)
    exact G7 hcall hext hF hcx (hfr.eqE he) ho hchk hr1 (fun g1 w1 a1 st1 hf1=>ih _ (p++q) hlen' hinv' hrest (hcx.ext hx) hf1 (fun g2 w2 a2 st2 hf2=>hQ g2 w2 a2 (st1.trans st2) hf2))
   cases hqq:ao.op.quiet.isSome with
   | true=>
    obtain ⟨env1,s1,hr1,hrest⟩:=bubble hao (.inl hqq) p hpair hrun
    have hs:=DR hqq hr1
    subst hs
    rw [cO hqq] at hr1
    exact PO hcall hext hF hfr ho hchk hr1 (fun g1 w1 a1 st1 hf1=>ih _ (p++q) hlen' hinv' hrest hcx hf1 (fun g2 w2 a2 st2 hf2=>hQ g2 w2 a2 (st1.trans st2) hf2))
   | false=>
    cases p with
    | cons j p=>
     obtain ⟨o1,o2,h1,h2,hapr⟩:=hpair j (by simp)
     rw [hao] at h2;cases h2
     obtain ⟨env1,s1,hr1,hrest⟩:=bubble hao (X8 hapr) (j::p) hpair hrun
     rw [fH hqq] at hr1
     exact loudCase hqq ⟨env,.refl _,hr1⟩ hrest
    | nil=>
     obtain ⟨o',e0,env1,s1,ho',he,hr1,hrest⟩:=hrun
     rw [hao] at ho';cases ho'
     rw [fH hqq] at hr1
     exact loudCase hqq ⟨e0,he,hr1⟩ hrest
theorem KA {b0:Nat} {N:Wd} {ls:List Nat}:∀(ts:List Nat) {g:ah} {env:Env},Fr P glob g s B w a env N b0 ls→∃g',Step qt g s.length B w g' s.length w∧Fr P glob g' s B w a (Dz env ts) N b0 ls
 | [],g,env,h=>⟨g,.refl _ _ _ _,h⟩
 | k::ts,g,env,h=>by
  unfold Dz
  split
  ·rename_i tip t sz es hk
   obtain ⟨g1,st1,hs1,_⟩:=Jq h.sim hk
   obtain ⟨g2,st2,h2⟩:=KA ts (h.next hs1 rfl rfl st1.le (fun _ hh=>hh) (fun _ _=>rfl))
   exact ⟨g2,st1.weak.trans st2,h2⟩
  ·exact KA ts h
theorem Nw:∀(π seen:List Nat),RF ops π seen=true→(∀i∈π,i<ops.size)∧π.Nodup∧(∀i∈π,i ∉ seen)∧∀p i q,π=p++i::q→∀e∈vP ops i,e∈seen∨e∈p
 | [],seen,_=>⟨fun _ h=>(by cases h),List.nodup_nil,fun _ h=>(by cases h),fun p i q h=>by simp at h⟩
 | i::r,seen,h=>by
  simp only [RF,Bool.and_eq_true,decide_eq_true_eq,List.all_eq_true,Bool.not_eq_true',List.contains_eq_mem,decide_eq_false_iff_not] at h
  obtain ⟨⟨⟨h1,h2⟩,h3⟩,h4⟩:=h
  obtain ⟨a1,a2,a3,a4⟩:=Nw r (i::seen) h4
  refine ⟨fun j hj=>?_,List.nodup_cons.2 ⟨fun hh=>a3 i hh (by simp),a2⟩,fun j hj=>?_,fun p k q heq e he=>?_⟩
  ·rcases List.mem_cons.1 hj with rfl|hj
   ·exact h1
   ·exact a1 j hj
  ·rcases List.mem_cons.1 hj with rfl|hj
   ·exact h2
   ·exact fun hh=>a3 j hj (by simp [hh])
  ·cases p with
   | nil=>simp at heq;obtain ⟨rfl,rfl⟩:=heq;exact .inl (h3 e he)
   | cons x p=>
    simp at heq
    obtain ⟨rfl,rfl⟩:=heq
    rcases a4 p k q rfl e he with h5|h5
    ·rcases List.mem_cons.1 h5 with rfl|h5
     ·exact .inr (by simp)
     ·exact .inl h5
    ·exact .inr (by simp [h5])
theorem Om:∀{π:List Nat} {c:Nat} {oc:aG},aav aops π=some (c,oc)→c∈π∧aops[c]?=some oc∧oc.callS.isSome=true
 | [],c,oc,h=>by cases h
 | i::r,c,oc,h=>by
  unfold aav at h
  split at h
  ·rename_i o ho
   split at h
   ·rename_i hc;cases h;exact ⟨by simp,ho,hc⟩
   ·obtain ⟨h1,h2⟩:=Om h;exact ⟨by simp [h1],h2⟩
  ·obtain ⟨h1,h2⟩:=Om h;exact ⟨by simp [h1],h2⟩
theorem KI {c:Nat} {oc:aG} (hoc:aops[c]?=some oc):∀(l:List Nat) (seen:Bool),l.Pairwise (fun j i=>Reach ops i j∨LH aops j i)→(seen=true→∀i∈l,Reach ops i c∨LH aops c i)→(∀i∈l,∃o,aops[i]?=some o)→
  (yL aops c oc seen l).Sublist l∧∀i∈l,i∈yL aops c oc seen l∨i=c∨Reach ops i c
 | [],seen,_,_,_=>⟨.slnil,fun i h=>by cases h⟩
 | i::r,seen,hp,hs,ha=>by
  obtain ⟨hp1,hp2⟩:=List.pairwise_cons.1 hp
  unfold yL
  by_cases hic:i=c
  ·rw [if_pos hic]
   subst hic
   obtain ⟨h1,h2⟩:=KI hoc r true hp2 (fun _ j hj=>hp1 j hj) (fun j hj=>ha j (by simp [hj]))
   refine ⟨h1.cons _,fun j hj=>?_⟩
   rcases List.mem_cons.1 hj with rfl|hj
   ·exact .inr (.inl rfl)
   ·exact h2 j hj
  ·rw [if_neg hic]
   obtain ⟨o,ho⟩:=ha i (by simp)
   rw [ho]
   simp only []
   obtain ⟨h1,h2⟩:=KI hoc r seen hp2 (fun hs' j hj=>hs hs' j (by simp [hj])) (fun j hj=>ha j (by simp [hj]))
   split
   ·rename_i hc
    simp only [Bool.and_eq_true,Bool.not_eq_true'] at hc
    refine ⟨h1.cons _,fun j hj=>?_⟩
    rcases List.mem_cons.1 hj with rfl|hj
    ·rcases hs hc.1 j (by simp) with h3|⟨o1,o2,q1,q2,q3⟩
     ·exact .inr (.inr h3)
     ·rw [hoc] at q1;cases q1
      rw [ho] at q2;cases q2
      rw [hc.2] at q3;cases q3
    ·exact h2 j hj
   ·refine ⟨h1.cons_cons _,fun j hj=>?_⟩
    rcases List.mem_cons.1 hj with rfl|hj
    ·exact .inl (by simp)
    ·rcases h2 j hj with h3|h3
     ·exact .inl (by simp [h3])
     ·exact .inr h3
theorem abb {R:Nat→Nat→Prop} {c:Nat}:∀(π:List Nat),π.Pairwise R→c∈π→∀j∈π.takeWhile (fun x=>x != c),R j c
 | [],_,hc,_,_=>by cases hc
 | i::r,hp,hc,j,hj=>by
  obtain ⟨hp1,hp2⟩:=List.pairwise_cons.1 hp
  by_cases hic:i=c
  ·subst hic;simp at hj
  ·rw [List.takeWhile_cons_of_pos (by simpa using hic)] at hj
   have hcr:c∈r:=by
    rcases List.mem_cons.1 hc with h|h
    ·exact absurd h.symm hic
    ·exact h
   rcases List.mem_cons.1 hj with rfl|hj
   ·exact hp1 c hcr
   ·exact abb r hp2 hcr j hj
theorem ZP {o p:aG} (h:apart o p=true) (hcs:p.callS.isSome=true):zV o p=true:=by
 obtain ⟨q,hq⟩:=Option.isSome_iff_exists.1 hcs
 obtain ⟨f,as,rfl,_⟩:=yY (d:=q.1) (l:=q.2) hq
 simp only [apart,Bool.or_eq_true] at h
 rcases h with ((((((((h|h)|h)|h)|h)|h)|h)|h)|h)|h
 ·simp [Vd,AOp.quiet] at h
 ·simp [U7] at h
 ·simp [U6,AOp.quiet] at h
 ·simp [Va,AOp.free] at h
 ·unfold U4 at h;split at h<;>first | (rename_i h2;cases h2;done)|cases h
 ·simp [U8] at h
 ·simp [U9] at h
 ·simp [U5] at h
 ·exact h
 ·simp [Vb,AOp.free] at h
theorem WN {oc:aG} (hcs:oc.callS.isSome=true) (he:EqE env env2) {s1:St} {v:AV} (h:dQ glob call cx oc env2 s=.pan v s1):dQ glob call cx oc env s=.pan v s1:=by
 obtain ⟨q,hq⟩:=Option.isSome_iff_exists.1 hcs
 obtain ⟨f,as,rfl,_⟩:=yY (d:=q.1) (l:=q.2) hq
 obtain ⟨hn,fv,vs,hf,hv,hcase⟩:=IG h (by simp)
 rcases hcase with ⟨_,_,_,hout⟩|⟨v',t,hc,hout⟩
 ·cases hout
 ·cases hout
  rw [II (by rw [he];exact hn) (by rw [DL (env2:=env) (env:=env2) (fun j _=>he j)];exact hf) (by rw [DN (env2:=env) (env:=env2) (fun j _=>he j)];exact hv),hc]
theorem Yx {oc:aG} (hcs:oc.callS.isSome=true) {v:AV} {env1:Env} {s1:St}:∀(pl:List Nat),(∀j∈pl,∃oj,aops[j]?=some oj∧oj.op.free=true∧zV oj oc=true)→∀{env:Env} {s:St},Runs glob call cx aops pl env s env1 s1→dQ glob call cx oc env1 s1=.pan v s'→
  dQ glob call cx oc env s=.pan v s'
 | [],_,env,s,hr,h=>by
  obtain ⟨he,rfl⟩:=hr
  exact WN hcs he h
 | j::r,hf,env,s,hr,h=>by
  obtain ⟨o,e0,e1,s2,ho,he,hr1,hrest⟩:=hr
  have h2:=Yx hcs r (fun k hk=>hf k (by simp [hk])) hrest h
  obtain ⟨oj,q1,q2,q3⟩:=hf j (by simp)
  rw [ho] at q1;cases q1
  obtain ⟨rfl,h3⟩:=acy q3 hr1 h2
  exact WN hcs he h3
theorem afw {F:Fence} {n b0:Nat} {N:Wd} {ls:List Nat} {Q:Exit→Act→World→Prop} (hcall:sN qt P glob call) (hext:gX call) (hF:isF F)
  (hops:∀(i:Nat) (o:Oper),ops[i]?=some o→∃ao,aops[i]?=some ao∧vW P N ops o ao=true) {c:Nat} {oc:aG} {v:AV} {env1:Env} {s1:St} (hoc:aops[c]?=some oc) (hcs:oc.callS.isSome=true) (hpan:dQ glob call cx oc env1 s1=.pan v s'):
  ∀(fuel:Nat) (listed:Array Bool) (l pl:List Nat) {env:Env} {g:ah} {s:St} {w:World} {a:Act},l.length=fuel→Inv ops aops listed l→c∈l→pl.Sublist l→(∀i∈l,i∈pl∨i=c∨Reach ops i c)→(∀j∈pl,∃oj,aops[j]?=some oj∧oj.op.free=true∧(zV oj oc=true∨Reach ops c j))→
    Runs glob call cx aops pl env s env1 s1→fE cx s→Fr P glob g s B w a env N b0 ls→
    (∀u g' w' a',Step qt g s.length B w g' s'.length w'→Fr P glob g' s' B w' a' [] N b0 ls→Rep g' s'.length u v→Q (.panic [{ v:=u,recovered:=false }]) a' w')→wpAnyIn F n P .any ops Q fuel listed a w:=by
 intro fuel
 induction fuel with
 | zero=>
  intro listed l pl env g s w a hlen hinv hcl hsub hcov hfree hrun hcx hfr hQ
  have hnil:l=[]:=List.eq_nil_of_length_eq_zero hlen
  subst hnil
  cases hcl
 | succ fuel ih=>
  intro listed l pl env g s w a hlen hinv hcl hsub hcov hfree hrun hcx hfr hQ
  refine ⟨fun h0=>?_,fun i hi=>?_⟩
  ·cases l with
   | nil=>cases hlen
   | cons j t=>have:=hinv.head_ready;rw [h0] at this;cases this
  ·have hmem:=hinv.ready_mem hi
   obtain ⟨_,o,ho,_⟩:=mem_ready.1 hi
   obtain ⟨ao,hao,hchk⟩:=hops i o ho
   by_cases hic:i=c
   ·subst hic
    rw [hoc] at hao;cases hao
    exact aeD hcall hext hF hcx hfr ho hchk (Yx hcs pl (fun j hj=>by
     obtain ⟨oj,q1,q2,q3⟩:=hfree j hj
     exact ⟨oj,q1,q2,q3.elim id (fun h=>absurd h (hinv.not_reach hi (hsub.subset hj)))⟩) hrun hpan) hQ
   ·rcases hcov i hmem with hip|hip|hip
    ·obtain ⟨p,q,rfl⟩:=List.append_of_mem hip
     obtain ⟨p0,q0,rfl⟩:=List.append_of_mem hmem
     obtain ⟨oi,q1,q2,q3⟩:=hfree i (by simp)
     rw [hao] at q1;cases q1
     have hqq:ao.op.quiet.isSome=true:=um q2
     have hnd:=hinv.nd
     have hni0:i ∉ p0:=by
      rw [List.nodup_append] at hnd
      exact fun h=>hnd.2.2 i h i (by simp) rfl
     have hni:i ∉ p:=by
      have h1:=hsub.nodup hnd
      rw [List.nodup_append] at h1
      exact fun h=>h1.2.2 i h i (by simp) rfl
     have hsub':(p++q).Sublist (p0++q0):=by
      have:=hsub.erase i
      rwa [List.erase_append_right _ hni,List.erase_append_right _ hni0,List.erase_cons_head,List.erase_cons_head] at this
     have hpair:∀j∈p,LH aops j i:=by
      intro j hj
      have:=(List.pairwise_append.1 (hinv.pairs.sublist hsub)).2.2 j hj i (by simp)
      rcases this with h1|h1
      ·exact absurd h1 (hinv.not_reach hi (hsub.subset (by simp [hj])))
      ·exact h1
     obtain ⟨env2,s2,hr1,hrest⟩:=bubble hao (.inl hqq) p hpair hrun
     have hs:=DR hqq hr1
     subst hs
     rw [cO hqq] at hr1
     refine PO hcall hext hF hfr ho hchk hr1 (fun g1 w1 a1 st1 hf1=>ih _ (p0++q0) (p++q) (by simp at hlen ⊢;omega) (hinv.remove hi) ?_ hsub' (fun j hj=>?_) (fun j hj=>hfree j (by rcases List.mem_append.1 hj with h|h<;>simp [h])) hrest hcx hf1 (fun u g2 w2 a2 st2 hf2 hr2=>hQ u g2 w2 a2 (st1.trans st2) hf2 hr2))
     ·rcases List.mem_append.1 hcl with h|h
      ·exact List.mem_append_left _ h
      ·rcases List.mem_cons.1 h with h|h
       ·exact absurd h.symm hic
       ·exact List.mem_append_right _ h
     ·have hji:j≠i:=fun h=>by
       subst h
       rcases List.mem_append.1 hj with h|h
       ·exact hni0 h
       ·rw [List.nodup_append] at hnd
        exact (List.nodup_cons.1 hnd.2.1).1 h
      rcases hcov j (by rcases List.mem_append.1 hj with h|h<;>simp [h]) with h|h
      ·rcases List.mem_append.1 h with h|h
       ·exact .inl (by simp [h])
       ·rcases List.mem_cons.1 h with h|h
        ·exact absurd h hji
        ·exact .inl (by simp [h])
      ·exact .inr h
    ·exact absurd hip hic
    ·exact absurd hip (hinv.not_reach hi hcl)
theorem Zm {π:List Nat} (hdr:Nz ops aops π=true):π.length=ops.size∧Inv ops aops (Array.replicate ops.size false) π:=by
 simp only [Nz,Bool.and_eq_true,beq_iff_eq,List.all_eq_true,List.mem_range,List.contains_eq_mem,decide_eq_true_eq] at hdr
 obtain ⟨⟨⟨hlen,hall⟩,htopo⟩,hpairs⟩:=hdr
 obtain ⟨t1,t2,_,t4⟩:=Nw π [] htopo
 have hpw:=Ku (ops:=ops) (TS π [] (fun e j h=>by simp [KR] at h)) π hpairs
 refine ⟨hlen,by simp,fun j hj=>?_,t1,t2,hpw,fun i hi=>?_,fun p i q heq e he=>?_⟩
 ·simp [Array.getD_eq_getD_getElem?,hj];exact hall j hj
 ·exfalso
  rw [Array.getD_eq_getD_getElem?] at hi
  by_cases hlt:i<ops.size<;>simp [hlt] at hi
 ·rcases t4 p i q heq e he with h|h
  ·cases h
  ·exact .inr h
theorem agG (hM:P.follows .mixedOrders=true) (hcall:sN qt P glob call) (hext:gX call):I8 qt P glob call:=by
 have start:∀{g:ah} {s:St} {B:Nat} {w:World} {a:Act} {env:Env} {b0:Nat} {N:Wd} {ls ts:List Nat},Fr P glob g s B w a env N b0 ls→
   ∃g1,Step qt g s.length B w g1 s.length { w with drawn:=w.drawn+1 }∧Fr P glob g1 s B { w with drawn:=w.drawn+1 } a (Dz env ts) N b0 ls:=by
  intro g s B w a env b0 N ls ts hfr
  have hfr0:Fr P glob g s B { w with drawn:=w.drawn+1 } a env N b0 ls:=by
   refine hfr.next ⟨hfr.sim.base.grew (qt:=False) ⟨Nat.le_refl _,fun _ _=>rfl,rfl,rfl,fun h=>h.elim⟩,hfr.sim.env.next (.refl _ _) (fun k e hk ho b hb=>⟨rfl,rfl,rfl,fun ht=>ht⟩),hfr.sim.B⟩ rfl rfl (.refl _ _) (fun _ h=>h) (fun _ _=>rfl)
  have hst0:Step qt g s.length B w g s.length { w with drawn:=w.drawn+1 }:=⟨.refl _ _,Nat.le_refl _,fun _ _ _=>rfl,fun _ _ _=>rfl,fun _ _=>rfl,fun b hb=>.inl hb,rfl,rfl,fun _=>⟨rfl,Nat.le_succ _⟩⟩
  obtain ⟨g1,st1,hf1⟩:=KA ts hfr0
  exact ⟨g1,hst0.trans st1,hf1⟩
 constructor
 ·intro F n id B b0 N ls ops aops π ts Q cx g s s' w a env env' hF hops hdr hcx hfr hrun hQ
  obtain ⟨hlen,hinv⟩:=Zm hdr
  refine wpIn_region_any hM ?_
  obtain ⟨g1,st1,hf1⟩:=start (ts:=ts) hfr
  simp only [qW] at hrun
  replace hrun:iC glob call cx aops π (Dz env ts) s=.norm env' s':=by
   cases hd:iC glob call cx aops π (Dz env ts) s with
   | pan v s1=>
    rw [hd] at hrun
    obtain ⟨_,_,_,_,_,_,_,_,_,_,h3⟩:=CS (show yK glob call cx aops π (Dz env ts) s=.norm env' s' from hrun) (by simp)
    cases h3
   | _=>rw [hd] at hrun;exact hrun
  exact agH hcall hext hF (fun i o ho=>FD _ _ hops i o (by simpa using ho)) ops.size _ π hlen hinv (Xg π hrun) hcx hf1 (fun g2 w2 a2 st2 hf2=>hQ g2 w2 a2 (st1.trans st2) hf2)
 ·intro F n id B b0 N ls ops aops π ts Q cx g s s' w a env v hF hops hdr hcx hfr hrun hQ
  obtain ⟨hlen,hinv⟩:=Zm hdr
  refine wpIn_region_any hM ?_
  obtain ⟨g1,st1,hf1⟩:=start (ts:=ts) hfr
  simp only [qW] at hrun
  replace hrun:yK glob call cx aops π (Dz env ts) s=.pan v s':=by
   cases hd:iC glob call cx aops π (Dz env ts) s with
   | pan v s1=>rw [hd] at hrun;exact hrun
   | _=>rw [hd] at hrun;cases hrun
  obtain ⟨c,oc,env1,s1,v',s2,hpc,hall,hr1,hr2,h3⟩:=CS hrun (by simp)
  cases h3
  obtain ⟨hcm,hoc,hcs⟩:=Om hpc
  have hops':∀(i:Nat) (o:Oper),ops[i]?=some o→∃ao,aops[i]?=some ao∧vW P N ops o ao=true:=fun i o ho=>FD _ _ hops i o (by simpa using ho)
  obtain ⟨hsub,hcov⟩:=KI (ops:=ops) hoc π false hinv.pairs (fun h=>by cases h) (fun i hi=>by
   have hlt:=hinv.lt i hi
   obtain ⟨ao,h1,_⟩:=hops' i (ops[i]'hlt) (by simp [hlt])
   exact ⟨ao,h1⟩)
  refine afw hcall hext hF hops' hoc hcs hr2 ops.size _ π _ hlen hinv hcm hsub hcov (fun j hj=>?_) (Xg _ hr1) hcx hf1 (fun u g2 w2 a2 st2 hf2 hr3=>hQ u g2 w2 a2 (st1.trans st2) hf2 hr3)
  have:=List.all_eq_true.1 hall j hj
  split at this
  ·rename_i oj hoj
   simp only [Bool.and_eq_true,Bool.or_eq_true,List.contains_eq_mem,decide_eq_true_eq] at this
   refine ⟨oj,hoj,this.1, ?_⟩
   rcases this.2 with h|h
   ·exact .inl h
   ·rcases abb π hinv.pairs hcm j h with h|⟨o1,o2,q1,q2,q3⟩
    ·exact .inr h
    ·rw [hoj] at q1;cases q1
     rw [hoc] at q2;cases q2
     exact .inl (ZP q3 hcs)
  ·cases this
end Go.Ai
