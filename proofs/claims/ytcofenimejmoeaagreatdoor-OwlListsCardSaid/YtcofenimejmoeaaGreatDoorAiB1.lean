/-
 The interpreter in the limit: no fuel.
-/
import Derived.Test.YtcofenimejmoeaaGreatDoorAiA1
set_option maxRecDepth 100000
set_option linter.unusedSimpArgs false
set_option linter.unusedVariables false
set_option linter.unusedSectionVars false
namespace Go.Ai
noncomputable def Ky {α:Type} (d:α) (h:Nat→α):α:=
 open Classical in if H:∃c,c≠d∧∃n,∀m,n≤m→h m=c then H.choose else d
theorem vX {α:Type} {d:α} {h:Nat→α} {c:α} {n:Nat} (hc:∀m,n≤m→h m=c):Ky d h=c:=by
 unfold Ky;split
 ·rename_i H;obtain ⟨_,n',hn'⟩:=H.choose_spec;rw [←hn' (max n n') (Nat.le_max_right _ _),hc _ (Nat.le_max_left _ _)]
 ·rename_i H;by_cases hd:c=d
  ·exact hd.symm
  ·exact absurd ⟨c,hd,n,hc⟩ H
theorem Dz {α:Type} {d:α} {h:Nat→α} {c:α} (hl:Ky d h=c) (hd:c≠d):∃n,∀m,n≤m→h m=c:=by
 unfold Ky at hl
 split at hl
 ·rename_i H;obtain ⟨_,n',hn'⟩:=H.choose_spec;exact ⟨n',fun m hm=>(hn' m hm).trans hl⟩
 ·exact absurd hl.symm hd
theorem Nh {α:Type} {d:α} {h g:Nat→α} (hs:∀n,h (n+1)=g n):Ky d h=Ky d g:=by
 by_cases hg:Ky d g=d
 ·rw [hg];by_cases hh:Ky d h=d
  ·exact hh
  ·obtain ⟨n,hn⟩:=Dz rfl hh
   have:=vX (d:=d) (h:=g) (c:=Ky d h) (n:=n) (fun m hm=>by rw [←hs];exact hn _ (by omega))
   rw [←this,hg]
 ·obtain ⟨n,hn⟩:=Dz rfl hg;exact vX (n:=n+1) (fun m hm=>by obtain ⟨k,rfl⟩:∃k,m=k+1:=⟨m - 1,by omega⟩;rw [hs];exact hn k (by omega))
def Out.thn (o:Out) (f:Env→St→Out):Out:=
 match o with
 | .norm env s=>f env s
 | o=>o
def Out.blk (id:Nat) (o:Out):Out:=
 match o with
 | .exit id' env s=>if id'=id then .norm env s else .exit id' env s
 | o=>o
def abk (x:Option AV) (a b:Unit→Out):Out:=
 match x with
 | some (.b x)=>if x=true then a () else b ()
 | _=>.fail
noncomputable def jw (body:Env→St→Out) (keep:List Nat) (env:Env) (s:St):Out:=Ky .fail (fun N=>tY body keep N env s)
theorem GH (body:Env→St→Out) (keep:List Nat) (env:Env) (s:St):jw body keep env s=(body (fQ env keep) s).thn (jw body keep):=by
 unfold jw
 cases hb:body (fQ env keep) s with
 | norm env' s'=>exact Nh (fun n=>by simp [tY,hb])
 | _=>exact vX (n:=1) (fun m hm=>by obtain ⟨k,rfl⟩:∃k,m=k+1:=⟨m - 1,by omega⟩;simp [tY,hb,Out.thn])
noncomputable def Io (body:Env→St→Out) (l:Nat) (keep:List Nat) (env:Env) (s:St):Out:=Ky .fail (fun N=>nO body l keep N env s)
def Out.jmp (l:Nat) (o:Out) (f:Env→St→Out):Out:=
 match o with
 | .goto l' env s=>if l'=l then f env s else .fail
 | o=>o
theorem WY (body:Env→St→Out) (l:Nat) (keep:List Nat) (env:Env) (s:St):Io body l keep env s=(body (fQ env keep) s).jmp l (Io body l keep):=by
 unfold Io
 cases hb:body (fQ env keep) s with
 | goto l' env' s'=>
  by_cases hl:l'=l
  ·simp only [Out.jmp,hl,if_true];exact Nh (fun n=>by simp [nO,hb,hl])
  ·exact vX (n:=1) (fun m hm=>by obtain ⟨k,rfl⟩:∃k,m=k+1:=⟨m - 1,by omega⟩;simp [nO,hb,Out.jmp,hl])
 | _=>exact vX (n:=1) (fun m hm=>by obtain ⟨k,rfl⟩:∃k,m=k+1:=⟨m - 1,by omega⟩;simp [nO,hb,Out.jmp])
section
variable (glob:Nat→Option (List AV))
def Ip (x:Option AV) (call:AV→List AV→St→Ctx→CO) (cx:Ctx) (ps:List Nat) (asg body:bD) (env:Env) (s:St):Out:=
 match x with
 | some (.fn ff as cs)=>match call (.fn ff as cs) [.yl (s.length+1)] (s++[.dfr,.loop (qK env) ps asg body .ready]) cx with
  | .ret _ s'=>EK env s' (s.length+1)
  | _=>.fail
 | _=>.fail
noncomputable def aA (call:AV→List AV→St→Ctx→CO) (cx:Ctx) (ro:Bool):bD→Env→St→Out
 | .skip,env,s=>.norm env s
 | .ret,env,s=>.ret env s
 | .exit id,env,s=>.exit id env s
 | .region ops ord keep,env,s=>(oQ glob call cx ops env s ord).thn fun env s=>.norm (fQ env keep) s
 | .seq a b,env,s=>(aA call cx ro a env s).thn (aA call cx ro b)
 | .cond c a b,env,s=>abk (rd glob env c) (fun _=>aA call cx ro a env s) (fun _=>aA call cx ro b env s)
 | .block id b,env,s=>(aA call cx ro b env s).blk id
 | .loop keep b,env,s=>jw (aA call cx ro b) keep env s
 | .range f ps asg body,env,s=>if ro=true then .fail else Ip (rd glob env f) call cx ps asg body env s
 | .label _,env,s=>.norm env s
 | .goto l,env,s=>.goto l env s
 | .scope l keep a b,env,s=>(aA call cx ro a env s).jmp l (Io (aA call cx ro b) l keep)
def endW (pure keep:Bool) (s:St) (res:List RV) (o:Out):CO:=
 match o with
 | .norm env s1 | .ret env s1=>match lJ glob env s1 res with
  | some rs=>finish pure keep s s1 (qf rs)
  | none=>.fail
 | .pan v s1=>(finish pure keep s s1 v).toPan
 | _=>.fail
noncomputable def af (call:AV→List AV→St→Ctx→CO) (fn:bJ) (args:List AV) (s:St) (cx:Ctx):CO:=
 if args.length=fn.np then
  endW glob fn.pure fn.keep s fn.res (aA glob call ⟨if fn.pure=true then s.length else cx.lim,if fn.keep=true then cx.base else s.length⟩ fn.keep fn.code (uK args 0) s)
 else .fail
noncomputable def SN (callW:AV→List AV→St→Ctx→CO) (cx:Ctx) (m:Option bD) (env:Env) (s:St):Out:=
 match m with
 | none=>.norm env s
 | some c=>aA glob callW cx true c env s
noncomputable def uP (callW:AV→List AV→St→Ctx→CO) (d:Du) (args:List AV) (s:St) (cx:Ctx):CO:=
 if args.length=d.np then
  match kE glob callW ⟨cx.lim,s.length⟩ d.pre (uK args 0) s with
  | .norm envm sm=>match SN glob callW ⟨cx.lim,s.length⟩ d.mid envm sm with
   | .ret env2 s2=>(match lJ glob env2 s2 d.res with
    | some rs=>finish false false s s2 (qf rs)
    | none=>.fail)
   | .norm uK s0=>(match dX glob callW ⟨cx.lim,s.length⟩ d.mkc uK s0 with
    | .norm env1 s1=>match lk env1 d.ct,d.pins.mapM (placeOf env1) with
     | some (.v (.fn (.func f) [] caps)),some ls=>
      if f=d.clo∧Bh caps ls=true then
       match aA glob callW ⟨cx.lim,s.length⟩ true d.code env1 s1 with
       | .norm env2 s2 | .ret env2 s2=>match lJ glob env2 s2 d.res with
        | some rs=>finish false false s s2 (qf rs)
        | none=>.fail
       | .pan v s2=>match d.hnd v with
        | some news=>if rW s.length s2 ls news=true then
          (match lJ glob (wM d.pins ls) (kS s2 ls news) d.res with
          | some rs=>finish false false s (kS s2 ls news) (qf rs)
          | none=>.fail) else .fail
        | none=>.fail
       | _=>.fail
      else .fail
     | _,_=>.fail
    | _=>.fail)
   | _=>.fail
  | _=>.fail
 else .fail
def HY (l:Nat) (o:Out):CO:=
 match o with
 | .norm _ s2=>qm s2 l .ready true
 | .ret _ s2=>qm s2 l .ret false
 | .exit id _ s2=>qm s2 l (.exit id) false
 | _=>.fail
noncomputable def vg (call:AV→List AV→St→Ctx→CO) (cx:Ctx) (body:bD) (l:Nat) (o:Out):CO:=
 match o with
 | .norm env1 s1=>match s1[l]? with
  | some (.loop e1 p1 a1 b1 .ready)=>HY l (aA glob call cx true body env1 (s1.set l (.loop e1 p1 a1 b1 .busy)))
  | _=>.fail
 | _=>.fail
noncomputable def Ii (call:AV→List AV→St→Ctx→CO) (l:Nat) (args:List AV) (s:St) (cx:Ctx):CO:=
 match s[l]? with
 | some (.loop env ps asg body .ready)=>
  if ps.length=args.length∧cx.lim≤l then
   vg glob call cx body l (aA glob call cx true asg (BK env ps args) s)
  else .fail
 | _=>.fail
end
section
variable {glob:Nat→Option (List AV)} {callW:AV→List AV→St→Ctx→CO} {call:Nat→AV→List AV→St→Ctx→CO} {cx:Ctx}
def Lim (callW:AV→List AV→St→Ctx→CO) (call:Nat→AV→List AV→St→Ctx→CO):Prop:=
 ∀fv args s cx c,callW fv args s cx=c→c≠.fail→∃n,∀m,n≤m→call m fv args s cx=c
theorem Ob (hc:Lim callW call) {env:Env} {s:St} {op:AOp} {o:RO} (h:aop glob callW cx env s op=o) (ho:o≠.fail):
  ∃n,∀m,n≤m→aop glob (call m) cx env s op=o:=by
 by_cases hch:∃d f as k,op=.callh d f as k
 ·obtain ⟨d,f,as,k,rfl⟩:=hch;simp only [aop] at h ⊢
  split at h
  ·exact absurd h.symm ho
  ·split at h
   ·rename_i fv as' h1 h2
    cases hx:callW fv as' s cx with
    | fail=>rw [hx] at h;exact absurd h.symm ho
    | ret r s'=>
     obtain ⟨n,hn⟩:=hc _ _ _ _ _ hx (by simp);exact ⟨n,fun m hm=>by rw [hn m hm];rw [hx] at h;exact h⟩
    | pan r s'=>
     obtain ⟨n,hn⟩:=hc _ _ _ _ _ hx (by simp);exact ⟨n,fun m hm=>by rw [hn m hm];rw [hx] at h;exact h⟩
   ·exact absurd h.symm ho
 by_cases hcall:∃f as,op=.call f as∨op=.callp f as
 ·obtain ⟨f,as,hop⟩:=hcall
  have hcp:∀c:AV→List AV→St→Ctx→CO,aop glob c cx env s op=aop glob c cx env s (.call f as):=by rcases hop with rfl|rfl<;>exact fun _=>rfl
  simp only [hcp] at h ⊢;clear hop hcp;simp only [aop] at h ⊢
  split at h
  ·rename_i fv as' env' h1 h2
   cases hx:callW fv as' s cx with
   | fail=>rw [hx] at h;exact absurd h.symm ho
   | ret r s'=>
    obtain ⟨n,hn⟩:=hc _ _ _ _ _ hx (by simp);exact ⟨n,fun m hm=>by rw [hn m hm];rw [hx] at h;exact h⟩
   | pan r s'=>
    obtain ⟨n,hn⟩:=hc _ _ _ _ _ hx (by simp);exact ⟨n,fun m hm=>by rw [hn m hm];rw [hx] at h;exact h⟩
  ·exact absurd h.symm ho
 ·refine ⟨0,fun m _=>?_⟩;rw [←h]
  cases op with
  | call f as=>exact absurd ⟨_,_,.inl rfl⟩ hcall
  | callp f as=>exact absurd ⟨_,_,.inr rfl⟩ hcall
  | callh d f as k=>exact absurd ⟨_,_,_,_,rfl⟩ hch
  | len k x=>rcases k with _ | _ | _|k<;>rfl
  | _=>rfl
theorem vz (hc:Lim callW call) {env:Env} {s:St} {p:aI} {o:Out} (h:dX glob callW cx p env s=o) (ho:o≠.fail):
  ∃n,∀m,n≤m→dX glob (call m) cx p env s=o:=by
 unfold dX at h ⊢
 split at h
 ·exact absurd h.symm ho
 ·exact ⟨0,fun m _=>h⟩
 ·cases hx:aop glob callW cx env s p.op with
  | fail=>rw [hx] at h;exact absurd h.symm ho
  | ok e env' s'=>
   obtain ⟨n,hn⟩:=Ob hc hx (by simp);exact ⟨n,fun m hm=>by rw [hn m hm];rw [hx] at h;exact h⟩
  | pan v s'=>
   obtain ⟨n,hn⟩:=Ob hc hx (by simp);exact ⟨n,fun m hm=>by rw [hn m hm];rw [hx] at h;exact h⟩
theorem yx (hc:Lim callW call):∀(ops:List aI) {env:Env} {s:St} {o:Out},kE glob callW cx ops env s=o→o≠.fail→
  ∃n,∀m,n≤m→kE glob (call m) cx ops env s=o
 | [],env,s,o,h,ho=>⟨0,fun m _=>h⟩
 | p::r,env,s,o,h,ho=>by
  simp only [kE] at h ⊢
  cases hx:dX glob callW cx p env s with
  | fail=>rw [hx] at h;exact absurd h.symm ho
  | norm env' s'=>
   rw [hx] at h;obtain ⟨n,hn⟩:=vz hc hx (by simp);obtain ⟨n',hn'⟩:=yx hc r h ho;exact ⟨max n n',fun m hm=>by rw [hn m (by omega)];exact hn' m (by omega)⟩
  | _=>
   obtain ⟨n,hn⟩:=vz hc hx (by simp);exact ⟨n,fun m hm=>by rw [hn m hm];rw [hx] at h;exact h⟩
theorem Xc (hc:Lim callW call) {env:Env} {s:St} {p:aI} {e:EV} (h:ug glob callW p env s=some e):
  ∃n,∀m,n≤m→ug glob (call m) p env s=some e:=by
 unfold ug at h ⊢
 split at h
 ·cases h
 ·exact ⟨0,fun m _=>h⟩
 ·split at h
  ·rename_i hq;simp only [hq,if_true]
   cases hx:aop glob callW ⟨s.length,s.length⟩ env s p.op with
   | fail=>rw [hx] at h;cases h
   | ok e env' s'=>
    obtain ⟨n,hn⟩:=Ob hc hx (by simp);exact ⟨n,fun m hm=>by rw [hn m hm];rw [hx] at h;exact h⟩
   | pan v s'=>rw [hx] at h;cases h
  ·cases h
theorem O1 (hc:Lim callW call) {env:Env} {s:St} {p:aI} {o:Out} (h:fD glob callW cx p env s=o) (ho:o≠.fail):
  ∃n,∀m,n≤m→fD glob (call m) cx p env s=o:=by
 unfold fD at h ⊢
 split at h
 ·rename_i hq;simp only [hq,if_true];unfold yh at h ⊢
  cases hx:ug glob callW p env s with
  | none=>rw [hx] at h;exact absurd h.symm ho
  | some e=>
   obtain ⟨n,hn⟩:=Xc hc hx;exact ⟨n,fun m hm=>by rw [hn m hm];rw [hx] at h;exact h⟩
 ·rename_i hq;simp only [hq];exact vz hc h ho
theorem wV (hc:Lim callW call) (aops:List aI):∀(l:List Nat) {env:Env} {s:St} {o:Out},iD glob callW cx aops l env s=o→o≠.fail→
  ∃n,∀m,n≤m→iD glob (call m) cx aops l env s=o
 | [],env,s,o,h,ho=>⟨0,fun m _=>h⟩
 | i::r,env,s,o,h,ho=>by
  simp only [iD] at h ⊢
  split at h
  ·exact absurd h.symm ho
  ·rename_i p hp
   cases hx:fD glob callW cx p env s with
   | fail=>rw [hx] at h;exact absurd h.symm ho
   | norm env' s'=>
    rw [hx] at h;obtain ⟨n,hn⟩:=O1 hc hx (by simp);obtain ⟨n',hn'⟩:=wV hc aops r h ho;exact ⟨max n n',fun m hm=>by rw [hn m (by omega)];exact hn' m (by omega)⟩
   | _=>
    obtain ⟨n,hn⟩:=O1 hc hx (by simp);exact ⟨n,fun m hm=>by rw [hn m hm];rw [hx] at h;exact h⟩
theorem Sv (hc:Lim callW call) {ops:List aI} {π:List Nat} {env:Env} {s:St} {o:Out} (h:vF glob callW cx ops π env s=o) (ho:o≠.fail):
  ∃n,∀m,n≤m→vF glob (call m) cx ops π env s=o:=by
 unfold vF at h ⊢
 split at h
 ·exact absurd h.symm ho
 ·rename_i c oc hpc
  split at h
  ·rename_i hall
   cases hx:iD glob callW cx ops (BO ops c oc false π) env s with
   | norm env1 s1=>
    rw [hx] at h;simp only [] at h
    cases hy:dX glob callW cx oc env1 s1 with
    | pan v s2=>
     rw [hy] at h;obtain ⟨n,hn⟩:=wV hc ops _ hx (by simp);obtain ⟨n',hn'⟩:=vz hc hy (by simp);refine ⟨max n n',fun m hm=>?_⟩;rw [hn m (by omega)];simp only [];rw [if_pos hall,hn' m (by omega)];exact h
    | _=>rw [hy] at h;exact absurd h.symm ho
   | _=>rw [hx] at h;exact absurd h.symm ho
  ·exact absurd h.symm ho
theorem Jr (hc:Lim callW call) {ops:List aI} {ord:Option (List Nat×List Nat)} {env:Env} {s:St} {o:Out} (h:oQ glob callW cx ops env s ord=o) (ho:o≠.fail):
  ∃n,∀m,n≤m→oQ glob (call m) cx ops env s ord=o:=by
 cases ord with
 | none=>exact yx hc ops h ho
 | some p=>
  simp only [oQ] at h ⊢
  cases hx:iD glob callW cx ops p.1 (y9 env p.2) s with
  | fail=>rw [hx] at h;exact absurd h.symm ho
  | pan v s1=>
   rw [hx] at h;obtain ⟨n,hn⟩:=wV hc ops p.1 hx (by simp);obtain ⟨n',hn'⟩:=Sv hc (h:vF glob callW cx ops p.1 (y9 env p.2) s=o) ho;exact ⟨max n n',fun m hm=>by rw [hn m (by omega)];exact hn' m (by omega)⟩
  | _=>
   obtain ⟨n,hn⟩:=wV hc ops p.1 hx (by simp);exact ⟨n,fun m hm=>by rw [hn m hm];rw [hx] at h;exact h⟩
theorem Pn {vg:Env→St→Out} {body:Nat→Env→St→Out} {keep:List Nat} (hb:∀env s o,vg env s=o→o≠.fail→∃n,∀m,n≤m→body m env s=o):
  ∀(N0:Nat) {env:Env} {s:St} {o:Out},tY vg keep N0 env s=o→o≠.fail→∃n,∀m,n≤m→∀N,N0≤N→tY (body m) keep N env s=o
 | 0,env,s,o,h,ho=>absurd h.symm ho
 | N0+1,env,s,o,h,ho=>by
  simp only [tY] at h
  cases hx:vg (fQ env keep) s with
  | fail=>rw [hx] at h;exact absurd h.symm ho
  | norm env' s'=>
   rw [hx] at h;obtain ⟨n,hn⟩:=hb _ _ _ hx (by simp);obtain ⟨n',hn'⟩:=Pn hb N0 h ho;refine ⟨max n n',fun m hm N hN=>?_⟩;obtain ⟨k,rfl⟩:∃k,N=k+1:=⟨N - 1,by omega⟩;simp only [tY];rw [hn m (by omega)];exact hn' m (by omega) k (by omega)
  | _=>
   obtain ⟨n,hn⟩:=hb _ _ _ hx (by simp);refine ⟨n,fun m hm N hN=>?_⟩;obtain ⟨k,rfl⟩:∃k,N=k+1:=⟨N - 1,by omega⟩;simp only [tY];rw [hn m hm];rw [hx] at h;exact h
theorem LM {vg:Env→St→Out} {body:Nat→Env→St→Out} {l:Nat} {keep:List Nat} (hb:∀env s o,vg env s=o→o≠.fail→∃n,∀m,n≤m→body m env s=o):
  ∀(N0:Nat) {env:Env} {s:St} {o:Out},nO vg l keep N0 env s=o→o≠.fail→∃n,∀m,n≤m→∀N,N0≤N→nO (body m) l keep N env s=o
 | 0,env,s,o,h,ho=>absurd h.symm ho
 | N0+1,env,s,o,h,ho=>by
  simp only [nO] at h
  cases hx:vg (fQ env keep) s with
  | fail=>rw [hx] at h;exact absurd h.symm ho
  | goto l' env' s'=>
   rw [hx] at h;simp only [] at h
   split at h
   ·rename_i hl;obtain ⟨n,hn⟩:=hb _ _ _ hx (by simp);obtain ⟨n',hn'⟩:=LM hb N0 h ho;refine ⟨max n n',fun m hm N hN=>?_⟩;obtain ⟨k,rfl⟩:∃k,N=k+1:=⟨N - 1,by omega⟩;simp only [nO];rw [hn m (by omega)];simp only [hl,if_true];exact hn' m (by omega) k (by omega)
   ·exact absurd h.symm ho
  | _=>
   obtain ⟨n,hn⟩:=hb _ _ _ hx (by simp);refine ⟨n,fun m hm N hN=>?_⟩;obtain ⟨k,rfl⟩:∃k,N=k+1:=⟨N - 1,by omega⟩;simp only [nO];rw [hn m hm];rw [hx] at h;exact h
theorem je (hc:Lim callW call) (ro:Bool):∀(c:bD) (env:Env) (s:St) (o:Out),aA glob callW cx ro c env s=o→o≠.fail→
  ∃n,∀m,n≤m→bn glob (call m) cx ro m c env s=o
 | .skip,env,s,o,h,ho=>⟨0,fun m _=>by simpa [bn,aA] using h⟩
 | .ret,env,s,o,h,ho=>⟨0,fun m _=>by simpa [bn,aA] using h⟩
 | .exit id,env,s,o,h,ho=>⟨0,fun m _=>by simpa [bn,aA] using h⟩
 | .region ops ord keep,env,s,o,h,ho=>by
  simp only [bn,aA] at h ⊢
  cases hx:oQ glob callW cx ops env s ord with
  | fail=>rw [hx] at h;exact absurd h.symm ho
  | _=>
   obtain ⟨n,hn⟩:=Jr hc hx (by simp);exact ⟨n,fun m hm=>by rw [hn m hm];rw [hx] at h;exact h⟩
 | .seq a b,env,s,o,h,ho=>by
  simp only [bn,aA] at h ⊢
  cases hx:aA glob callW cx ro a env s with
  | fail=>rw [hx] at h;exact absurd h.symm ho
  | norm env' s'=>
   rw [hx] at h;obtain ⟨n,hn⟩:=je hc ro a _ _ _ hx (by simp);obtain ⟨n',hn'⟩:=je hc ro b _ _ _ h ho;exact ⟨max n n',fun m hm=>by rw [hn m (by omega)];exact hn' m (by omega)⟩
  | _=>
   obtain ⟨n,hn⟩:=je hc ro a _ _ _ hx (by simp);exact ⟨n,fun m hm=>by rw [hn m hm];rw [hx] at h;exact h⟩
 | .cond c a b,env,s,o,h,ho=>by
  simp only [bn,aA] at h ⊢;unfold abk at h
  split at h
  ·rename_i x hx;rw [hx]
   cases x with
   | true=>exact je hc ro a _ _ _ (by simpa using h) ho
   | false=>exact je hc ro b _ _ _ (by simpa using h) ho
  ·exact absurd h.symm ho
 | .block id b,env,s,o,h,ho=>by
  simp only [bn,aA] at h ⊢
  cases hx:aA glob callW cx ro b env s with
  | fail=>rw [hx] at h;exact absurd h.symm ho
  | _=>
   obtain ⟨n,hn⟩:=je hc ro b _ _ _ hx (by simp);exact ⟨n,fun m hm=>by rw [hn m hm];rw [hx] at h;exact h⟩
 | .loop keep b,env,s,o,h,ho=>by
  simp only [bn,aA] at h ⊢;obtain ⟨N0,hN⟩:=Dz h ho;obtain ⟨n,hn⟩:=Pn (body:=fun m=>bn glob (call m) cx ro m b) (je hc ro b) N0 (hN N0 (Nat.le_refl _)) ho;exact ⟨max n N0,fun m hm=>hn m (by omega) m (by omega)⟩
 | .range f ps asg body,env,s,o,h,ho=>by
  simp only [bn,aA] at h ⊢
  split at h
  ·exact absurd h.symm ho
  ·rename_i hro;simp only [hro];unfold Ip at h
   split at h
   ·rename_i ff as cs hx;rw [hx];simp only []
    cases hy:callW (.fn ff as cs) [.yl (s.length+1)] (s++[.dfr,.loop (qK env) ps asg body .ready]) cx with
    | fail=>rw [hy] at h;exact absurd h.symm ho
    | _=>
     obtain ⟨n,hn⟩:=hc _ _ _ _ _ hy (by simp);exact ⟨n,fun m hm=>by rw [hn m hm];rw [hy] at h;exact h⟩
   ·exact absurd h.symm ho
 | .label l,env,s,o,h,ho=>⟨0,fun m _=>by simpa [bn,aA] using h⟩
 | .goto l,env,s,o,h,ho=>⟨0,fun m _=>by simpa [bn,aA] using h⟩
 | .scope l keep a b,env,s,o,h,ho=>by
  simp only [bn,aA] at h ⊢
  cases hx:aA glob callW cx ro a env s with
  | fail=>rw [hx] at h;exact absurd h.symm ho
  | goto l' env' s'=>
   rw [hx] at h;simp only [Out.jmp] at h
   split at h
   ·rename_i hl;obtain ⟨n,hn⟩:=je hc ro a _ _ _ hx (by simp);obtain ⟨N0,hN⟩:=Dz h ho;obtain ⟨n',hn'⟩:=LM (body:=fun m=>bn glob (call m) cx ro m b) (je hc ro b) N0 (hN N0 (Nat.le_refl _)) ho;exact ⟨max n (max n' N0),fun m hm=>by rw [hn m (by omega)];simp only [hl,if_true];exact hn' m (by omega) m (by omega)⟩
   ·exact absurd h.symm ho
  | _=>
   obtain ⟨n,hn⟩:=je hc ro a _ _ _ hx (by simp);exact ⟨n,fun m hm=>by rw [hn m hm];rw [hx] at h;exact h⟩
theorem Uc (hc:Lim callW call) {fn:bJ} {args:List AV} {s:St} {o:CO} (h:af glob callW fn args s cx=o) (ho:o≠.fail):
  ∃n,∀m,n≤m→tJ glob (call m) m fn args s cx=o:=by
 unfold af at h;unfold tJ
 split at h
 ·rename_i hnp;simp only [hnp,if_true]
  cases hx:aA glob callW ⟨if fn.pure=true then s.length else cx.lim,if fn.keep=true then cx.base else s.length⟩ fn.keep fn.code (uK args 0) s with
  | fail=>rw [hx] at h;exact absurd h.symm ho
  | _=>
   obtain ⟨n,hn⟩:=je hc _ _ _ _ _ hx (by simp);exact ⟨n,fun m hm=>by rw [hn m hm];rw [hx] at h;exact h⟩
 ·exact absurd h.symm ho
theorem SL (hc:Lim callW call) {m:Option bD} {env:Env} {s:St} {o:Out} (h:SN glob callW cx m env s=o) (ho:o≠.fail):
  ∃n,∀k,n≤k→yU glob (call k) cx k m env s=o:=by
 cases m with
 | none=>exact ⟨0,fun _ _=>h⟩
 | some c=>exact je hc _ _ _ _ _ h ho
theorem QV (hc:Lim callW call) {d:Du} {args:List AV} {s:St} {o:CO} (h:uP glob callW d args s cx=o) (ho:o≠.fail):
  ∃n,∀m,n≤m→qC glob (call m) m d args s cx=o:=by
 unfold uP at h;unfold qC
 split at h
 ·rename_i hnp;simp only [hnp,if_true]
  cases hxm:kE glob callW ⟨cx.lim,s.length⟩ d.pre (uK args 0) s with
  | norm em sm=>
   obtain ⟨nm,hnm⟩:=yx hc _ hxm (by simp);rw [hxm] at h;simp only [] at h
   cases hx:SN glob callW ⟨cx.lim,s.length⟩ d.mid em sm with
   | ret e2 s2=>
    obtain ⟨n0,hn0⟩:=SL hc hx (by simp);rw [hx] at h;refine ⟨max nm n0,fun m hm=>?_⟩;rw [hnm m (by omega)];simp only [];rw [hn0 m (by omega)];exact h
   | norm e0 s0=>
    obtain ⟨n0,hn0⟩:=SL hc hx (by simp);rw [hx] at h;simp only [] at h
    cases hy:dX glob callW ⟨cx.lim,s.length⟩ d.mkc e0 s0 with
    | norm e1 s1=>
     obtain ⟨n1,hn1⟩:=vz hc hy (by simp);rw [hy] at h;simp only [] at h
     split at h
     ·rename_i f caps ls hl hp
      split at h
      ·rename_i hcond
       cases hz:aA glob callW ⟨cx.lim,s.length⟩ true d.code e1 s1 with
       | fail=>rw [hz] at h;exact absurd h.symm ho
       | _=>
        obtain ⟨n,hn⟩:=je hc _ _ _ _ _ hz (by simp);refine ⟨max nm (max n (max n0 n1)),fun m hm=>?_⟩;rw [hnm m (by omega)];simp only [];rw [hn0 m (by omega)];simp only [];rw [hn1 m (by omega)];simp only [hl,hp];rw [if_pos hcond,hn m (by omega)];rw [hz] at h;exact h
      ·exact absurd h.symm ho
     ·exact absurd h.symm ho
    | _=>rw [hy] at h;exact absurd h.symm ho
   | _=>rw [hx] at h;exact absurd h.symm ho
  | _=>rw [hxm] at h;exact absurd h.symm ho
 ·exact absurd h.symm ho
theorem Uw (hc:Lim callW call) {l:Nat} {args:List AV} {s:St} {o:CO} (h:Ii glob callW l args s cx=o) (ho:o≠.fail):
  ∃n,∀m,n≤m→xI glob (call m) m l args s cx=o:=by
 unfold Ii at h;unfold xI
 split at h
 ·rename_i env ps asg body hl;rw [hl];simp only []
  split at h
  ·rename_i hcond;simp only [hcond,and_self,if_true]
   cases hx:aA glob callW cx true asg (BK env ps args) s with
   | norm env1 s1=>
    obtain ⟨n,hn⟩:=je hc true _ _ _ _ hx (by simp);rw [hx] at h;unfold vg at h;simp only [] at h
    split at h
    ·rename_i e1 p1 a1 b1 hl1
     cases hy:aA glob callW cx true body env1 (s1.set l (.loop e1 p1 a1 b1 .busy)) with
     | fail=>rw [hy] at h;exact absurd h.symm ho
     | _=>
      obtain ⟨n',hn'⟩:=je hc true _ _ _ _ hy (by simp);exact ⟨max n n',fun m hm=>by rw [hn m (by omega)];simp only [hl1];rw [hn' m (by omega)];rw [hy] at h;exact h⟩
    ·exact absurd h.symm ho
   | _=>rw [hx] at h;exact absurd h.symm ho
  ·exact absurd h.symm ho
 ·exact absurd h.symm ho
end
theorem MZ {α β:Type} {f:α→Option β} {g:Nat→α→Option β}:∀(l:List α) {r:List β},(∀x∈l,∀y,f x=some y→∃n,∀m,n≤m→g m x=some y)→l.mapM f=some r→∃n,∀m,n≤m→l.mapM (g m)=some r
 | [],r,_,h=>⟨0,fun m _=>by simpa using h⟩
 | x::l,r,hf,h=>by
  simp only [List.mapM_cons,Option.bind_eq_bind,Option.pure_def] at h ⊢
  cases hx:f x with
  | none=>simp [hx] at h
  | some y=>
   cases hl:l.mapM f with
   | none=>simp [hx,hl] at h
   | some ys=>
    simp [hx,hl] at h;subst h;obtain ⟨n,hn⟩:=hf x (by simp) y hx;obtain ⟨n',hn'⟩:=MZ l (fun z hz=>hf z (by simp [hz])) hl;exact ⟨max n n',fun m hm=>by rw [hn m (by omega),hn' m (by omega)];rfl⟩
theorem Yd {callW:AV→List AV→St→Ctx→CO} {call:Nat→AV→List AV→St→Ctx→CO} (hc:Lim callW call) {g:Nat} {x y:AV} {r:Int} (h:Ye callW g x y=some r):
  ∃n,∀m,n≤m→Ye (call m) g x y=some r:=by
 unfold Ye at h ⊢
 cases hx:callW (.fn (.func g) [] []) [x,y] [] ⟨0,0⟩ with
 | fail=>rw [hx] at h;cases h
 | pan v s=>rw [hx] at h;cases h
 | ret v s=>
  obtain ⟨n,hn⟩:=hc _ _ _ _ _ hx (by simp);exact ⟨n,fun m hm=>by rw [hn m hm];rw [hx] at h;exact h⟩
theorem TY {callW:AV→List AV→St→Ctx→CO} {call:Nat→AV→List AV→St→Ctx→CO} (hc:Lim callW call) {g:Nat} {es:List AV} {tab:List (List Int)} (h:QT callW g es=some tab):
  ∃n,∀m,n≤m→QT (call m) g es=some tab:=
 MZ (g:=fun m x=>es.mapM fun y=>Ye (call m) g x y) es (fun _ _ _ hx=>MZ (g:=fun m y=>Ye (call m) g _ y) es (fun _ _ _ hy=>Yd hc hy) hx) h
theorem JX {callW qcallW:AV→List AV→St→Ctx→CO} {call qcall:Nat→AV→List AV→St→Ctx→CO} {cx:Ctx} (hc:Lim callW call) (hq:Lim qcallW qcall) {k:HiK} {args:List AV} {s:St} {o:CO}
  (h:lQ callW qcallW k args s cx=o) (ho:o≠.fail):∃n,∀m,n≤m→lQ (call m) (qcall m) k args s cx=o:=by
 unfold lQ at h
 split at h
 ·rename_i r f as cs
  cases hx:callW (.fn (.func f) as cs) [] s cx with
  | ret r1 s1=>
   obtain ⟨n,hn⟩:=hc _ _ _ _ _ hx (by simp);exact ⟨n,fun m hm=>by simp only [lQ,hn m hm];rw [hx] at h;exact h⟩
  | pan r1 s1=>
   obtain ⟨n,hn⟩:=hc _ _ _ _ _ hx (by simp);exact ⟨n,fun m hm=>by simp only [lQ,hn m hm];rw [hx] at h;exact h⟩
  | fail=>rw [hx] at h;exact absurd h.symm ho
 ·exact ⟨0,fun m _=>by simpa [lQ] using h⟩
 ·exact ⟨0,fun m _=>by simpa [lQ] using h⟩
 ·rename_i k0 l ver sz o m g
  split at h
  ·exact ⟨0,fun m _=>by simpa [lQ] using h⟩
  ·rename_i n t sz' ver' cs hl
   split at h
   ·rename_i hcond
    cases hx:QT qcallW g (chunk sz (n+1) (cs.drop o)) with
    | none=>rw [hx] at h;exact absurd h.symm ho
    | some tab=>
     obtain ⟨n1,hn⟩:=TY hq hx;exact ⟨n1,fun m hm=>by simp only [lQ,hl];rw [if_pos hcond,hn m hm];rw [hx] at h;exact h⟩
   ·exact absurd h.symm ho
  ·exact absurd h.symm ho
 ·exact ⟨0,fun m _=>by simpa [lQ] using h⟩
 ·exact ⟨0,fun m _=>by simp only [lQ];exact h⟩
 ·rename_i f t z e es
  cases hx:callW (.fn (.func f) [] []) [.pt s.length 0] (s++[.cells [.sl (e::es)]]) cx with
  | ret r1 s1=>
   obtain ⟨n,hn⟩:=hc _ _ _ _ _ hx (by simp);exact ⟨n,fun m hm=>by simp only [lQ,hn m hm];rw [hx] at h;exact h⟩
  | pan r1 s1=>
   obtain ⟨n,hn⟩:=hc _ _ _ _ _ hx (by simp);exact ⟨n,fun m hm=>by simp only [lQ,hn m hm];rw [hx] at h;exact h⟩
  | fail=>rw [hx] at h;exact absurd h.symm ho
 ·exact absurd h.symm ho
noncomputable def aj (A:qV) (fv:AV) (args:List AV) (s:St) (cx:Ctx):CO:=Ky .fail fun n=>iC A n fv args s cx
theorem xZ (A:qV):Lim (aj A) (iC A):=fun fv args s cx c h hc=>Dz h hc
theorem P8 {A:qV} {f:Nat} {fn:bJ} (hi:A.intr f=none) (hh:A.hi f=none) (hd:A.dfr f=none) (hf:A.fns f=some fn) {as cs args:List AV} {s:St} {cx:Ctx} {o:CO} (ho:o≠.fail)
  (h:af A.glob (aj A) fn (as++args++cs) s cx=o):aj A (.fn (.func f) as cs) args s cx=o:=by
 obtain ⟨n,hn⟩:=Uc (xZ A) h ho;exact vX (n:=n+1) (fun m hm=>by obtain ⟨k,rfl⟩:∃k,m=k+1:=⟨m - 1,by omega⟩;simp only [iC,hi,hh,hd,hf];exact hn k (by omega))
theorem Oe {A:qV} {f:Nat} {d:Du} (hi:A.intr f=none) (hh:A.hi f=none) (hf:A.dfr f=some d) {as cs args:List AV} {s:St} {cx:Ctx} {o:CO} (ho:o≠.fail)
  (h:uP A.glob (aj A) d (as++args++cs) s cx=o):aj A (.fn (.func f) as cs) args s cx=o:=by
 obtain ⟨n,hn⟩:=QV (xZ A) h ho;exact vX (n:=n+1) (fun m hm=>by obtain ⟨k,rfl⟩:∃k,m=k+1:=⟨m - 1,by omega⟩;simp only [iC,hi,hh,hf];exact hn k (by omega))
theorem Yp {A:qV} {f:Nat} {k:HiK} (hi:A.intr f=none) (hf:A.hi f=some k) {as cs args:List AV} {s:St} {cx:Ctx} {o:CO} (ho:o≠.fail)
  (h:lQ (aj A) (aj A.quiet) k (as++args++cs) s cx=o):aj A (.fn (.func f) as cs) args s cx=o:=by
 obtain ⟨n,hn⟩:=JX (xZ A) (xZ A.quiet) h ho;exact vX (n:=n+1) (fun m hm=>by obtain ⟨k,rfl⟩:∃k,m=k+1:=⟨m - 1,by omega⟩;simp only [iC,hi,hf];exact hn k (by omega))
theorem AX {A:qV} {f:Nat} {h:List AV→St→Option AV} (hi:A.intr f=some h) {as cs args:List AV} {s:St} {cx:Ctx} {r:AV} (hr:h (as++args++cs) s=some r):
  aj A (.fn (.func f) as cs) args s cx=.ret r s:=
 vX (n:=1) (fun m hm=>by obtain ⟨k,rfl⟩:∃k,m=k+1:=⟨m - 1,by omega⟩;simp only [iC,hi,hr])
theorem P7 {A:qV} {l:Nat} {args:List AV} {s:St} {cx:Ctx} {o:CO} (ho:o≠.fail) (h:Ii A.glob (aj A) l args s cx=o):aj A (.yl l) args s cx=o:=by
 obtain ⟨n,hn⟩:=Uw (xZ A) h ho;exact vX (n:=n+1) (fun m hm=>by obtain ⟨k,rfl⟩:∃k,m=k+1:=⟨m - 1,by omega⟩;simp only [iC];exact hn k (by omega))
theorem Vz {A:qV} {fv:AV} {args:List AV} {s s':St} {cx:Ctx} {r:AV} (h:aj A fv args s cx=.ret r s'):∃n,iC A n fv args s cx=.ret r s':=by
 obtain ⟨n,hn⟩:=Dz h (by simp);exact ⟨n,hn n (Nat.le_refl _)⟩
end Go.Ai
namespace Go.Ai
section
variable {glob:Nat→Option (List AV)} {call callW:AV→List AV→St→Ctx→CO} {cx:Ctx}
def y7 (call callW:AV→List AV→St→Ctx→CO):Prop:=∀fv args s cx c,call fv args s cx=c→c≠.fail→callW fv args s cx=c
theorem WZ (hc:y7 call callW) {ops:List aI} {ord:Option (List Nat×List Nat)} {env:Env} {s:St} {o:Out} (h:oQ glob call cx ops env s ord=o) (ho:o≠.fail):
  oQ glob callW cx ops env s ord=o:=by
 have:Lim call (fun _=>callW):=fun fv args s cx c h hne=>⟨0,fun _ _=>hc fv args s cx c h hne⟩
 obtain ⟨n,hn⟩:=Jr this h ho;exact hn n (Nat.le_refl _)
theorem V5 {body vg:Env→St→Out} {keep:List Nat} (hb:∀env s o,body env s=o→o≠.fail→vg env s=o):
  ∀(N:Nat) {env:Env} {s:St} {o:Out},tY body keep N env s=o→o≠.fail→jw vg keep env s=o
 | 0,env,s,o,h,ho=>absurd h.symm ho
 | N+1,env,s,o,h,ho=>by
  simp only [tY] at h;rw [GH]
  cases hx:body (fQ env keep) s with
  | fail=>rw [hx] at h;exact absurd h.symm ho
  | norm env' s'=>
   rw [hx] at h;rw [hb _ _ _ hx (by simp)];exact V5 hb N h ho
  | _=>rw [hb _ _ _ hx (by simp)];rw [hx] at h;exact h
theorem RI {body vg:Env→St→Out} {l:Nat} {keep:List Nat} (hb:∀env s o,body env s=o→o≠.fail→vg env s=o):
  ∀(N:Nat) {env:Env} {s:St} {o:Out},nO body l keep N env s=o→o≠.fail→Io vg l keep env s=o
 | 0,env,s,o,h,ho=>absurd h.symm ho
 | N+1,env,s,o,h,ho=>by
  simp only [nO] at h;rw [WY]
  cases hx:body (fQ env keep) s with
  | fail=>rw [hx] at h;exact absurd h.symm ho
  | goto l' env' s'=>
   rw [hx] at h;rw [hb _ _ _ hx (by simp)];simp only [Out.jmp] at h ⊢
   split at h
   ·rename_i hl;simp only [hl,if_true];exact RI hb N h ho
   ·exact absurd h.symm ho
  | _=>rw [hb _ _ _ hx (by simp)];rw [hx] at h;exact h
theorem lS (hc:y7 call callW) (ro:Bool) (N:Nat):∀(c:bD) (env:Env) (s:St) (o:Out),bn glob call cx ro N c env s=o→o≠.fail→aA glob callW cx ro c env s=o
 | .skip,env,s,o,h,ho=>by simpa [bn,aA] using h
 | .ret,env,s,o,h,ho=>by simpa [bn,aA] using h
 | .exit id,env,s,o,h,ho=>by simpa [bn,aA] using h
 | .region ops ord keep,env,s,o,h,ho=>by
  simp only [bn,aA] at h ⊢
  cases hx:oQ glob call cx ops env s ord with
  | fail=>rw [hx] at h;exact absurd h.symm ho
  | _=>rw [WZ hc hx (by simp)];rw [hx] at h;exact h
 | .seq a b,env,s,o,h,ho=>by
  simp only [bn,aA] at h ⊢
  cases hx:bn glob call cx ro N a env s with
  | fail=>rw [hx] at h;exact absurd h.symm ho
  | norm env' s'=>
   rw [hx] at h;rw [lS hc ro N a _ _ _ hx (by simp)];exact lS hc ro N b _ _ _ h ho
  | _=>rw [lS hc ro N a _ _ _ hx (by simp)];rw [hx] at h;exact h
 | .cond c a b,env,s,o,h,ho=>by
  simp only [bn,aA] at h ⊢;unfold abk
  split at h
  ·rename_i hx;rw [hx];simpa using lS hc ro N a _ _ _ h ho
  ·rename_i hx;rw [hx];simpa using lS hc ro N b _ _ _ h ho
  ·exact absurd h.symm ho
 | .block id b,env,s,o,h,ho=>by
  simp only [bn,aA] at h ⊢
  cases hx:bn glob call cx ro N b env s with
  | fail=>rw [hx] at h;exact absurd h.symm ho
  | _=>rw [lS hc ro N b _ _ _ hx (by simp)];rw [hx] at h;exact h
 | .loop keep b,env,s,o,h,ho=>by
  simp only [bn,aA] at h ⊢;exact V5 (lS hc ro N b) N h ho
 | .range f ps asg body,env,s,o,h,ho=>by
  simp only [bn,aA] at h ⊢
  split at h
  ·exact absurd h.symm ho
  ·rename_i hro;simp only [hro];unfold Ip
   split at h
   ·rename_i ff as cs hx;rw [hx]
    cases hy:call (.fn ff as cs) [.yl (s.length+1)] (s++[.dfr,.loop (qK env) ps asg body .ready]) cx with
    | fail=>rw [hy] at h;exact absurd h.symm ho
    | _=>
     have:=hc _ _ _ _ _ hy (by simp)
     rw [hy] at h
     simpa [this] using h
   ·exact absurd h.symm ho
 | .label l,env,s,o,h,ho=>by simpa [bn,aA] using h
 | .goto l,env,s,o,h,ho=>by simpa [bn,aA] using h
 | .scope l keep a b,env,s,o,h,ho=>by
  simp only [bn,aA] at h ⊢
  cases hx:bn glob call cx ro N a env s with
  | fail=>rw [hx] at h;exact absurd h.symm ho
  | goto l' env' s'=>
   rw [hx] at h;rw [lS hc ro N a _ _ _ hx (by simp)];simp only [Out.jmp] at h ⊢
   split at h
   ·rename_i hl;simp only [hl,if_true];exact RI (lS hc ro N b) N h ho
   ·exact absurd h.symm ho
  | _=>rw [lS hc ro N a _ _ _ hx (by simp)];rw [hx] at h;exact h
theorem Yh (hc:y7 call callW) {N:Nat} {fn:bJ} {args:List AV} {s:St} {o:CO} (h:tJ glob call N fn args s cx=o) (ho:o≠.fail):af glob callW fn args s cx=o:=by
 unfold tJ at h;unfold af
 split at h
 ·rename_i hnp;simp only [hnp,if_true]
  cases hx:bn glob call ⟨if fn.pure then s.length else cx.lim,if fn.keep then cx.base else s.length⟩ fn.keep N fn.code (uK args 0) s with
  | fail=>rw [hx] at h;exact absurd h.symm ho
  | _=>rw [lS hc _ N _ _ _ _ hx (by simp)];rw [hx] at h;exact h
 ·exact absurd h.symm ho
theorem Y9 (hc:y7 call callW) {N:Nat} {m:Option bD} {env:Env} {s:St} {o:Out} (h:yU glob call cx N m env s=o) (ho:o≠.fail):SN glob callW cx m env s=o:=by
 cases m with
 | none=>exact h
 | some c=>exact lS hc _ N _ _ _ _ h ho
theorem Vu (hc:y7 call callW) {N:Nat} {d:Du} {args:List AV} {s:St} {o:CO} (h:qC glob call N d args s cx=o) (ho:o≠.fail):uP glob callW d args s cx=o:=by
 have h1:Lim call (fun _=>callW):=fun fv args s cx c h hne=>⟨0,fun _ _=>hc fv args s cx c h hne⟩;unfold qC at h;unfold uP
 split at h
 ·rename_i hnp;simp only [hnp,if_true]
  cases hxm:kE glob call ⟨cx.lim,s.length⟩ d.pre (uK args 0) s with
  | norm em sm=>
   obtain ⟨nm,hnm⟩:=yx h1 _ hxm (by simp);rw [hxm] at h;rw [hnm nm (Nat.le_refl _)];simp only [] at h ⊢
   cases hx:yU glob call ⟨cx.lim,s.length⟩ N d.mid em sm with
   | ret e2 s2=>rw [Y9 hc hx (by simp)];rw [hx] at h;exact h
   | norm e0 s0=>
    rw [Y9 hc hx (by simp)];rw [hx] at h;simp only [] at h ⊢
    cases hy:dX glob call ⟨cx.lim,s.length⟩ d.mkc e0 s0 with
    | norm e1 s1=>
     obtain ⟨n1,hn1⟩:=vz h1 hy (by simp);rw [hy] at h;rw [hn1 n1 (Nat.le_refl _)];simp only [] at h ⊢
     split at h
     ·rename_i f caps ls hl hp;simp only [hl,hp]
      split at h
      ·rename_i hcond;rw [if_pos hcond]
       cases hz:bn glob call ⟨cx.lim,s.length⟩ true N d.code e1 s1 with
       | fail=>rw [hz] at h;exact absurd h.symm ho
       | _=>rw [lS hc _ N _ _ _ _ hz (by simp)];rw [hz] at h;exact h
      ·exact absurd h.symm ho
     ·exact absurd h.symm ho
    | _=>rw [hy] at h;exact absurd h.symm ho
   | _=>rw [hx] at h;exact absurd h.symm ho
  | _=>rw [hxm] at h;exact absurd h.symm ho
 ·exact absurd h.symm ho
theorem Yu (hc:y7 call callW) {N l:Nat} {args:List AV} {s:St} {o:CO} (h:xI glob call N l args s cx=o) (ho:o≠.fail):Ii glob callW l args s cx=o:=by
 unfold xI at h;unfold Ii
 split at h
 ·rename_i env ps asg body hl;rw [hl];simp only []
  split at h
  ·rename_i hcond;simp only [hcond,and_self,if_true]
   cases hx:bn glob call cx true N asg (BK env ps args) s with
   | norm env1 s1=>
    rw [lS hc true N _ _ _ _ hx (by simp)];rw [hx] at h;unfold vg;simp only [] at h ⊢
    split at h
    ·rename_i e1 p1 a1 b1 hl1;rw [hl1];simp only []
     cases hy:bn glob call cx true N body env1 (s1.set l (.loop e1 p1 a1 b1 .busy)) with
     | fail=>rw [hy] at h;exact absurd h.symm ho
     | _=>rw [lS hc true N _ _ _ _ hy (by simp)];rw [hy] at h;exact h
    ·exact absurd h.symm ho
   | _=>rw [hx] at h;exact absurd h.symm ho
  ·exact absurd h.symm ho
 ·exact absurd h.symm ho
end
theorem Yg {call callW qcall qcallW:AV→List AV→St→Ctx→CO} {cx:Ctx} (hc:y7 call callW) (hq:y7 qcall qcallW) {k:HiK} {args:List AV} {s:St} {o:CO} (h:lQ call qcall k args s cx=o) (ho:o≠.fail):
  lQ callW qcallW k args s cx=o:=by
 have h1:Lim call (fun _=>callW):=fun fv args s cx c h hne=>⟨0,fun _ _=>hc fv args s cx c h hne⟩;have h2:Lim qcall (fun _=>qcallW):=fun fv args s cx c h hne=>⟨0,fun _ _=>hq fv args s cx c h hne⟩;obtain ⟨n,hn⟩:=JX h1 h2 h ho;exact hn n (Nat.le_refl _)
theorem Jj:∀(n:Nat) (A:qV),y7 (iC A n) (aj A)
 | 0,A=>fun fv args s cx c h hne=>by simp only [iC] at h;exact absurd h.symm hne
 | n+1,A=>fun fv args s cx c h hne=>by
  have ih:=Jj n A
  cases fv with
  | fn f as cs=>
   cases f with
   | func fid=>
    simp only [iC] at h
    split at h
    ·rename_i hh hin
     split at h
     ·rename_i r hr;rw [←h];exact AX hin hr
     ·exact absurd h.symm hne
    ·rename_i hin
     split at h
     ·rename_i k hk;exact Yp hin hk hne (Yg ih (Jj n A.quiet) h hne)
     ·rename_i hk
      split at h
      ·rename_i d hd;exact Oe hin hk hd hne (Vu ih h hne)
      ·rename_i hd
       split at h
       ·rename_i fn hfn;exact P8 hin hk hd hfn hne (Yh ih h hne)
       ·exact absurd h.symm hne
   | _=>simp only [iC] at h;exact absurd h.symm hne
  | yl l=>simp only [iC] at h;exact P7 hne (Yu ih h hne)
  | _=>simp only [iC] at h;exact absurd h.symm hne
theorem aat (A:qV) (n:Nat):y7 (iC A n) (aj A):=Jj n A
end Go.Ai
