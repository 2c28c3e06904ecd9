/-
 The interpreter in the limit: no fuel.
-/
import Derived.Test.YtalbhlfigmlddaaGreatDoorAiA1
set_option maxRecDepth 100000
set_option linter.unusedSimpArgs false
set_option linter.unusedVariables false
set_option linter.unusedSectionVars false
namespace Go.Ai
noncomputable def NQ {α:Type} (d:α) (h:Nat→α):α:=
 open Classical in if H:∃c,c≠d∧∃n,∀m,n≤m→h m=c then H.choose else d
theorem yJ {α:Type} {d:α} {h:Nat→α} {c:α} {n:Nat} (hc:∀m,n≤m→h m=c):NQ d h=c:=by
 unfold NQ
 split
 ·rename_i H
  obtain ⟨_,n',hn'⟩:=H.choose_spec
  rw [←hn' (max n n') (Nat.le_max_right _ _),hc _ (Nat.le_max_left _ _)]
 ·rename_i H
  by_cases hd:c=d
  ·exact hd.symm
  ·exact absurd ⟨c,hd,n,hc⟩ H
theorem Fh {α:Type} {d:α} {h:Nat→α} {c:α} (hl:NQ d h=c) (hd:c≠d):∃n,∀m,n≤m→h m=c:=by
 unfold NQ at hl
 split at hl
 ·rename_i H
  obtain ⟨_,n',hn'⟩:=H.choose_spec
  exact ⟨n',fun m hm=>(hn' m hm).trans hl⟩
 ·exact absurd hl.symm hd
theorem Qe {α:Type} {d:α} {h g:Nat→α} (hs:∀n,h (n+1)=g n):NQ d h=NQ d g:=by
 by_cases hg:NQ d g=d
 ·rw [hg]
  by_cases hh:NQ d h=d
  ·exact hh
  ·obtain ⟨n,hn⟩:=Fh rfl hh
   have:=yJ (d:=d) (h:=g) (c:=NQ d h) (n:=n) (fun m hm=>by rw [←hs];exact hn _ (by omega))
   rw [←this,hg]
 ·obtain ⟨n,hn⟩:=Fh rfl hg
  exact yJ (n:=n+1) (fun m hm=>by obtain ⟨k,rfl⟩:∃k,m=k+1:=⟨m - 1,by omega⟩;rw [hs];exact hn k (by omega))
def Out.thn (o:Out) (f:Env→St→Out):Out:=
 match o with
 | .norm env s=>f env s
 | o=>o
def Out.blk (id:Nat) (o:Out):Out:=
 match o with
 | .exit id' env s=>if id'=id then .norm env s else .exit id' env s
 | o=>o
def ael (x:Option AV) (a b:Unit→Out):Out:=
 match x with
 | some (.b x)=>if x=true then a () else b ()
 | _=>.fail
noncomputable def bg (body:Env→St→Out) (keep:List Nat) (env:Env) (s:St):Out:=NQ .fail (fun N=>uU body keep N env s)
theorem A8 (body:Env→St→Out) (keep:List Nat) (env:Env) (s:St):bg body keep env s=(body (eU env keep) s).thn (bg body keep):=by
 unfold bg
 cases hb:body (eU env keep) s with
 | norm env' s'=>exact Qe (fun n=>by simp [uU,hb])
 | _=>exact yJ (n:=1) (fun m hm=>by obtain ⟨k,rfl⟩:∃k,m=k+1:=⟨m - 1,by omega⟩;simp [uU,hb,Out.thn])
noncomputable def zk (body:Env→St→Out) (l:Nat) (keep:List Nat) (env:Env) (s:St):Out:=NQ .fail (fun N=>oL body l keep N env s)
def Out.jmp (l:Nat) (o:Out) (f:Env→St→Out):Out:=
 match o with
 | .goto l' env s=>if l'=l then f env s else .fail
 | o=>o
theorem Az (body:Env→St→Out) (l:Nat) (keep:List Nat) (env:Env) (s:St):zk body l keep env s=(body (eU env keep) s).jmp l (zk body l keep):=by
 unfold zk
 cases hb:body (eU env keep) s with
 | goto l' env' s'=>
  by_cases hl:l'=l
  ·simp only [Out.jmp,hl,if_true]
   exact Qe (fun n=>by simp [oL,hb,hl])
  ·exact yJ (n:=1) (fun m hm=>by obtain ⟨k,rfl⟩:∃k,m=k+1:=⟨m - 1,by omega⟩;simp [oL,hb,Out.jmp,hl])
 | _=>exact yJ (n:=1) (fun m hm=>by obtain ⟨k,rfl⟩:∃k,m=k+1:=⟨m - 1,by omega⟩;simp [oL,hb,Out.jmp])
section
variable (glob:Nat→Option (List AV))
def Ku (x:Option AV) (call:AV→List AV→St→Ctx→CO) (cx:Ctx) (ps:List Nat) (asg body:aG) (env:Env) (s:St):Out:=
 match x with
 | some (.fn ff as cs)=>match call (.fn ff as cs) [.yl (s.length+1)] (s++[.dfr,.loop (rD env) ps asg body .ready]) cx with
  | .ret _ s'=>Hf env s' (s.length+1)
  | _=>.fail
 | _=>.fail
noncomputable def au (call:AV→List AV→St→Ctx→CO) (cx:Ctx) (ro:Bool):aG→Env→St→Out
 | .skip,env,s=>.norm env s
 | .ret,env,s=>.ret env s
 | .exit id,env,s=>.exit id env s
 | .region ops ord keep,env,s=>(pX glob call cx ops env s ord).thn fun env s=>.norm (eU env keep) s
 | .seq a b,env,s=>(au call cx ro a env s).thn (au call cx ro b)
 | .cond c a b,env,s=>ael (rd glob env c) (fun _=>au call cx ro a env s) (fun _=>au call cx ro b env s)
 | .block id b,env,s=>(au call cx ro b env s).blk id
 | .loop keep b,env,s=>bg (au call cx ro b) keep env s
 | .range f ps asg body,env,s=>if ro=true then .fail else Ku (rd glob env f) call cx ps asg body env s
 | .label _,env,s=>.norm env s
 | .goto l,env,s=>.goto l env s
 | .scope l keep a b,env,s=>(au call cx ro a env s).jmp l (zk (au call cx ro b) l keep)
def endW (pure keep:Bool) (s:St) (res:List RV) (o:Out):CO:=
 match o with
 | .norm env s1 | .ret env s1=>match tJ glob env s1 res with
  | some rs=>finish pure keep s s1 (DK rs)
  | none=>.fail
 | .pan v s1=>(finish pure keep s s1 v).toPan
 | _=>.fail
noncomputable def af (call:AV→List AV→St→Ctx→CO) (fn:aV) (args:List AV) (s:St) (cx:Ctx):CO:=
 if args.length=fn.np then
  endW glob fn.pure fn.keep s fn.res (au glob call ⟨if fn.pure=true then s.length else cx.lim,if fn.keep=true then cx.base else s.length⟩ fn.keep fn.code (DJ args 0) s)
 else .fail
def JC (l:Nat) (o:Out):CO:=
 match o with
 | .norm _ s2=>qU s2 l .ready true
 | .ret _ s2=>qU s2 l .ret false
 | .exit id _ s2=>qU s2 l (.exit id) false
 | _=>.fail
noncomputable def wz (call:AV→List AV→St→Ctx→CO) (cx:Ctx) (body:aG) (l:Nat) (o:Out):CO:=
 match o with
 | .norm env1 s1=>match s1[l]? with
  | some (.loop e1 p1 a1 b1 .ready)=>JC l (au glob call cx true body env1 (s1.set l (.loop e1 p1 a1 b1 .busy)))
  | _=>.fail
 | _=>.fail
noncomputable def J6 (call:AV→List AV→St→Ctx→CO) (l:Nat) (args:List AV) (s:St) (cx:Ctx):CO:=
 match s[l]? with
 | some (.loop env ps asg body .ready)=>
  if ps.length=args.length∧cx.lim≤l then
   wz glob call cx body l (au glob call cx true asg (DR env ps args) s)
  else .fail
 | _=>.fail
end
section
variable {glob:Nat→Option (List AV)} {callW:AV→List AV→St→Ctx→CO} {call:Nat→AV→List AV→St→Ctx→CO} {cx:Ctx}
def Lim (callW:AV→List AV→St→Ctx→CO) (call:Nat→AV→List AV→St→Ctx→CO):Prop:=
 ∀fv args s cx c,callW fv args s cx=c→c≠.fail→∃n,∀m,n≤m→call m fv args s cx=c
theorem Rj (hc:Lim callW call) {env:Env} {s:St} {op:AOp} {o:RO} (h:aop glob callW cx env s op=o) (ho:o≠.fail):
  ∃n,∀m,n≤m→aop glob (call m) cx env s op=o:=by
 by_cases hch:∃d f as,op=.callh d f as
 ·obtain ⟨d,f,as,rfl⟩:=hch
  simp only [aop] at h ⊢
  split at h
  ·exact absurd h.symm ho
  ·split at h
   ·rename_i fv as' h1 h2
    cases hx:callW fv as' s cx with
    | fail=>rw [hx] at h;exact absurd h.symm ho
    | ret r s'=>
     obtain ⟨n,hn⟩:=hc _ _ _ _ _ hx (by simp)
     exact ⟨n,fun m hm=>by rw [hn m hm];rw [hx] at h;exact h⟩
    | pan r s'=>
     obtain ⟨n,hn⟩:=hc _ _ _ _ _ hx (by simp)
     exact ⟨n,fun m hm=>by rw [hn m hm];rw [hx] at h;exact h⟩
   ·exact absurd h.symm ho
 by_cases hcall:∃f as,op=.call f as∨op=.callp f as
 ·obtain ⟨f,as,hop⟩:=hcall
  have hcp:∀c:AV→List AV→St→Ctx→CO,aop glob c cx env s op=aop glob c cx env s (.call f as):=by rcases hop with rfl|rfl<;>exact fun _=>rfl
  simp only [hcp] at h ⊢
  clear hop hcp
  simp only [aop] at h ⊢
  split at h
  ·rename_i fv as' env' h1 h2
   cases hx:callW fv as' s cx with
   | fail=>rw [hx] at h;exact absurd h.symm ho
   | ret r s'=>
    obtain ⟨n,hn⟩:=hc _ _ _ _ _ hx (by simp)
    exact ⟨n,fun m hm=>by rw [hn m hm];rw [hx] at h;exact h⟩
   | pan r s'=>
    obtain ⟨n,hn⟩:=hc _ _ _ _ _ hx (by simp)
    exact ⟨n,fun m hm=>by rw [hn m hm];rw [hx] at h;exact h⟩
  ·exact absurd h.symm ho
 ·refine ⟨0,fun m _=>?_⟩
  rw [←h]
  cases op with
  | call f as=>exact absurd ⟨_,_,.inl rfl⟩ hcall
  | callp f as=>exact absurd ⟨_,_,.inr rfl⟩ hcall
  | callh d f as=>exact absurd ⟨_,_,_,rfl⟩ hch
  | len k x=>rcases k with _ | _ | _|k<;>rfl
  | _=>rfl
theorem BM (hc:Lim callW call) {env:Env} {s:St} {p:aH} {o:Out} (h:eF glob callW cx p env s=o) (ho:o≠.fail):
  ∃n,∀m,n≤m→eF glob (call m) cx p env s=o:=by
 unfold eF at h ⊢
 split at h
 ·exact absurd h.symm ho
 ·exact ⟨0,fun m _=>h⟩
 ·cases hx:aop glob callW cx env s p.op with
  | fail=>rw [hx] at h;exact absurd h.symm ho
  | ok e env' s'=>
   obtain ⟨n,hn⟩:=Rj hc hx (by simp)
   exact ⟨n,fun m hm=>by rw [hn m hm];rw [hx] at h;exact h⟩
  | pan v s'=>
   obtain ⟨n,hn⟩:=Rj hc hx (by simp)
   exact ⟨n,fun m hm=>by rw [hn m hm];rw [hx] at h;exact h⟩
theorem MB (hc:Lim callW call):∀(ops:List aH) {env:Env} {s:St} {o:Out},oq glob callW cx ops env s=o→o≠.fail→
  ∃n,∀m,n≤m→oq glob (call m) cx ops env s=o
 | [],env,s,o,h,ho=>⟨0,fun m _=>h⟩
 | p::r,env,s,o,h,ho=>by
  simp only [oq] at h ⊢
  cases hx:eF glob callW cx p env s with
  | fail=>rw [hx] at h;exact absurd h.symm ho
  | norm env' s'=>
   rw [hx] at h
   obtain ⟨n,hn⟩:=BM hc hx (by simp)
   obtain ⟨n',hn'⟩:=MB hc r h ho
   exact ⟨max n n',fun m hm=>by rw [hn m (by omega)];exact hn' m (by omega)⟩
  | _=>
   obtain ⟨n,hn⟩:=BM hc hx (by simp)
   exact ⟨n,fun m hm=>by rw [hn m hm];rw [hx] at h;exact h⟩
theorem ZO (hc:Lim callW call) {env:Env} {s:St} {p:aH} {e:EV} (h:uF glob callW p env s=some e):
  ∃n,∀m,n≤m→uF glob (call m) p env s=some e:=by
 unfold uF at h ⊢
 split at h
 ·cases h
 ·exact ⟨0,fun m _=>h⟩
 ·split at h
  ·rename_i hq
   simp only [hq,if_true]
   cases hx:aop glob callW ⟨s.length,s.length⟩ env s p.op with
   | fail=>rw [hx] at h;cases h
   | ok e env' s'=>
    obtain ⟨n,hn⟩:=Rj hc hx (by simp)
    exact ⟨n,fun m hm=>by rw [hn m hm];rw [hx] at h;exact h⟩
   | pan v s'=>rw [hx] at h;cases h
  ·cases h
theorem SL (hc:Lim callW call) {env:Env} {s:St} {p:aH} {o:Out} (h:gZ glob callW cx p env s=o) (ho:o≠.fail):
  ∃n,∀m,n≤m→gZ glob (call m) cx p env s=o:=by
 unfold gZ at h ⊢
 split at h
 ·rename_i hq
  simp only [hq,if_true]
  unfold yG at h ⊢
  cases hx:uF glob callW p env s with
  | none=>rw [hx] at h;exact absurd h.symm ho
  | some e=>
   obtain ⟨n,hn⟩:=ZO hc hx
   exact ⟨n,fun m hm=>by rw [hn m hm];rw [hx] at h;exact h⟩
 ·rename_i hq
  simp only [hq]
  exact BM hc h ho
theorem yH (hc:Lim callW call) (aops:List aH):∀(l:List Nat) {env:Env} {s:St} {o:Out},gY glob callW cx aops l env s=o→o≠.fail→
  ∃n,∀m,n≤m→gY glob (call m) cx aops l env s=o
 | [],env,s,o,h,ho=>⟨0,fun m _=>h⟩
 | i::r,env,s,o,h,ho=>by
  simp only [gY] at h ⊢
  split at h
  ·exact absurd h.symm ho
  ·rename_i p hp
   cases hx:gZ glob callW cx p env s with
   | fail=>rw [hx] at h;exact absurd h.symm ho
   | norm env' s'=>
    rw [hx] at h
    obtain ⟨n,hn⟩:=SL hc hx (by simp)
    obtain ⟨n',hn'⟩:=yH hc aops r h ho
    exact ⟨max n n',fun m hm=>by rw [hn m (by omega)];exact hn' m (by omega)⟩
   | _=>
    obtain ⟨n,hn⟩:=SL hc hx (by simp)
    exact ⟨n,fun m hm=>by rw [hn m hm];rw [hx] at h;exact h⟩
theorem VL (hc:Lim callW call) {ops:List aH} {π:List Nat} {env:Env} {s:St} {o:Out} (h:wM glob callW cx ops π env s=o) (ho:o≠.fail):
  ∃n,∀m,n≤m→wM glob (call m) cx ops π env s=o:=by
 unfold wM at h ⊢
 split at h
 ·exact absurd h.symm ho
 ·rename_i c oc hpc
  split at h
  ·rename_i hall
   cases hx:gY glob callW cx ops (wO ops c oc false π) env s with
   | norm env1 s1=>
    rw [hx] at h
    simp only [] at h
    cases hy:eF glob callW cx oc env1 s1 with
    | pan v s2=>
     rw [hy] at h
     obtain ⟨n,hn⟩:=yH hc ops _ hx (by simp)
     obtain ⟨n',hn'⟩:=BM hc hy (by simp)
     refine ⟨max n n',fun m hm=>?_⟩
     rw [hn m (by omega)]
     simp only []
     rw [if_pos hall,hn' m (by omega)]
     exact h
    | _=>rw [hy] at h;exact absurd h.symm ho
   | _=>rw [hx] at h;exact absurd h.symm ho
  ·exact absurd h.symm ho
theorem Md (hc:Lim callW call) {ops:List aH} {ord:Option (List Nat×List Nat)} {env:Env} {s:St} {o:Out} (h:pX glob callW cx ops env s ord=o) (ho:o≠.fail):
  ∃n,∀m,n≤m→pX glob (call m) cx ops env s ord=o:=by
 cases ord with
 | none=>exact MB hc ops h ho
 | some p=>
  simp only [pX] at h ⊢
  cases hx:gY glob callW cx ops p.1 (Aw env p.2) s with
  | fail=>rw [hx] at h;exact absurd h.symm ho
  | pan v s1=>
   rw [hx] at h
   obtain ⟨n,hn⟩:=yH hc ops p.1 hx (by simp)
   obtain ⟨n',hn'⟩:=VL hc (h:wM glob callW cx ops p.1 (Aw env p.2) s=o) ho
   exact ⟨max n n',fun m hm=>by rw [hn m (by omega)];exact hn' m (by omega)⟩
  | _=>
   obtain ⟨n,hn⟩:=yH hc ops p.1 hx (by simp)
   exact ⟨n,fun m hm=>by rw [hn m hm];rw [hx] at h;exact h⟩
theorem Td {wz:Env→St→Out} {body:Nat→Env→St→Out} {keep:List Nat} (hb:∀env s o,wz env s=o→o≠.fail→∃n,∀m,n≤m→body m env s=o):
  ∀(N0:Nat) {env:Env} {s:St} {o:Out},uU wz keep N0 env s=o→o≠.fail→∃n,∀m,n≤m→∀N,N0≤N→uU (body m) keep N env s=o
 | 0,env,s,o,h,ho=>absurd h.symm ho
 | N0+1,env,s,o,h,ho=>by
  simp only [uU] at h
  cases hx:wz (eU env keep) s with
  | fail=>rw [hx] at h;exact absurd h.symm ho
  | norm env' s'=>
   rw [hx] at h
   obtain ⟨n,hn⟩:=hb _ _ _ hx (by simp)
   obtain ⟨n',hn'⟩:=Td hb N0 h ho
   refine ⟨max n n',fun m hm N hN=>?_⟩
   obtain ⟨k,rfl⟩:∃k,N=k+1:=⟨N - 1,by omega⟩
   simp only [uU]
   rw [hn m (by omega)];exact hn' m (by omega) k (by omega)
  | _=>
   obtain ⟨n,hn⟩:=hb _ _ _ hx (by simp)
   refine ⟨n,fun m hm N hN=>?_⟩
   obtain ⟨k,rfl⟩:∃k,N=k+1:=⟨N - 1,by omega⟩
   simp only [uU]
   rw [hn m hm];rw [hx] at h;exact h
theorem OT {wz:Env→St→Out} {body:Nat→Env→St→Out} {l:Nat} {keep:List Nat} (hb:∀env s o,wz env s=o→o≠.fail→∃n,∀m,n≤m→body m env s=o):
  ∀(N0:Nat) {env:Env} {s:St} {o:Out},oL wz l keep N0 env s=o→o≠.fail→∃n,∀m,n≤m→∀N,N0≤N→oL (body m) l keep N env s=o
 | 0,env,s,o,h,ho=>absurd h.symm ho
 | N0+1,env,s,o,h,ho=>by
  simp only [oL] at h
  cases hx:wz (eU env keep) s with
  | fail=>rw [hx] at h;exact absurd h.symm ho
  | goto l' env' s'=>
   rw [hx] at h
   simp only [] at h
   split at h
   ·rename_i hl
    obtain ⟨n,hn⟩:=hb _ _ _ hx (by simp)
    obtain ⟨n',hn'⟩:=OT hb N0 h ho
    refine ⟨max n n',fun m hm N hN=>?_⟩
    obtain ⟨k,rfl⟩:∃k,N=k+1:=⟨N - 1,by omega⟩
    simp only [oL]
    rw [hn m (by omega)]
    simp only [hl,if_true]
    exact hn' m (by omega) k (by omega)
   ·exact absurd h.symm ho
  | _=>
   obtain ⟨n,hn⟩:=hb _ _ _ hx (by simp)
   refine ⟨n,fun m hm N hN=>?_⟩
   obtain ⟨k,rfl⟩:∃k,N=k+1:=⟨N - 1,by omega⟩
   simp only [oL]
   rw [hn m hm];rw [hx] at h;exact h
theorem kC (hc:Lim callW call) (ro:Bool):∀(c:aG) (env:Env) (s:St) (o:Out),au glob callW cx ro c env s=o→o≠.fail→
  ∃n,∀m,n≤m→bC glob (call m) cx ro m c env s=o
 | .skip,env,s,o,h,ho=>⟨0,fun m _=>by simpa [bC,au] using h⟩
 | .ret,env,s,o,h,ho=>⟨0,fun m _=>by simpa [bC,au] using h⟩
 | .exit id,env,s,o,h,ho=>⟨0,fun m _=>by simpa [bC,au] using h⟩
 | .region ops ord keep,env,s,o,h,ho=>by
  simp only [bC,au] at h ⊢
  cases hx:pX glob callW cx ops env s ord with
  | fail=>rw [hx] at h;exact absurd h.symm ho
  | _=>
   obtain ⟨n,hn⟩:=Md hc hx (by simp)
   exact ⟨n,fun m hm=>by rw [hn m hm];rw [hx] at h;exact h⟩
 | .seq a b,env,s,o,h,ho=>by
  simp only [bC,au] at h ⊢
  cases hx:au glob callW cx ro a env s with
  | fail=>rw [hx] at h;exact absurd h.symm ho
  | norm env' s'=>
   rw [hx] at h
   obtain ⟨n,hn⟩:=kC hc ro a _ _ _ hx (by simp)
   obtain ⟨n',hn'⟩:=kC hc ro b _ _ _ h ho
   exact ⟨max n n',fun m hm=>by rw [hn m (by omega)];exact hn' m (by omega)⟩
  | _=>
   obtain ⟨n,hn⟩:=kC hc ro a _ _ _ hx (by simp)
   exact ⟨n,fun m hm=>by rw [hn m hm];rw [hx] at h;exact h⟩
 | .cond c a b,env,s,o,h,ho=>by
  simp only [bC,au] at h ⊢
  unfold ael at h
  split at h
  ·rename_i x hx
   rw [hx]
   cases x with
   | true=>exact kC hc ro a _ _ _ (by simpa using h) ho
   | false=>exact kC hc ro b _ _ _ (by simpa using h) ho
  ·exact absurd h.symm ho
 | .block id b,env,s,o,h,ho=>by
  simp only [bC,au] at h ⊢
  cases hx:au glob callW cx ro b env s with
  | fail=>rw [hx] at h;exact absurd h.symm ho
  | _=>
   obtain ⟨n,hn⟩:=kC hc ro b _ _ _ hx (by simp)
   exact ⟨n,fun m hm=>by rw [hn m hm];rw [hx] at h;exact h⟩
 | .loop keep b,env,s,o,h,ho=>by
  simp only [bC,au] at h ⊢
  obtain ⟨N0,hN⟩:=Fh h ho
  obtain ⟨n,hn⟩:=Td (body:=fun m=>bC glob (call m) cx ro m b) (kC hc ro b) N0 (hN N0 (Nat.le_refl _)) ho
  exact ⟨max n N0,fun m hm=>hn m (by omega) m (by omega)⟩
 | .range f ps asg body,env,s,o,h,ho=>by
  simp only [bC,au] at h ⊢
  split at h
  ·exact absurd h.symm ho
  ·rename_i hro
   simp only [hro]
   unfold Ku at h
   split at h
   ·rename_i ff as cs hx
    rw [hx]
    simp only []
    cases hy:callW (.fn ff as cs) [.yl (s.length+1)] (s++[.dfr,.loop (rD env) ps asg body .ready]) cx with
    | fail=>rw [hy] at h;exact absurd h.symm ho
    | _=>
     obtain ⟨n,hn⟩:=hc _ _ _ _ _ hy (by simp)
     exact ⟨n,fun m hm=>by rw [hn m hm];rw [hy] at h;exact h⟩
   ·exact absurd h.symm ho
 | .label l,env,s,o,h,ho=>⟨0,fun m _=>by simpa [bC,au] using h⟩
 | .goto l,env,s,o,h,ho=>⟨0,fun m _=>by simpa [bC,au] using h⟩
 | .scope l keep a b,env,s,o,h,ho=>by
  simp only [bC,au] at h ⊢
  cases hx:au glob callW cx ro a env s with
  | fail=>rw [hx] at h;exact absurd h.symm ho
  | goto l' env' s'=>
   rw [hx] at h
   simp only [Out.jmp] at h
   split at h
   ·rename_i hl
    obtain ⟨n,hn⟩:=kC hc ro a _ _ _ hx (by simp)
    obtain ⟨N0,hN⟩:=Fh h ho
    obtain ⟨n',hn'⟩:=OT (body:=fun m=>bC glob (call m) cx ro m b) (kC hc ro b) N0 (hN N0 (Nat.le_refl _)) ho
    exact ⟨max n (max n' N0),fun m hm=>by rw [hn m (by omega)];simp only [hl,if_true];exact hn' m (by omega) m (by omega)⟩
   ·exact absurd h.symm ho
  | _=>
   obtain ⟨n,hn⟩:=kC hc ro a _ _ _ hx (by simp)
   exact ⟨n,fun m hm=>by rw [hn m hm];rw [hx] at h;exact h⟩
theorem W9 (hc:Lim callW call) {fn:aV} {args:List AV} {s:St} {o:CO} (h:af glob callW fn args s cx=o) (ho:o≠.fail):
  ∃n,∀m,n≤m→uN glob (call m) m fn args s cx=o:=by
 unfold af at h
 unfold uN
 split at h
 ·rename_i hnp
  simp only [hnp,if_true]
  cases hx:au glob callW ⟨if fn.pure=true then s.length else cx.lim,if fn.keep=true then cx.base else s.length⟩ fn.keep fn.code (DJ args 0) s with
  | fail=>rw [hx] at h;exact absurd h.symm ho
  | _=>
   obtain ⟨n,hn⟩:=kC hc _ _ _ _ _ hx (by simp)
   exact ⟨n,fun m hm=>by rw [hn m hm];rw [hx] at h;exact h⟩
 ·exact absurd h.symm ho
theorem Xv (hc:Lim callW call) {l:Nat} {args:List AV} {s:St} {o:CO} (h:J6 glob callW l args s cx=o) (ho:o≠.fail):
  ∃n,∀m,n≤m→y8 glob (call m) m l args s cx=o:=by
 unfold J6 at h
 unfold y8
 split at h
 ·rename_i env ps asg body hl
  rw [hl]
  simp only []
  split at h
  ·rename_i hcond
   simp only [hcond,and_self,if_true]
   cases hx:au glob callW cx true asg (DR env ps args) s with
   | norm env1 s1=>
    obtain ⟨n,hn⟩:=kC hc true _ _ _ _ hx (by simp)
    rw [hx] at h
    unfold wz at h
    simp only [] at h
    split at h
    ·rename_i e1 p1 a1 b1 hl1
     cases hy:au glob callW cx true body env1 (s1.set l (.loop e1 p1 a1 b1 .busy)) with
     | fail=>rw [hy] at h;exact absurd h.symm ho
     | _=>
      obtain ⟨n',hn'⟩:=kC hc true _ _ _ _ hy (by simp)
      exact ⟨max n n',fun m hm=>by rw [hn m (by omega)];simp only [hl1];rw [hn' m (by omega)];rw [hy] at h;exact h⟩
    ·exact absurd h.symm ho
   | _=>rw [hx] at h;exact absurd h.symm ho
  ·exact absurd h.symm ho
 ·exact absurd h.symm ho
end
theorem Qa {α β:Type} {f:α→Option β} {g:Nat→α→Option β}:∀(l:List α) {r:List β},(∀x∈l,∀y,f x=some y→∃n,∀m,n≤m→g m x=some y)→l.mapM f=some r→∃n,∀m,n≤m→l.mapM (g m)=some r
 | [],r,_,h=>⟨0,fun m _=>by simpa using h⟩
 | x::l,r,hf,h=>by
  simp only [List.mapM_cons,Option.bind_eq_bind,Option.pure_def] at h ⊢
  cases hx:f x with
  | none=>simp [hx] at h
  | some y=>
   cases hl:l.mapM f with
   | none=>simp [hx,hl] at h
   | some ys=>
    simp [hx,hl] at h
    subst h
    obtain ⟨n,hn⟩:=hf x (by simp) y hx
    obtain ⟨n',hn'⟩:=Qa l (fun z hz=>hf z (by simp [hz])) hl
    exact ⟨max n n',fun m hm=>by rw [hn m (by omega),hn' m (by omega)];rfl⟩
theorem aaW {callW:AV→List AV→St→Ctx→CO} {call:Nat→AV→List AV→St→Ctx→CO} (hc:Lim callW call) {g:Nat} {x y:AV} {r:Int} (h:UX callW g x y=some r):
  ∃n,∀m,n≤m→UX (call m) g x y=some r:=by
 unfold UX at h ⊢
 cases hx:callW (.fn (.func g) [] []) [x,y] [] ⟨0,0⟩ with
 | fail=>rw [hx] at h;cases h
 | pan v s=>rw [hx] at h;cases h
 | ret v s=>
  obtain ⟨n,hn⟩:=hc _ _ _ _ _ hx (by simp)
  exact ⟨n,fun m hm=>by rw [hn m hm];rw [hx] at h;exact h⟩
theorem WX {callW:AV→List AV→St→Ctx→CO} {call:Nat→AV→List AV→St→Ctx→CO} (hc:Lim callW call) {g:Nat} {es:List AV} {tab:List (List Int)} (h:QI callW g es=some tab):
  ∃n,∀m,n≤m→QI (call m) g es=some tab:=
 Qa (g:=fun m x=>es.mapM fun y=>UX (call m) g x y) es (fun _ _ _ hx=>Qa (g:=fun m y=>UX (call m) g _ y) es (fun _ _ _ hy=>aaW hc hy) hx) h
theorem Nk {callW qcallW:AV→List AV→St→Ctx→CO} {call qcall:Nat→AV→List AV→St→Ctx→CO} {cx:Ctx} (hc:Lim callW call) (hq:Lim qcallW qcall) {k:HiK} {args:List AV} {s:St} {o:CO}
  (h:iY callW qcallW k args s cx=o) (ho:o≠.fail):∃n,∀m,n≤m→iY (call m) (qcall m) k args s cx=o:=by
 unfold iY at h
 split at h
 ·rename_i r f as cs
  cases hx:callW (.fn (.func f) as cs) [] s cx with
  | ret r1 s1=>
   obtain ⟨n,hn⟩:=hc _ _ _ _ _ hx (by simp)
   exact ⟨n,fun m hm=>by simp only [iY,hn m hm];rw [hx] at h;exact h⟩
  | pan r1 s1=>
   obtain ⟨n,hn⟩:=hc _ _ _ _ _ hx (by simp)
   exact ⟨n,fun m hm=>by simp only [iY,hn m hm];rw [hx] at h;exact h⟩
  | fail=>rw [hx] at h;exact absurd h.symm ho
 ·exact ⟨0,fun m _=>by simpa [iY] using h⟩
 ·exact ⟨0,fun m _=>by simpa [iY] using h⟩
 ·rename_i k0 l ver sz o m g
  split at h
  ·exact ⟨0,fun m _=>by simpa [iY] using h⟩
  ·rename_i n t sz' ver' cs hl
   split at h
   ·rename_i hcond
    cases hx:QI qcallW g (chunk sz (n+1) (cs.drop o)) with
    | none=>rw [hx] at h;exact absurd h.symm ho
    | some tab=>
     obtain ⟨n1,hn⟩:=WX hq hx
     exact ⟨n1,fun m hm=>by simp only [iY,hl];rw [if_pos hcond,hn m hm];rw [hx] at h;exact h⟩
   ·exact absurd h.symm ho
  ·exact absurd h.symm ho
 ·exact ⟨0,fun m _=>by simpa [iY] using h⟩
 ·exact ⟨0,fun m _=>by simp only [iY];exact h⟩
 ·rename_i f t z e es
  cases hx:callW (.fn (.func f) [] []) [.pt s.length 0] (s++[.cells [.sl (e::es)]]) cx with
  | ret r1 s1=>
   obtain ⟨n,hn⟩:=hc _ _ _ _ _ hx (by simp)
   exact ⟨n,fun m hm=>by simp only [iY,hn m hm];rw [hx] at h;exact h⟩
  | pan r1 s1=>
   obtain ⟨n,hn⟩:=hc _ _ _ _ _ hx (by simp)
   exact ⟨n,fun m hm=>by simp only [iY,hn m hm];rw [hx] at h;exact h⟩
  | fail=>rw [hx] at h;exact absurd h.symm ho
 ·exact absurd h.symm ho
noncomputable def aj (A:sD) (fv:AV) (args:List AV) (s:St) (cx:Ctx):CO:=NQ .fail fun n=>fO A n fv args s cx
theorem CQ (A:sD):Lim (aj A) (fO A):=fun fv args s cx c h hc=>Fh h hc
theorem LU {A:sD} {f:Nat} {fn:aV} (hi:A.intr f=none) (hh:A.hi f=none) (hf:A.fns f=some fn) {as cs args:List AV} {s:St} {cx:Ctx} {o:CO} (ho:o≠.fail)
  (h:af A.glob (aj A) fn (as++args++cs) s cx=o):aj A (.fn (.func f) as cs) args s cx=o:=by
 obtain ⟨n,hn⟩:=W9 (CQ A) h ho
 exact yJ (n:=n+1) (fun m hm=>by obtain ⟨k,rfl⟩:∃k,m=k+1:=⟨m - 1,by omega⟩;simp only [fO,hi,hh,hf];exact hn k (by omega))
theorem Bv {A:sD} {f:Nat} {k:HiK} (hi:A.intr f=none) (hf:A.hi f=some k) {as cs args:List AV} {s:St} {cx:Ctx} {o:CO} (ho:o≠.fail)
  (h:iY (aj A) (aj A.quiet) k (as++args++cs) s cx=o):aj A (.fn (.func f) as cs) args s cx=o:=by
 obtain ⟨n,hn⟩:=Nk (CQ A) (CQ A.quiet) h ho
 exact yJ (n:=n+1) (fun m hm=>by obtain ⟨k,rfl⟩:∃k,m=k+1:=⟨m - 1,by omega⟩;simp only [fO,hi,hf];exact hn k (by omega))
theorem vM {A:sD} {f:Nat} {h:List AV→St→Option AV} (hi:A.intr f=some h) {as cs args:List AV} {s:St} {cx:Ctx} {r:AV} (hr:h (as++args++cs) s=some r):
  aj A (.fn (.func f) as cs) args s cx=.ret r s:=
 yJ (n:=1) (fun m hm=>by obtain ⟨k,rfl⟩:∃k,m=k+1:=⟨m - 1,by omega⟩;simp only [fO,hi,hr])
theorem TW {A:sD} {l:Nat} {args:List AV} {s:St} {cx:Ctx} {o:CO} (ho:o≠.fail) (h:J6 A.glob (aj A) l args s cx=o):aj A (.yl l) args s cx=o:=by
 obtain ⟨n,hn⟩:=Xv (CQ A) h ho
 exact yJ (n:=n+1) (fun m hm=>by obtain ⟨k,rfl⟩:∃k,m=k+1:=⟨m - 1,by omega⟩;simp only [fO];exact hn k (by omega))
theorem YA {A:sD} {fv:AV} {args:List AV} {s s':St} {cx:Ctx} {r:AV} (h:aj A fv args s cx=.ret r s'):∃n,fO A n fv args s cx=.ret r s':=by
 obtain ⟨n,hn⟩:=Fh h (by simp)
 exact ⟨n,hn n (Nat.le_refl _)⟩
end Go.Ai
namespace Go.Ai
section
variable {glob:Nat→Option (List AV)} {call callW:AV→List AV→St→Ctx→CO} {cx:Ctx}
def EZ (call callW:AV→List AV→St→Ctx→CO):Prop:=∀fv args s cx c,call fv args s cx=c→c≠.fail→callW fv args s cx=c
theorem ZH (hc:EZ call callW) {ops:List aH} {ord:Option (List Nat×List Nat)} {env:Env} {s:St} {o:Out} (h:pX glob call cx ops env s ord=o) (ho:o≠.fail):
  pX glob callW cx ops env s ord=o:=by
 have:Lim call (fun _=>callW):=fun fv args s cx c h hne=>⟨0,fun _ _=>hc fv args s cx c h hne⟩
 obtain ⟨n,hn⟩:=Md this h ho
 exact hn n (Nat.le_refl _)
theorem YV {body wz:Env→St→Out} {keep:List Nat} (hb:∀env s o,body env s=o→o≠.fail→wz env s=o):
  ∀(N:Nat) {env:Env} {s:St} {o:Out},uU body keep N env s=o→o≠.fail→bg wz keep env s=o
 | 0,env,s,o,h,ho=>absurd h.symm ho
 | N+1,env,s,o,h,ho=>by
  simp only [uU] at h
  rw [A8]
  cases hx:body (eU env keep) s with
  | fail=>rw [hx] at h;exact absurd h.symm ho
  | norm env' s'=>
   rw [hx] at h
   rw [hb _ _ _ hx (by simp)]
   exact YV hb N h ho
  | _=>rw [hb _ _ _ hx (by simp)];rw [hx] at h;exact h
theorem Vs {body wz:Env→St→Out} {l:Nat} {keep:List Nat} (hb:∀env s o,body env s=o→o≠.fail→wz env s=o):
  ∀(N:Nat) {env:Env} {s:St} {o:Out},oL body l keep N env s=o→o≠.fail→zk wz l keep env s=o
 | 0,env,s,o,h,ho=>absurd h.symm ho
 | N+1,env,s,o,h,ho=>by
  simp only [oL] at h
  rw [Az]
  cases hx:body (eU env keep) s with
  | fail=>rw [hx] at h;exact absurd h.symm ho
  | goto l' env' s'=>
   rw [hx] at h
   rw [hb _ _ _ hx (by simp)]
   simp only [Out.jmp] at h ⊢
   split at h
   ·rename_i hl;simp only [hl,if_true];exact Vs hb N h ho
   ·exact absurd h.symm ho
  | _=>rw [hb _ _ _ hx (by simp)];rw [hx] at h;exact h
theorem nT (hc:EZ call callW) (ro:Bool) (N:Nat):∀(c:aG) (env:Env) (s:St) (o:Out),bC glob call cx ro N c env s=o→o≠.fail→au glob callW cx ro c env s=o
 | .skip,env,s,o,h,ho=>by simpa [bC,au] using h
 | .ret,env,s,o,h,ho=>by simpa [bC,au] using h
 | .exit id,env,s,o,h,ho=>by simpa [bC,au] using h
 | .region ops ord keep,env,s,o,h,ho=>by
  simp only [bC,au] at h ⊢
  cases hx:pX glob call cx ops env s ord with
  | fail=>rw [hx] at h;exact absurd h.symm ho
  | _=>rw [ZH hc hx (by simp)];rw [hx] at h;exact h
 | .seq a b,env,s,o,h,ho=>by
  simp only [bC,au] at h ⊢
  cases hx:bC glob call cx ro N a env s with
  | fail=>rw [hx] at h;exact absurd h.symm ho
  | norm env' s'=>
   rw [hx] at h
   rw [nT hc ro N a _ _ _ hx (by simp)]
   exact nT hc ro N b _ _ _ h ho
  | _=>rw [nT hc ro N a _ _ _ hx (by simp)];rw [hx] at h;exact h
 | .cond c a b,env,s,o,h,ho=>by
  simp only [bC,au] at h ⊢
  unfold ael
  split at h
  ·rename_i hx;rw [hx];simpa using nT hc ro N a _ _ _ h ho
  ·rename_i hx;rw [hx];simpa using nT hc ro N b _ _ _ h ho
  ·exact absurd h.symm ho
 | .block id b,env,s,o,h,ho=>by
  simp only [bC,au] at h ⊢
  cases hx:bC glob call cx ro N b env s with
  | fail=>rw [hx] at h;exact absurd h.symm ho
  | _=>rw [nT hc ro N b _ _ _ hx (by simp)];rw [hx] at h;exact h
 | .loop keep b,env,s,o,h,ho=>by
  simp only [bC,au] at h ⊢
  exact YV (nT hc ro N b) N h ho
 | .range f ps asg body,env,s,o,h,ho=>by
  simp only [bC,au] at h ⊢
  split at h
  ·exact absurd h.symm ho
  ·rename_i hro
   simp only [hro]
   unfold Ku
   split at h
   ·rename_i ff as cs hx
    rw [hx]
    cases hy:call (.fn ff as cs) [.yl (s.length+1)] (s++[.dfr,.loop (rD env) ps asg body .ready]) cx with
    | fail=>rw [hy] at h;exact absurd h.symm ho
    | _=>
     have:=hc _ _ _ _ _ hy (by simp)
     rw [hy] at h
     simpa [this] using h
   ·exact absurd h.symm ho
 | .label l,env,s,o,h,ho=>by simpa [bC,au] using h
 | .goto l,env,s,o,h,ho=>by simpa [bC,au] using h
 | .scope l keep a b,env,s,o,h,ho=>by
  simp only [bC,au] at h ⊢
  cases hx:bC glob call cx ro N a env s with
  | fail=>rw [hx] at h;exact absurd h.symm ho
  | goto l' env' s'=>
   rw [hx] at h
   rw [nT hc ro N a _ _ _ hx (by simp)]
   simp only [Out.jmp] at h ⊢
   split at h
   ·rename_i hl;simp only [hl,if_true];exact Vs (nT hc ro N b) N h ho
   ·exact absurd h.symm ho
  | _=>rw [nT hc ro N a _ _ _ hx (by simp)];rw [hx] at h;exact h
theorem aa2 (hc:EZ call callW) {N:Nat} {fn:aV} {args:List AV} {s:St} {o:CO} (h:uN glob call N fn args s cx=o) (ho:o≠.fail):af glob callW fn args s cx=o:=by
 unfold uN at h
 unfold af
 split at h
 ·rename_i hnp
  simp only [hnp,if_true]
  cases hx:bC glob call ⟨if fn.pure then s.length else cx.lim,if fn.keep then cx.base else s.length⟩ fn.keep N fn.code (DJ args 0) s with
  | fail=>rw [hx] at h;exact absurd h.symm ho
  | _=>rw [nT hc _ N _ _ _ _ hx (by simp)];rw [hx] at h;exact h
 ·exact absurd h.symm ho
theorem abk (hc:EZ call callW) {N l:Nat} {args:List AV} {s:St} {o:CO} (h:y8 glob call N l args s cx=o) (ho:o≠.fail):J6 glob callW l args s cx=o:=by
 unfold y8 at h
 unfold J6
 split at h
 ·rename_i env ps asg body hl
  rw [hl]
  simp only []
  split at h
  ·rename_i hcond
   simp only [hcond,and_self,if_true]
   cases hx:bC glob call cx true N asg (DR env ps args) s with
   | norm env1 s1=>
    rw [nT hc true N _ _ _ _ hx (by simp)]
    rw [hx] at h
    unfold wz
    simp only [] at h ⊢
    split at h
    ·rename_i e1 p1 a1 b1 hl1
     rw [hl1]
     simp only []
     cases hy:bC glob call cx true N body env1 (s1.set l (.loop e1 p1 a1 b1 .busy)) with
     | fail=>rw [hy] at h;exact absurd h.symm ho
     | _=>rw [nT hc true N _ _ _ _ hy (by simp)];rw [hy] at h;exact h
    ·exact absurd h.symm ho
   | _=>rw [hx] at h;exact absurd h.symm ho
  ·exact absurd h.symm ho
 ·exact absurd h.symm ho
end
theorem aa1 {call callW qcall qcallW:AV→List AV→St→Ctx→CO} {cx:Ctx} (hc:EZ call callW) (hq:EZ qcall qcallW) {k:HiK} {args:List AV} {s:St} {o:CO} (h:iY call qcall k args s cx=o) (ho:o≠.fail):
  iY callW qcallW k args s cx=o:=by
 have h1:Lim call (fun _=>callW):=fun fv args s cx c h hne=>⟨0,fun _ _=>hc fv args s cx c h hne⟩
 have h2:Lim qcall (fun _=>qcallW):=fun fv args s cx c h hne=>⟨0,fun _ _=>hq fv args s cx c h hne⟩
 obtain ⟨n,hn⟩:=Nk h1 h2 h ho
 exact hn n (Nat.le_refl _)
theorem LQ:∀(n:Nat) (A:sD),EZ (fO A n) (aj A)
 | 0,A=>fun fv args s cx c h hne=>by simp only [fO] at h;exact absurd h.symm hne
 | n+1,A=>fun fv args s cx c h hne=>by
  have ih:=LQ n A
  cases fv with
  | fn f as cs=>
   cases f with
   | func fid=>
    simp only [fO] at h
    split at h
    ·rename_i hh hin
     split at h
     ·rename_i r hr;rw [←h];exact vM hin hr
     ·exact absurd h.symm hne
    ·rename_i hin
     split at h
     ·rename_i k hk;exact Bv hin hk hne (aa1 ih (LQ n A.quiet) h hne)
     ·rename_i hk
      split at h
      ·rename_i fn hfn;exact LU hin hk hfn hne (aa2 ih h hne)
      ·exact absurd h.symm hne
   | _=>simp only [fO] at h;exact absurd h.symm hne
  | yl l=>simp only [fO] at h;exact TW hne (abk ih h hne)
  | _=>simp only [fO] at h;exact absurd h.symm hne
theorem xP (A:sD) (n:Nat):EZ (fO A n) (aj A):=LQ n A
end Go.Ai
