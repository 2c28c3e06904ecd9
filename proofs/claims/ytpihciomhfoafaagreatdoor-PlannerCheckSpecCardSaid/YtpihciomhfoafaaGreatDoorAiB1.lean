/-
 The interpreter in the limit: no fuel.
-/
import Derived.Test.YtpihciomhfoafaaGreatDoorAiA1
set_option maxRecDepth 100000
set_option linter.unusedSimpArgs false
set_option linter.unusedVariables false
set_option linter.unusedSectionVars false
namespace Go.Ai
noncomputable def Nl {α:Type} (d:α) (h:Nat→α):α:=
 open Classical in if H:∃c,c≠d∧∃n,∀m,n≤m→h m=c then H.choose else d
theorem vC {α:Type} {d:α} {h:Nat→α} {c:α} {n:Nat} (hc:∀m,n≤m→h m=c):Nl d h=c:=by
 unfold Nl
 split
 ·rename_i H
  obtain ⟨_,n',hn'⟩:=H.choose_spec
  rw [←hn' (max n n') (Nat.le_max_right _ _),hc _ (Nat.le_max_left _ _)]
 ·rename_i H
  by_cases hd:c=d
  ·exact hd.symm
  ·exact absurd ⟨c,hd,n,hc⟩ H
theorem F7 {α:Type} {d:α} {h:Nat→α} {c:α} (hl:Nl d h=c) (hd:c≠d):∃n,∀m,n≤m→h m=c:=by
 unfold Nl at hl
 split at hl
 ·rename_i H
  obtain ⟨_,n',hn'⟩:=H.choose_spec
  exact ⟨n',fun m hm=>(hn' m hm).trans hl⟩
 ·exact absurd hl.symm hd
theorem OX {α:Type} {d:α} {h g:Nat→α} (hs:∀n,h (n+1)=g n):Nl d h=Nl d g:=by
 by_cases hg:Nl d g=d
 ·rw [hg]
  by_cases hh:Nl d h=d
  ·exact hh
  ·obtain ⟨n,hn⟩:=F7 rfl hh
   have:=vC (d:=d) (h:=g) (c:=Nl d h) (n:=n) (fun m hm=>by rw [←hs];exact hn _ (by omega))
   rw [←this,hg]
 ·obtain ⟨n,hn⟩:=F7 rfl hg
  exact vC (n:=n+1) (fun m hm=>by obtain ⟨k,rfl⟩:∃k,m=k+1:=⟨m - 1,by omega⟩;rw [hs];exact hn k (by omega))
def Out.thn (o:Out) (f:Env→St→Out):Out:=
 match o with
 | .norm env s=>f env s
 | o=>o
def Out.blk (id:Nat) (o:Out):Out:=
 match o with
 | .exit id' env s=>if id'=id then .norm env s else .exit id' env s
 | o=>o
def XD (x:Option AV) (a b:Unit→Out):Out:=
 match x with
 | some (.b x)=>if x=true then a () else b ()
 | _=>.fail
noncomputable def zC (body:Env→St→Out) (keep:List Nat) (env:Env) (s:St):Out:=Nl .fail (fun N=>qR body keep N env s)
theorem OU (body:Env→St→Out) (keep:List Nat) (env:Env) (s:St):zC body keep env s=(body (ig env keep) s).thn (zC body keep):=by
 unfold zC
 cases hb:body (ig env keep) s with
 | norm env' s'=>exact OX (fun n=>by simp [qR,hb])
 | _=>exact vC (n:=1) (fun m hm=>by obtain ⟨k,rfl⟩:∃k,m=k+1:=⟨m - 1,by omega⟩;simp [qR,hb,Out.thn])
noncomputable def J9 (body:Env→St→Out) (l:Nat) (keep:List Nat) (env:Env) (s:St):Out:=Nl .fail (fun N=>jQ body l keep N env s)
def Out.jmp (l:Nat) (o:Out) (f:Env→St→Out):Out:=
 match o with
 | .goto l' env s=>if l'=l then f env s else .fail
 | o=>o
theorem U8 (body:Env→St→Out) (l:Nat) (keep:List Nat) (env:Env) (s:St):J9 body l keep env s=(body (ig env keep) s).jmp l (J9 body l keep):=by
 unfold J9
 cases hb:body (ig env keep) s with
 | goto l' env' s'=>
  by_cases hl:l'=l
  ·simp only [Out.jmp,hl,if_true]
   exact OX (fun n=>by simp [jQ,hb,hl])
  ·exact vC (n:=1) (fun m hm=>by obtain ⟨k,rfl⟩:∃k,m=k+1:=⟨m - 1,by omega⟩;simp [jQ,hb,Out.jmp,hl])
 | _=>exact vC (n:=1) (fun m hm=>by obtain ⟨k,rfl⟩:∃k,m=k+1:=⟨m - 1,by omega⟩;simp [jQ,hb,Out.jmp])
section
variable (glob:Nat→Option (List AV))
def Rk (x:Option AV) (call:AV→List AV→St→Ctx→CO) (cx:Ctx) (ps:List Nat) (asg body:ah) (env:Env) (s:St):Out:=
 match x with
 | some (.fn ff as cs)=>match call (.fn ff as cs) [.yl (s.length+1)] (s++[.dfr,.loop (mX env) ps asg body .ready]) cx with
  | .ret _ s'=>Oh env s' (s.length+1)
  | _=>.fail
 | _=>.fail
noncomputable def aA (call:AV→List AV→St→Ctx→CO) (cx:Ctx) (ro:Bool):ah→Env→St→Out
 | .skip,env,s=>.norm env s
 | .ret,env,s=>.ret env s
 | .exit id,env,s=>.exit id env s
 | .region ops ord keep,env,s=>(kP glob call cx ops env s ord).thn fun env s=>.norm (ig env keep) s
 | .seq a b,env,s=>(aA call cx ro a env s).thn (aA call cx ro b)
 | .cond c a b,env,s=>XD (rd glob env c) (fun _=>aA call cx ro a env s) (fun _=>aA call cx ro b env s)
 | .block id b,env,s=>(aA call cx ro b env s).blk id
 | .loop keep b,env,s=>zC (aA call cx ro b) keep env s
 | .range f ps asg body,env,s=>if ro=true then .fail else Rk (rd glob env f) call cx ps asg body env s
 | .label _,env,s=>.norm env s
 | .cut,_,_=>.fail
 | .goto l,env,s=>.goto l env s
 | .scope l keep a b,env,s=>(aA call cx ro a env s).jmp l (J9 (aA call cx ro b) l keep)
def endW (pure keep:Bool) (s:St) (res:List RV) (o:Out):CO:=
 match o with
 | .norm env s1 | .ret env s1=>match iM glob env s1 res with
  | some rs=>finish pure keep s s1 (lQ rs)
  | none=>.fail
 | .pan v s1=>(finish pure keep s s1 v).toPan
 | _=>.fail
noncomputable def gK (call:AV→List AV→St→Ctx→CO) (fn:aC) (args:List AV) (s:St) (cx:Ctx):CO:=
 if args.length=fn.np then
  endW glob fn.pure fn.keep s fn.res (aA glob call ⟨if fn.pure=true then s.length else cx.lim,if fn.keep=true then cx.base else s.length⟩ fn.keep fn.code (sH args 0) s)
 else .fail
noncomputable def XY (callW:AV→List AV→St→Ctx→CO) (cx:Ctx) (m:Option ah) (env:Env) (s:St):Out:=
 match m with
 | none=>.norm env s
 | some c=>aA glob callW cx true c env s
noncomputable def FP (callW:AV→List AV→St→Ctx→CO) (d:Ny) (args:List AV) (s:St) (cx:Ctx):CO:=
 if args.length=d.np then
  match gq glob callW ⟨cx.lim,s.length⟩ d.pre (sH args 0) s with
  | .norm envm sm=>match XY glob callW ⟨cx.lim,s.length⟩ d.mid envm sm with
   | .ret env2 s2=>(match iM glob env2 s2 d.res with
    | some rs=>finish false false s s2 (lQ rs)
    | none=>.fail)
   | .norm sH s0=>(match bD glob callW ⟨cx.lim,s.length⟩ d.mkc sH s0 with
    | .norm env1 s1=>match lk env1 d.ct,d.pins.mapM (placeOf env1) with
     | some (.v (.fn (.func f) [] caps)),some ls=>
      if f=d.clo∧JX caps ls=true then
       match aA glob callW ⟨cx.lim,s.length⟩ true d.code env1 s1 with
       | .norm env2 s2 | .ret env2 s2=>match iM glob env2 s2 d.res with
        | some rs=>finish false false s s2 (lQ rs)
        | none=>.fail
       | .pan v s2=>match d.hnd v with
        | some news=>if rH s.length s2 ls news=true then
          (match iM glob (CJ d.pins ls) (jh s2 ls news) d.res with
          | some rs=>finish false false s (jh s2 ls news) (lQ rs)
          | none=>.fail) else .fail
        | none=>.fail
       | _=>.fail
      else .fail
     | _,_=>.fail
    | _=>.fail)
   | _=>.fail
  | _=>.fail
 else .fail
def JQ (l:Nat) (o:Out):CO:=
 match o with
 | .norm _ s2=>oU s2 l .ready true
 | .ret _ s2=>oU s2 l .ret false
 | .exit id _ s2=>oU s2 l (.exit id) false
 | _=>.fail
noncomputable def uq (call:AV→List AV→St→Ctx→CO) (cx:Ctx) (body:ah) (l:Nat) (o:Out):CO:=
 match o with
 | .norm env1 s1=>match s1[l]? with
  | some (.loop e1 p1 a1 b1 .ready)=>JQ l (aA glob call cx true body env1 (s1.set l (.loop e1 p1 a1 b1 .busy)))
  | _=>.fail
 | _=>.fail
noncomputable def NP (call:AV→List AV→St→Ctx→CO) (l:Nat) (args:List AV) (s:St) (cx:Ctx):CO:=
 match s[l]? with
 | some (.loop env ps asg body .ready)=>
  if ps.length=args.length∧cx.lim≤l then
   uq glob call cx body l (aA glob call cx true asg (GN env ps args) s)
  else .fail
 | _=>.fail
end
section
variable {glob:Nat→Option (List AV)} {callW:AV→List AV→St→Ctx→CO} {call:Nat→AV→List AV→St→Ctx→CO} {cx:Ctx}
def Lim (callW:AV→List AV→St→Ctx→CO) (call:Nat→AV→List AV→St→Ctx→CO):Prop:=
 ∀fv args s cx c,callW fv args s cx=c→c≠.fail→∃n,∀m,n≤m→call m fv args s cx=c
theorem PN (hc:Lim callW call) {env:Env} {s:St} {op:AOp} {o:RO} (h:aop glob callW cx env s op=o) (ho:o≠.fail):
  ∃n,∀m,n≤m→aop glob (call m) cx env s op=o:=by
 by_cases hch:∃d f as k,op=.callh d f as k
 ·obtain ⟨d,f,as,k,rfl⟩:=hch
  simp only [aop] at h ⊢
  split at h
  ·exact absurd h.symm ho
  ·split at h
   ·rename_i fv as' h1 h2
    cases hx:callW fv as' s cx with
    | fail=>rw [hx] at h;exact absurd h.symm ho
    | ret r s'=>
     obtain ⟨n,hn⟩:=hc _ _ _ _ _ hx (by simp)
     exact ⟨n,fun m hm=>by rw [hn m hm];rw [hx] at h;exact h⟩
    | pan r s'=>
     obtain ⟨n,hn⟩:=hc _ _ _ _ _ hx (by simp)
     exact ⟨n,fun m hm=>by rw [hn m hm];rw [hx] at h;exact h⟩
   ·exact absurd h.symm ho
 by_cases hcall:∃f as,op=.call f as∨op=.callp f as
 ·obtain ⟨f,as,hop⟩:=hcall
  have hcp:∀c:AV→List AV→St→Ctx→CO,aop glob c cx env s op=aop glob c cx env s (.call f as):=by rcases hop with rfl|rfl<;>exact fun _=>rfl
  simp only [hcp] at h ⊢
  clear hop hcp
  simp only [aop] at h ⊢
  split at h
  ·rename_i fv as' env' h1 h2
   cases hx:callW fv as' s cx with
   | fail=>rw [hx] at h;exact absurd h.symm ho
   | ret r s'=>
    obtain ⟨n,hn⟩:=hc _ _ _ _ _ hx (by simp)
    exact ⟨n,fun m hm=>by rw [hn m hm];rw [hx] at h;exact h⟩
   | pan r s'=>
    obtain ⟨n,hn⟩:=hc _ _ _ _ _ hx (by simp)
    exact ⟨n,fun m hm=>by rw [hn m hm];rw [hx] at h;exact h⟩
  ·exact absurd h.symm ho
 ·refine ⟨0,fun m _=>?_⟩
  rw [←h]
  cases op with
  | call f as=>exact absurd ⟨_,_,.inl rfl⟩ hcall
  | callp f as=>exact absurd ⟨_,_,.inr rfl⟩ hcall
  | callh d f as k=>exact absurd ⟨_,_,_,_,rfl⟩ hch
  | len k x=>rcases k with _ | _ | _|k<;>rfl
  | _=>rfl
theorem uG (hc:Lim callW call) {env:Env} {s:St} {p:ak} {o:Out} (h:bD glob callW cx p env s=o) (ho:o≠.fail):
  ∃n,∀m,n≤m→bD glob (call m) cx p env s=o:=by
 unfold bD at h ⊢
 split at h
 ·exact absurd h.symm ho
 ·exact ⟨0,fun m _=>h⟩
 ·cases hx:aop glob callW cx env s p.op with
  | fail=>rw [hx] at h;exact absurd h.symm ho
  | ok e env' s'=>
   obtain ⟨n,hn⟩:=PN hc hx (by simp)
   exact ⟨n,fun m hm=>by rw [hn m hm];rw [hx] at h;exact h⟩
  | pan v s'=>
   obtain ⟨n,hn⟩:=PN hc hx (by simp)
   exact ⟨n,fun m hm=>by rw [hn m hm];rw [hx] at h;exact h⟩
theorem zu (hc:Lim callW call):∀(ops:List ak) {env:Env} {s:St} {o:Out},gq glob callW cx ops env s=o→o≠.fail→
  ∃n,∀m,n≤m→gq glob (call m) cx ops env s=o
 | [],env,s,o,h,ho=>⟨0,fun m _=>h⟩
 | p::r,env,s,o,h,ho=>by
  simp only [gq] at h ⊢
  cases hx:bD glob callW cx p env s with
  | fail=>rw [hx] at h;exact absurd h.symm ho
  | norm env' s'=>
   rw [hx] at h
   obtain ⟨n,hn⟩:=uG hc hx (by simp)
   obtain ⟨n',hn'⟩:=zu hc r h ho
   exact ⟨max n n',fun m hm=>by rw [hn m (by omega)];exact hn' m (by omega)⟩
  | _=>
   obtain ⟨n,hn⟩:=uG hc hx (by simp)
   exact ⟨n,fun m hm=>by rw [hn m hm];rw [hx] at h;exact h⟩
theorem Ve (hc:Lim callW call) {env:Env} {s:St} {p:ak} {e:EV} (h:o7 glob callW p env s=some e):
  ∃n,∀m,n≤m→o7 glob (call m) p env s=some e:=by
 unfold o7 at h ⊢
 split at h
 ·cases h
 ·exact ⟨0,fun m _=>h⟩
 ·split at h
  ·rename_i hq
   simp only [hq,if_true]
   cases hx:aop glob callW ⟨s.length,s.length⟩ env s p.op with
   | fail=>rw [hx] at h;cases h
   | ok e env' s'=>
    obtain ⟨n,hn⟩:=PN hc hx (by simp)
    exact ⟨n,fun m hm=>by rw [hn m hm];rw [hx] at h;exact h⟩
   | pan v s'=>rw [hx] at h;cases h
  ·cases h
theorem Qr (hc:Lim callW call) {env:Env} {s:St} {p:ak} {o:Out} (h:bV glob callW cx p env s=o) (ho:o≠.fail):
  ∃n,∀m,n≤m→bV glob (call m) cx p env s=o:=by
 unfold bV at h ⊢
 split at h
 ·rename_i hq
  simp only [hq,if_true]
  unfold xE at h ⊢
  cases hx:o7 glob callW p env s with
  | none=>rw [hx] at h;exact absurd h.symm ho
  | some e=>
   obtain ⟨n,hn⟩:=Ve hc hx
   exact ⟨n,fun m hm=>by rw [hn m hm];rw [hx] at h;exact h⟩
 ·rename_i hq
  simp only [hq]
  exact uG hc h ho
theorem xG (hc:Lim callW call) (aops:List ak):∀(l:List Nat) {env:Env} {s:St} {o:Out},dX glob callW cx aops l env s=o→o≠.fail→
  ∃n,∀m,n≤m→dX glob (call m) cx aops l env s=o
 | [],env,s,o,h,ho=>⟨0,fun m _=>h⟩
 | i::r,env,s,o,h,ho=>by
  simp only [dX] at h ⊢
  split at h
  ·exact absurd h.symm ho
  ·rename_i p hp
   cases hx:bV glob callW cx p env s with
   | fail=>rw [hx] at h;exact absurd h.symm ho
   | norm env' s'=>
    rw [hx] at h
    obtain ⟨n,hn⟩:=Qr hc hx (by simp)
    obtain ⟨n',hn'⟩:=xG hc aops r h ho
    exact ⟨max n n',fun m hm=>by rw [hn m (by omega)];exact hn' m (by omega)⟩
   | _=>
    obtain ⟨n,hn⟩:=Qr hc hx (by simp)
    exact ⟨n,fun m hm=>by rw [hn m hm];rw [hx] at h;exact h⟩
theorem SG (hc:Lim callW call) {ops:List ak} {π:List Nat} {env:Env} {s:St} {o:Out} (h:yj glob callW cx ops π env s=o) (ho:o≠.fail):
  ∃n,∀m,n≤m→yj glob (call m) cx ops π env s=o:=by
 unfold yj at h ⊢
 split at h
 ·exact absurd h.symm ho
 ·rename_i c oc hpc
  split at h
  ·rename_i hall
   cases hx:dX glob callW cx ops (HY ops c oc false π) env s with
   | norm env1 s1=>
    rw [hx] at h
    simp only [] at h
    cases hy:bD glob callW cx oc env1 s1 with
    | pan v s2=>
     rw [hy] at h
     obtain ⟨n,hn⟩:=xG hc ops _ hx (by simp)
     obtain ⟨n',hn'⟩:=uG hc hy (by simp)
     refine ⟨max n n',fun m hm=>?_⟩
     rw [hn m (by omega)]
     simp only []
     rw [if_pos hall,hn' m (by omega)]
     exact h
    | _=>rw [hy] at h;exact absurd h.symm ho
   | _=>rw [hx] at h;exact absurd h.symm ho
  ·exact absurd h.symm ho
theorem LC (hc:Lim callW call) {ops:List ak} {ord:Option (List Nat×List Nat)} {env:Env} {s:St} {o:Out} (h:kP glob callW cx ops env s ord=o) (ho:o≠.fail):
  ∃n,∀m,n≤m→kP glob (call m) cx ops env s ord=o:=by
 cases ord with
 | none=>exact zu hc ops h ho
 | some p=>
  simp only [kP] at h ⊢
  cases hx:dX glob callW cx ops p.1 (AX env p.2) s with
  | fail=>rw [hx] at h;exact absurd h.symm ho
  | pan v s1=>
   rw [hx] at h
   obtain ⟨n,hn⟩:=xG hc ops p.1 hx (by simp)
   obtain ⟨n',hn'⟩:=SG hc (h:yj glob callW cx ops p.1 (AX env p.2) s=o) ho
   exact ⟨max n n',fun m hm=>by rw [hn m (by omega)];exact hn' m (by omega)⟩
  | _=>
   obtain ⟨n,hn⟩:=xG hc ops p.1 hx (by simp)
   exact ⟨n,fun m hm=>by rw [hn m hm];rw [hx] at h;exact h⟩
theorem Qy {uq:Env→St→Out} {body:Nat→Env→St→Out} {keep:List Nat} (hb:∀env s o,uq env s=o→o≠.fail→∃n,∀m,n≤m→body m env s=o):
  ∀(N0:Nat) {env:Env} {s:St} {o:Out},qR uq keep N0 env s=o→o≠.fail→∃n,∀m,n≤m→∀N,N0≤N→qR (body m) keep N env s=o
 | 0,env,s,o,h,ho=>absurd h.symm ho
 | N0+1,env,s,o,h,ho=>by
  simp only [qR] at h
  cases hx:uq (ig env keep) s with
  | fail=>rw [hx] at h;exact absurd h.symm ho
  | norm env' s'=>
   rw [hx] at h
   obtain ⟨n,hn⟩:=hb _ _ _ hx (by simp)
   obtain ⟨n',hn'⟩:=Qy hb N0 h ho
   refine ⟨max n n',fun m hm N hN=>?_⟩
   obtain ⟨k,rfl⟩:∃k,N=k+1:=⟨N - 1,by omega⟩
   simp only [qR]
   rw [hn m (by omega)];exact hn' m (by omega) k (by omega)
  | _=>
   obtain ⟨n,hn⟩:=hb _ _ _ hx (by simp)
   refine ⟨n,fun m hm N hN=>?_⟩
   obtain ⟨k,rfl⟩:∃k,N=k+1:=⟨N - 1,by omega⟩
   simp only [qR]
   rw [hn m hm];rw [hx] at h;exact h
theorem NW {uq:Env→St→Out} {body:Nat→Env→St→Out} {l:Nat} {keep:List Nat} (hb:∀env s o,uq env s=o→o≠.fail→∃n,∀m,n≤m→body m env s=o):
  ∀(N0:Nat) {env:Env} {s:St} {o:Out},jQ uq l keep N0 env s=o→o≠.fail→∃n,∀m,n≤m→∀N,N0≤N→jQ (body m) l keep N env s=o
 | 0,env,s,o,h,ho=>absurd h.symm ho
 | N0+1,env,s,o,h,ho=>by
  simp only [jQ] at h
  cases hx:uq (ig env keep) s with
  | fail=>rw [hx] at h;exact absurd h.symm ho
  | goto l' env' s'=>
   rw [hx] at h
   simp only [] at h
   split at h
   ·rename_i hl
    obtain ⟨n,hn⟩:=hb _ _ _ hx (by simp)
    obtain ⟨n',hn'⟩:=NW hb N0 h ho
    refine ⟨max n n',fun m hm N hN=>?_⟩
    obtain ⟨k,rfl⟩:∃k,N=k+1:=⟨N - 1,by omega⟩
    simp only [jQ]
    rw [hn m (by omega)]
    simp only [hl,if_true]
    exact hn' m (by omega) k (by omega)
   ·exact absurd h.symm ho
  | _=>
   obtain ⟨n,hn⟩:=hb _ _ _ hx (by simp)
   refine ⟨n,fun m hm N hN=>?_⟩
   obtain ⟨k,rfl⟩:∃k,N=k+1:=⟨N - 1,by omega⟩
   simp only [jQ]
   rw [hn m hm];rw [hx] at h;exact h
theorem eU (hc:Lim callW call) (ro:Bool):∀(c:ah) (env:Env) (s:St) (o:Out),aA glob callW cx ro c env s=o→o≠.fail→
  ∃n,∀m,n≤m→aI glob (call m) cx ro m c env s=o
 | .skip,env,s,o,h,ho=>⟨0,fun m _=>by simpa [aI,aA] using h⟩
 | .ret,env,s,o,h,ho=>⟨0,fun m _=>by simpa [aI,aA] using h⟩
 | .exit id,env,s,o,h,ho=>⟨0,fun m _=>by simpa [aI,aA] using h⟩
 | .region ops ord keep,env,s,o,h,ho=>by
  simp only [aI,aA] at h ⊢
  cases hx:kP glob callW cx ops env s ord with
  | fail=>rw [hx] at h;exact absurd h.symm ho
  | _=>
   obtain ⟨n,hn⟩:=LC hc hx (by simp)
   exact ⟨n,fun m hm=>by rw [hn m hm];rw [hx] at h;exact h⟩
 | .seq a b,env,s,o,h,ho=>by
  simp only [aI,aA] at h ⊢
  cases hx:aA glob callW cx ro a env s with
  | fail=>rw [hx] at h;exact absurd h.symm ho
  | norm env' s'=>
   rw [hx] at h
   obtain ⟨n,hn⟩:=eU hc ro a _ _ _ hx (by simp)
   obtain ⟨n',hn'⟩:=eU hc ro b _ _ _ h ho
   exact ⟨max n n',fun m hm=>by rw [hn m (by omega)];exact hn' m (by omega)⟩
  | _=>
   obtain ⟨n,hn⟩:=eU hc ro a _ _ _ hx (by simp)
   exact ⟨n,fun m hm=>by rw [hn m hm];rw [hx] at h;exact h⟩
 | .cond c a b,env,s,o,h,ho=>by
  simp only [aI,aA] at h ⊢
  unfold XD at h
  split at h
  ·rename_i x hx
   rw [hx]
   cases x with
   | true=>exact eU hc ro a _ _ _ (by simpa using h) ho
   | false=>exact eU hc ro b _ _ _ (by simpa using h) ho
  ·exact absurd h.symm ho
 | .block id b,env,s,o,h,ho=>by
  simp only [aI,aA] at h ⊢
  cases hx:aA glob callW cx ro b env s with
  | fail=>rw [hx] at h;exact absurd h.symm ho
  | _=>
   obtain ⟨n,hn⟩:=eU hc ro b _ _ _ hx (by simp)
   exact ⟨n,fun m hm=>by rw [hn m hm];rw [hx] at h;exact h⟩
 | .loop keep b,env,s,o,h,ho=>by
  simp only [aI,aA] at h ⊢
  obtain ⟨N0,hN⟩:=F7 h ho
  obtain ⟨n,hn⟩:=Qy (body:=fun m=>aI glob (call m) cx ro m b) (eU hc ro b) N0 (hN N0 (Nat.le_refl _)) ho
  exact ⟨max n N0,fun m hm=>hn m (by omega) m (by omega)⟩
 | .range f ps asg body,env,s,o,h,ho=>by
  simp only [aI,aA] at h ⊢
  split at h
  ·exact absurd h.symm ho
  ·rename_i hro
   simp only [hro]
   unfold Rk at h
   split at h
   ·rename_i ff as cs hx
    rw [hx]
    simp only []
    cases hy:callW (.fn ff as cs) [.yl (s.length+1)] (s++[.dfr,.loop (mX env) ps asg body .ready]) cx with
    | fail=>rw [hy] at h;exact absurd h.symm ho
    | _=>
     obtain ⟨n,hn⟩:=hc _ _ _ _ _ hy (by simp)
     exact ⟨n,fun m hm=>by rw [hn m hm];rw [hy] at h;exact h⟩
   ·exact absurd h.symm ho
 | .cut,env,s,o,h,ho=>absurd (by simpa [aA] using h.symm) ho
 | .label l,env,s,o,h,ho=>⟨0,fun m _=>by simpa [aI,aA] using h⟩
 | .goto l,env,s,o,h,ho=>⟨0,fun m _=>by simpa [aI,aA] using h⟩
 | .scope l keep a b,env,s,o,h,ho=>by
  simp only [aI,aA] at h ⊢
  cases hx:aA glob callW cx ro a env s with
  | fail=>rw [hx] at h;exact absurd h.symm ho
  | goto l' env' s'=>
   rw [hx] at h
   simp only [Out.jmp] at h
   split at h
   ·rename_i hl
    obtain ⟨n,hn⟩:=eU hc ro a _ _ _ hx (by simp)
    obtain ⟨N0,hN⟩:=F7 h ho
    obtain ⟨n',hn'⟩:=NW (body:=fun m=>aI glob (call m) cx ro m b) (eU hc ro b) N0 (hN N0 (Nat.le_refl _)) ho
    exact ⟨max n (max n' N0),fun m hm=>by rw [hn m (by omega)];simp only [hl,if_true];exact hn' m (by omega) m (by omega)⟩
   ·exact absurd h.symm ho
  | _=>
   obtain ⟨n,hn⟩:=eU hc ro a _ _ _ hx (by simp)
   exact ⟨n,fun m hm=>by rw [hn m hm];rw [hx] at h;exact h⟩
theorem TF (hc:Lim callW call) {fn:aC} {args:List AV} {s:St} {o:CO} (h:gK glob callW fn args s cx=o) (ho:o≠.fail):
  ∃n,∀m,n≤m→qC glob (call m) m fn args s cx=o:=by
 unfold gK at h
 unfold qC
 split at h
 ·rename_i hnp
  simp only [hnp,if_true]
  cases hx:aA glob callW ⟨if fn.pure=true then s.length else cx.lim,if fn.keep=true then cx.base else s.length⟩ fn.keep fn.code (sH args 0) s with
  | fail=>rw [hx] at h;exact absurd h.symm ho
  | _=>
   obtain ⟨n,hn⟩:=eU hc _ _ _ _ _ hx (by simp)
   exact ⟨n,fun m hm=>by rw [hn m hm];rw [hx] at h;exact h⟩
 ·exact absurd h.symm ho
theorem SK (hc:Lim callW call) {m:Option ah} {env:Env} {s:St} {o:Out} (h:XY glob callW cx m env s=o) (ho:o≠.fail):
  ∃n,∀k,n≤k→Ag glob (call k) cx k m env s=o:=by
 cases m with
 | none=>exact ⟨0,fun _ _=>h⟩
 | some c=>exact eU hc _ _ _ _ _ h ho
theorem RI (hc:Lim callW call) {d:Ny} {args:List AV} {s:St} {o:CO} (h:FP glob callW d args s cx=o) (ho:o≠.fail):
  ∃n,∀m,n≤m→mD glob (call m) m d args s cx=o:=by
 unfold FP at h
 unfold mD
 split at h
 ·rename_i hnp
  simp only [hnp,if_true]
  cases hxm:gq glob callW ⟨cx.lim,s.length⟩ d.pre (sH args 0) s with
  | norm em sm=>
   obtain ⟨nm,hnm⟩:=zu hc _ hxm (by simp)
   rw [hxm] at h
   simp only [] at h
   cases hx:XY glob callW ⟨cx.lim,s.length⟩ d.mid em sm with
   | ret e2 s2=>
    obtain ⟨n0,hn0⟩:=SK hc hx (by simp)
    rw [hx] at h
    refine ⟨max nm n0,fun m hm=>?_⟩
    rw [hnm m (by omega)]
    simp only []
    rw [hn0 m (by omega)]
    exact h
   | norm e0 s0=>
    obtain ⟨n0,hn0⟩:=SK hc hx (by simp)
    rw [hx] at h
    simp only [] at h
    cases hy:bD glob callW ⟨cx.lim,s.length⟩ d.mkc e0 s0 with
    | norm e1 s1=>
     obtain ⟨n1,hn1⟩:=uG hc hy (by simp)
     rw [hy] at h
     simp only [] at h
     split at h
     ·rename_i f caps ls hl hp
      split at h
      ·rename_i hcond
       cases hz:aA glob callW ⟨cx.lim,s.length⟩ true d.code e1 s1 with
       | fail=>rw [hz] at h;exact absurd h.symm ho
       | _=>
        obtain ⟨n,hn⟩:=eU hc _ _ _ _ _ hz (by simp)
        refine ⟨max nm (max n (max n0 n1)),fun m hm=>?_⟩
        rw [hnm m (by omega)]
        simp only []
        rw [hn0 m (by omega)]
        simp only []
        rw [hn1 m (by omega)]
        simp only [hl,hp]
        rw [if_pos hcond,hn m (by omega)]
        rw [hz] at h;exact h
      ·exact absurd h.symm ho
     ·exact absurd h.symm ho
    | _=>rw [hy] at h;exact absurd h.symm ho
   | _=>rw [hx] at h;exact absurd h.symm ho
  | _=>rw [hxm] at h;exact absurd h.symm ho
 ·exact absurd h.symm ho
theorem TP (hc:Lim callW call) {l:Nat} {args:List AV} {s:St} {o:CO} (h:NP glob callW l args s cx=o) (ho:o≠.fail):
  ∃n,∀m,n≤m→yh glob (call m) m l args s cx=o:=by
 unfold NP at h
 unfold yh
 split at h
 ·rename_i env ps asg body hl
  rw [hl]
  simp only []
  split at h
  ·rename_i hcond
   simp only [hcond,and_self,if_true]
   cases hx:aA glob callW cx true asg (GN env ps args) s with
   | norm env1 s1=>
    obtain ⟨n,hn⟩:=eU hc true _ _ _ _ hx (by simp)
    rw [hx] at h
    unfold uq at h
    simp only [] at h
    split at h
    ·rename_i e1 p1 a1 b1 hl1
     cases hy:aA glob callW cx true body env1 (s1.set l (.loop e1 p1 a1 b1 .busy)) with
     | fail=>rw [hy] at h;exact absurd h.symm ho
     | _=>
      obtain ⟨n',hn'⟩:=eU hc true _ _ _ _ hy (by simp)
      exact ⟨max n n',fun m hm=>by rw [hn m (by omega)];simp only [hl1];rw [hn' m (by omega)];rw [hy] at h;exact h⟩
    ·exact absurd h.symm ho
   | _=>rw [hx] at h;exact absurd h.symm ho
  ·exact absurd h.symm ho
 ·exact absurd h.symm ho
end
theorem OT {α β:Type} {f:α→Option β} {g:Nat→α→Option β}:∀(l:List α) {r:List β},(∀x∈l,∀y,f x=some y→∃n,∀m,n≤m→g m x=some y)→l.mapM f=some r→∃n,∀m,n≤m→l.mapM (g m)=some r
 | [],r,_,h=>⟨0,fun m _=>by simpa using h⟩
 | x::l,r,hf,h=>by
  simp only [List.mapM_cons,Option.bind_eq_bind,Option.pure_def] at h ⊢
  cases hx:f x with
  | none=>simp [hx] at h
  | some y=>
   cases hl:l.mapM f with
   | none=>simp [hx,hl] at h
   | some ys=>
    simp [hx,hl] at h
    subst h
    obtain ⟨n,hn⟩:=hf x (by simp) y hx
    obtain ⟨n',hn'⟩:=OT l (fun z hz=>hf z (by simp [hz])) hl
    exact ⟨max n n',fun m hm=>by rw [hn m (by omega),hn' m (by omega)];rfl⟩
theorem V5 {callW:AV→List AV→St→Ctx→CO} {call:Nat→AV→List AV→St→Ctx→CO} (hc:Lim callW call) {g:Nat} {x y:AV} {r:Int} (h:V6 callW g x y=some r):
  ∃n,∀m,n≤m→V6 (call m) g x y=some r:=by
 unfold V6 at h ⊢
 cases hx:callW (.fn (.func g) [] []) [x,y] [] ⟨0,0⟩ with
 | fail=>rw [hx] at h;cases h
 | pan v s=>rw [hx] at h;cases h
 | ret v s=>
  obtain ⟨n,hn⟩:=hc _ _ _ _ _ hx (by simp)
  exact ⟨n,fun m hm=>by rw [hn m hm];rw [hx] at h;exact h⟩
theorem TA {callW:AV→List AV→St→Ctx→CO} {call:Nat→AV→List AV→St→Ctx→CO} (hc:Lim callW call) {g:Nat} {es:List AV} {tab:List (List Int)} (h:RG callW g es=some tab):
  ∃n,∀m,n≤m→RG (call m) g es=some tab:=
 OT (g:=fun m x=>es.mapM fun y=>V6 (call m) g x y) es (fun _ _ _ hx=>OT (g:=fun m y=>V6 (call m) g _ y) es (fun _ _ _ hy=>V5 hc hy) hx) h
theorem MG {callW qcallW:AV→List AV→St→Ctx→CO} {call qcall:Nat→AV→List AV→St→Ctx→CO} {cx:Ctx} (hc:Lim callW call) (hq:Lim qcallW qcall) {k:HiK} {args:List AV} {s:St} {o:CO}
  (h:iP callW qcallW k args s cx=o) (ho:o≠.fail):∃n,∀m,n≤m→iP (call m) (qcall m) k args s cx=o:=by
 unfold iP at h
 split at h
 ·rename_i r f as cs
  cases hx:callW (.fn (.func f) as cs) [] s cx with
  | ret r1 s1=>
   obtain ⟨n,hn⟩:=hc _ _ _ _ _ hx (by simp)
   exact ⟨n,fun m hm=>by simp only [iP,hn m hm];rw [hx] at h;exact h⟩
  | pan r1 s1=>
   obtain ⟨n,hn⟩:=hc _ _ _ _ _ hx (by simp)
   exact ⟨n,fun m hm=>by simp only [iP,hn m hm];rw [hx] at h;exact h⟩
  | fail=>rw [hx] at h;exact absurd h.symm ho
 ·exact ⟨0,fun m _=>by simpa [iP] using h⟩
 ·exact ⟨0,fun m _=>by simpa [iP] using h⟩
 ·rename_i k0 l ver sz o m g
  split at h
  ·exact ⟨0,fun m _=>by simpa [iP] using h⟩
  ·rename_i n t sz' ver' cs hl
   split at h
   ·rename_i hcond
    cases hx:RG qcallW g (chunk sz (n+1) (cs.drop o)) with
    | none=>rw [hx] at h;exact absurd h.symm ho
    | some tab=>
     obtain ⟨n1,hn⟩:=TA hq hx
     exact ⟨n1,fun m hm=>by simp only [iP,hl];rw [if_pos hcond,hn m hm];rw [hx] at h;exact h⟩
   ·exact absurd h.symm ho
  ·exact absurd h.symm ho
 ·exact ⟨0,fun m _=>by simpa [iP] using h⟩
 ·exact ⟨0,fun m _=>by simp only [iP];exact h⟩
 ·rename_i f t z e es
  cases hx:callW (.fn (.func f) [] []) [.pt s.length 0] (s++[.cells [.sl (e::es)]]) cx with
  | ret r1 s1=>
   obtain ⟨n,hn⟩:=hc _ _ _ _ _ hx (by simp)
   exact ⟨n,fun m hm=>by simp only [iP,hn m hm];rw [hx] at h;exact h⟩
  | pan r1 s1=>
   obtain ⟨n,hn⟩:=hc _ _ _ _ _ hx (by simp)
   exact ⟨n,fun m hm=>by simp only [iP,hn m hm];rw [hx] at h;exact h⟩
  | fail=>rw [hx] at h;exact absurd h.symm ho
 ·exact absurd h.symm ho
noncomputable def eX (A:nX) (fv:AV) (args:List AV) (s:St) (cx:Ctx):CO:=Nl .fail fun n=>bM A n fv args s cx
theorem yS (A:nX):Lim (eX A) (bM A):=fun fv args s cx c h hc=>F7 h hc
theorem QV {A:nX} {f:Nat} {fn:aC} (hi:A.intr f=none) (hh:A.hi f=none) (hd:A.dfr f=none) (hf:A.fns f=some fn) {as cs args:List AV} {s:St} {cx:Ctx} {o:CO} (ho:o≠.fail)
  (h:gK A.glob (eX A) fn (as++args++cs) s cx=o):eX A (.fn (.func f) as cs) args s cx=o:=by
 obtain ⟨n,hn⟩:=TF (yS A) h ho
 exact vC (n:=n+1) (fun m hm=>by obtain ⟨k,rfl⟩:∃k,m=k+1:=⟨m - 1,by omega⟩;simp only [bM,hi,hh,hd,hf];exact hn k (by omega))
theorem UK {A:nX} {f:Nat} {d:Ny} (hi:A.intr f=none) (hh:A.hi f=none) (hf:A.dfr f=some d) {as cs args:List AV} {s:St} {cx:Ctx} {o:CO} (ho:o≠.fail)
  (h:FP A.glob (eX A) d (as++args++cs) s cx=o):eX A (.fn (.func f) as cs) args s cx=o:=by
 obtain ⟨n,hn⟩:=RI (yS A) h ho
 exact vC (n:=n+1) (fun m hm=>by obtain ⟨k,rfl⟩:∃k,m=k+1:=⟨m - 1,by omega⟩;simp only [bM,hi,hh,hf];exact hn k (by omega))
theorem Wj {A:nX} {f:Nat} {k:HiK} (hi:A.intr f=none) (hf:A.hi f=some k) {as cs args:List AV} {s:St} {cx:Ctx} {o:CO} (ho:o≠.fail)
  (h:iP (eX A) (eX A.quiet) k (as++args++cs) s cx=o):eX A (.fn (.func f) as cs) args s cx=o:=by
 obtain ⟨n,hn⟩:=MG (yS A) (yS A.quiet) h ho
 exact vC (n:=n+1) (fun m hm=>by obtain ⟨k,rfl⟩:∃k,m=k+1:=⟨m - 1,by omega⟩;simp only [bM,hi,hf];exact hn k (by omega))
theorem RQ {A:nX} {f:Nat} {h:List AV→St→Option AV} (hi:A.intr f=some h) {as cs args:List AV} {s:St} {cx:Ctx} {r:AV} (hr:h (as++args++cs) s=some r):
  eX A (.fn (.func f) as cs) args s cx=.ret r s:=
 vC (n:=1) (fun m hm=>by obtain ⟨k,rfl⟩:∃k,m=k+1:=⟨m - 1,by omega⟩;simp only [bM,hi,hr])
theorem Wi {A:nX} {l:Nat} {args:List AV} {s:St} {cx:Ctx} {o:CO} (ho:o≠.fail) (h:NP A.glob (eX A) l args s cx=o):eX A (.yl l) args s cx=o:=by
 obtain ⟨n,hn⟩:=TP (yS A) h ho
 exact vC (n:=n+1) (fun m hm=>by obtain ⟨k,rfl⟩:∃k,m=k+1:=⟨m - 1,by omega⟩;simp only [bM];exact hn k (by omega))
theorem UJ {A:nX} {fv:AV} {args:List AV} {s s':St} {cx:Ctx} {r:AV} (h:eX A fv args s cx=.ret r s'):∃n,bM A n fv args s cx=.ret r s':=by
 obtain ⟨n,hn⟩:=F7 h (by simp)
 exact ⟨n,hn n (Nat.le_refl _)⟩
end Go.Ai
namespace Go.Ai
section
variable {glob:Nat→Option (List AV)} {call callW:AV→List AV→St→Ctx→CO} {cx:Ctx}
def AU (call callW:AV→List AV→St→Ctx→CO):Prop:=∀fv args s cx c,call fv args s cx=c→c≠.fail→callW fv args s cx=c
theorem U9 (hc:AU call callW) {ops:List ak} {ord:Option (List Nat×List Nat)} {env:Env} {s:St} {o:Out} (h:kP glob call cx ops env s ord=o) (ho:o≠.fail):
  kP glob callW cx ops env s ord=o:=by
 have:Lim call (fun _=>callW):=fun fv args s cx c h hne=>⟨0,fun _ _=>hc fv args s cx c h hne⟩
 obtain ⟨n,hn⟩:=LC this h ho
 exact hn n (Nat.le_refl _)
theorem UX {body uq:Env→St→Out} {keep:List Nat} (hb:∀env s o,body env s=o→o≠.fail→uq env s=o):
  ∀(N:Nat) {env:Env} {s:St} {o:Out},qR body keep N env s=o→o≠.fail→zC uq keep env s=o
 | 0,env,s,o,h,ho=>absurd h.symm ho
 | N+1,env,s,o,h,ho=>by
  simp only [qR] at h
  rw [OU]
  cases hx:body (ig env keep) s with
  | fail=>rw [hx] at h;exact absurd h.symm ho
  | norm env' s'=>
   rw [hx] at h
   rw [hb _ _ _ hx (by simp)]
   exact UX hb N h ho
  | _=>rw [hb _ _ _ hx (by simp)];rw [hx] at h;exact h
theorem Sl {body uq:Env→St→Out} {l:Nat} {keep:List Nat} (hb:∀env s o,body env s=o→o≠.fail→uq env s=o):
  ∀(N:Nat) {env:Env} {s:St} {o:Out},jQ body l keep N env s=o→o≠.fail→J9 uq l keep env s=o
 | 0,env,s,o,h,ho=>absurd h.symm ho
 | N+1,env,s,o,h,ho=>by
  simp only [jQ] at h
  rw [U8]
  cases hx:body (ig env keep) s with
  | fail=>rw [hx] at h;exact absurd h.symm ho
  | goto l' env' s'=>
   rw [hx] at h
   rw [hb _ _ _ hx (by simp)]
   simp only [Out.jmp] at h ⊢
   split at h
   ·rename_i hl;simp only [hl,if_true];exact Sl hb N h ho
   ·exact absurd h.symm ho
  | _=>rw [hb _ _ _ hx (by simp)];rw [hx] at h;exact h
theorem iQ (hc:AU call callW) (ro:Bool) (N:Nat):∀(c:ah) (env:Env) (s:St) (o:Out),aI glob call cx ro N c env s=o→o≠.fail→aA glob callW cx ro c env s=o
 | .skip,env,s,o,h,ho=>by simpa [aI,aA] using h
 | .ret,env,s,o,h,ho=>by simpa [aI,aA] using h
 | .exit id,env,s,o,h,ho=>by simpa [aI,aA] using h
 | .region ops ord keep,env,s,o,h,ho=>by
  simp only [aI,aA] at h ⊢
  cases hx:kP glob call cx ops env s ord with
  | fail=>rw [hx] at h;exact absurd h.symm ho
  | _=>rw [U9 hc hx (by simp)];rw [hx] at h;exact h
 | .seq a b,env,s,o,h,ho=>by
  simp only [aI,aA] at h ⊢
  cases hx:aI glob call cx ro N a env s with
  | fail=>rw [hx] at h;exact absurd h.symm ho
  | norm env' s'=>
   rw [hx] at h
   rw [iQ hc ro N a _ _ _ hx (by simp)]
   exact iQ hc ro N b _ _ _ h ho
  | _=>rw [iQ hc ro N a _ _ _ hx (by simp)];rw [hx] at h;exact h
 | .cond c a b,env,s,o,h,ho=>by
  simp only [aI,aA] at h ⊢
  unfold XD
  split at h
  ·rename_i hx;rw [hx];simpa using iQ hc ro N a _ _ _ h ho
  ·rename_i hx;rw [hx];simpa using iQ hc ro N b _ _ _ h ho
  ·exact absurd h.symm ho
 | .block id b,env,s,o,h,ho=>by
  simp only [aI,aA] at h ⊢
  cases hx:aI glob call cx ro N b env s with
  | fail=>rw [hx] at h;exact absurd h.symm ho
  | _=>rw [iQ hc ro N b _ _ _ hx (by simp)];rw [hx] at h;exact h
 | .loop keep b,env,s,o,h,ho=>by
  simp only [aI,aA] at h ⊢
  exact UX (iQ hc ro N b) N h ho
 | .range f ps asg body,env,s,o,h,ho=>by
  simp only [aI,aA] at h ⊢
  split at h
  ·exact absurd h.symm ho
  ·rename_i hro
   simp only [hro]
   unfold Rk
   split at h
   ·rename_i ff as cs hx
    rw [hx]
    cases hy:call (.fn ff as cs) [.yl (s.length+1)] (s++[.dfr,.loop (mX env) ps asg body .ready]) cx with
    | fail=>rw [hy] at h;exact absurd h.symm ho
    | _=>
     have:=hc _ _ _ _ _ hy (by simp)
     rw [hy] at h
     simpa [this] using h
   ·exact absurd h.symm ho
 | .cut,env,s,o,h,ho=>absurd (by simpa [aI] using h.symm) ho
 | .label l,env,s,o,h,ho=>by simpa [aI,aA] using h
 | .goto l,env,s,o,h,ho=>by simpa [aI,aA] using h
 | .scope l keep a b,env,s,o,h,ho=>by
  simp only [aI,aA] at h ⊢
  cases hx:aI glob call cx ro N a env s with
  | fail=>rw [hx] at h;exact absurd h.symm ho
  | goto l' env' s'=>
   rw [hx] at h
   rw [iQ hc ro N a _ _ _ hx (by simp)]
   simp only [Out.jmp] at h ⊢
   split at h
   ·rename_i hl;simp only [hl,if_true];exact Sl (iQ hc ro N b) N h ho
   ·exact absurd h.symm ho
  | _=>rw [iQ hc ro N a _ _ _ hx (by simp)];rw [hx] at h;exact h
theorem V9 (hc:AU call callW) {N:Nat} {fn:aC} {args:List AV} {s:St} {o:CO} (h:qC glob call N fn args s cx=o) (ho:o≠.fail):gK glob callW fn args s cx=o:=by
 unfold qC at h
 unfold gK
 split at h
 ·rename_i hnp
  simp only [hnp,if_true]
  cases hx:aI glob call ⟨if fn.pure then s.length else cx.lim,if fn.keep then cx.base else s.length⟩ fn.keep N fn.code (sH args 0) s with
  | fail=>rw [hx] at h;exact absurd h.symm ho
  | _=>rw [iQ hc _ N _ _ _ _ hx (by simp)];rw [hx] at h;exact h
 ·exact absurd h.symm ho
theorem WX (hc:AU call callW) {N:Nat} {m:Option ah} {env:Env} {s:St} {o:Out} (h:Ag glob call cx N m env s=o) (ho:o≠.fail):XY glob callW cx m env s=o:=by
 cases m with
 | none=>exact h
 | some c=>exact iQ hc _ N _ _ _ _ h ho
theorem UI (hc:AU call callW) {N:Nat} {d:Ny} {args:List AV} {s:St} {o:CO} (h:mD glob call N d args s cx=o) (ho:o≠.fail):FP glob callW d args s cx=o:=by
 have h1:Lim call (fun _=>callW):=fun fv args s cx c h hne=>⟨0,fun _ _=>hc fv args s cx c h hne⟩
 unfold mD at h
 unfold FP
 split at h
 ·rename_i hnp
  simp only [hnp,if_true]
  cases hxm:gq glob call ⟨cx.lim,s.length⟩ d.pre (sH args 0) s with
  | norm em sm=>
   obtain ⟨nm,hnm⟩:=zu h1 _ hxm (by simp)
   rw [hxm] at h
   rw [hnm nm (Nat.le_refl _)]
   simp only [] at h ⊢
   cases hx:Ag glob call ⟨cx.lim,s.length⟩ N d.mid em sm with
   | ret e2 s2=>rw [WX hc hx (by simp)];rw [hx] at h;exact h
   | norm e0 s0=>
    rw [WX hc hx (by simp)]
    rw [hx] at h
    simp only [] at h ⊢
    cases hy:bD glob call ⟨cx.lim,s.length⟩ d.mkc e0 s0 with
    | norm e1 s1=>
     obtain ⟨n1,hn1⟩:=uG h1 hy (by simp)
     rw [hy] at h
     rw [hn1 n1 (Nat.le_refl _)]
     simp only [] at h ⊢
     split at h
     ·rename_i f caps ls hl hp
      simp only [hl,hp]
      split at h
      ·rename_i hcond
       rw [if_pos hcond]
       cases hz:aI glob call ⟨cx.lim,s.length⟩ true N d.code e1 s1 with
       | fail=>rw [hz] at h;exact absurd h.symm ho
       | _=>rw [iQ hc _ N _ _ _ _ hz (by simp)];rw [hz] at h;exact h
      ·exact absurd h.symm ho
     ·exact absurd h.symm ho
    | _=>rw [hy] at h;exact absurd h.symm ho
   | _=>rw [hx] at h;exact absurd h.symm ho
  | _=>rw [hxm] at h;exact absurd h.symm ho
 ·exact absurd h.symm ho
theorem Wl (hc:AU call callW) {N l:Nat} {args:List AV} {s:St} {o:CO} (h:yh glob call N l args s cx=o) (ho:o≠.fail):NP glob callW l args s cx=o:=by
 unfold yh at h
 unfold NP
 split at h
 ·rename_i env ps asg body hl
  rw [hl]
  simp only []
  split at h
  ·rename_i hcond
   simp only [hcond,and_self,if_true]
   cases hx:aI glob call cx true N asg (GN env ps args) s with
   | norm env1 s1=>
    rw [iQ hc true N _ _ _ _ hx (by simp)]
    rw [hx] at h
    unfold uq
    simp only [] at h ⊢
    split at h
    ·rename_i e1 p1 a1 b1 hl1
     rw [hl1]
     simp only []
     cases hy:aI glob call cx true N body env1 (s1.set l (.loop e1 p1 a1 b1 .busy)) with
     | fail=>rw [hy] at h;exact absurd h.symm ho
     | _=>rw [iQ hc true N _ _ _ _ hy (by simp)];rw [hy] at h;exact h
    ·exact absurd h.symm ho
   | _=>rw [hx] at h;exact absurd h.symm ho
  ·exact absurd h.symm ho
 ·exact absurd h.symm ho
end
theorem V8 {call callW qcall qcallW:AV→List AV→St→Ctx→CO} {cx:Ctx} (hc:AU call callW) (hq:AU qcall qcallW) {k:HiK} {args:List AV} {s:St} {o:CO} (h:iP call qcall k args s cx=o) (ho:o≠.fail):
  iP callW qcallW k args s cx=o:=by
 have h1:Lim call (fun _=>callW):=fun fv args s cx c h hne=>⟨0,fun _ _=>hc fv args s cx c h hne⟩
 have h2:Lim qcall (fun _=>qcallW):=fun fv args s cx c h hne=>⟨0,fun _ _=>hq fv args s cx c h hne⟩
 obtain ⟨n,hn⟩:=MG h1 h2 h ho
 exact hn n (Nat.le_refl _)
theorem Ll:∀(n:Nat) (A:nX),AU (bM A n) (eX A)
 | 0,A=>fun fv args s cx c h hne=>by simp only [bM] at h;exact absurd h.symm hne
 | n+1,A=>fun fv args s cx c h hne=>by
  have ih:=Ll n A
  cases fv with
  | fn f as cs=>
   cases f with
   | func fid=>
    simp only [bM] at h
    split at h
    ·rename_i hh hin
     split at h
     ·rename_i r hr;rw [←h];exact RQ hin hr
     ·exact absurd h.symm hne
    ·rename_i hin
     split at h
     ·rename_i k hk;exact Wj hin hk hne (V8 ih (Ll n A.quiet) h hne)
     ·rename_i hk
      split at h
      ·rename_i d hd;exact UK hin hk hd hne (UI ih h hne)
      ·rename_i hd
       split at h
       ·rename_i fn hfn;exact QV hin hk hd hfn hne (V9 ih h hne)
       ·exact absurd h.symm hne
   | _=>simp only [bM] at h;exact absurd h.symm hne
  | yl l=>simp only [bM] at h;exact Wi hne (Wl ih h hne)
  | _=>simp only [bM] at h;exact absurd h.symm hne
theorem kC (A:nX) (n:Nat):AU (bM A n) (eX A):=Ll n A
end Go.Ai
