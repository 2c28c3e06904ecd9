/-
 The interpreter in the limit: no fuel.
-/
import Derived.Test.YtalbhlfigmlddaaGreatDoorAiA1
set_option maxRecDepth 100000
set_option linter.unusedSimpArgs false
set_option linter.unusedVariables false
set_option linter.unusedSectionVars false
namespace Go.Ai
noncomputable def F8 {α:Type} (d:α) (h:Nat→α):α:=
 open Classical in if H:∃c,c≠d∧∃n,∀m,n≤m→h m=c then H.choose else d
theorem qO {α:Type} {d:α} {h:Nat→α} {c:α} {n:Nat} (hc:∀m,n≤m→h m=c):F8 d h=c:=by
 unfold F8
 split
 ·rename_i H
  obtain ⟨_,n',hn'⟩:=H.choose_spec
  rw [←hn' (max n n') (Nat.le_max_right _ _),hc _ (Nat.le_max_left _ _)]
 ·rename_i H
  by_cases hd:c=d
  ·exact hd.symm
  ·exact absurd ⟨c,hd,n,hc⟩ H
theorem zl {α:Type} {d:α} {h:Nat→α} {c:α} (hl:F8 d h=c) (hd:c≠d):∃n,∀m,n≤m→h m=c:=by
 unfold F8 at hl
 split at hl
 ·rename_i H
  obtain ⟨_,n',hn'⟩:=H.choose_spec
  exact ⟨n',fun m hm=>(hn' m hm).trans hl⟩
 ·exact absurd hl.symm hd
theorem Il {α:Type} {d:α} {h g:Nat→α} (hs:∀n,h (n+1)=g n):F8 d h=F8 d g:=by
 by_cases hg:F8 d g=d
 ·rw [hg]
  by_cases hh:F8 d h=d
  ·exact hh
  ·obtain ⟨n,hn⟩:=zl rfl hh
   have:=qO (d:=d) (h:=g) (c:=F8 d h) (n:=n) (fun m hm=>by rw [←hs];exact hn _ (by omega))
   rw [←this,hg]
 ·obtain ⟨n,hn⟩:=zl rfl hg
  exact qO (n:=n+1) (fun m hm=>by obtain ⟨k,rfl⟩:∃k,m=k+1:=⟨m - 1,by omega⟩;rw [hs];exact hn k (by omega))
def Out.thn (o:Out) (f:Env→St→Out):Out:=
 match o with
 | .norm env s=>f env s
 | o=>o
def Out.blk (id:Nat) (o:Out):Out:=
 match o with
 | .exit id' env s=>if id'=id then .norm env s else .exit id' env s
 | o=>o
def UK (x:Option AV) (a b:Unit→Out):Out:=
 match x with
 | some (.b x)=>if x=true then a () else b ()
 | _=>.fail
noncomputable def rQ (body:Env→St→Out) (keep:List Nat) (env:Env) (s:St):Out:=F8 .fail (fun N=>mO body keep N env s)
theorem MQ (body:Env→St→Out) (keep:List Nat) (env:Env) (s:St):rQ body keep env s=(body (gV env keep) s).thn (rQ body keep):=by
 unfold rQ
 cases hb:body (gV env keep) s with
 | norm env' s'=>exact Il (fun n=>by simp [mO,hb])
 | _=>exact qO (n:=1) (fun m hm=>by obtain ⟨k,rfl⟩:∃k,m=k+1:=⟨m - 1,by omega⟩;simp [mO,hb,Out.thn])
noncomputable def DV (body:Env→St→Out) (l:Nat) (keep:List Nat) (env:Env) (s:St):Out:=F8 .fail (fun N=>jo body l keep N env s)
def Out.jmp (l:Nat) (o:Out) (f:Env→St→Out):Out:=
 match o with
 | .goto l' env s=>if l'=l then f env s else .fail
 | o=>o
theorem PD (body:Env→St→Out) (l:Nat) (keep:List Nat) (env:Env) (s:St):DV body l keep env s=(body (gV env keep) s).jmp l (DV body l keep):=by
 unfold DV
 cases hb:body (gV env keep) s with
 | goto l' env' s'=>
  by_cases hl:l'=l
  ·simp only [Out.jmp,hl,if_true]
   exact Il (fun n=>by simp [jo,hb,hl])
  ·exact qO (n:=1) (fun m hm=>by obtain ⟨k,rfl⟩:∃k,m=k+1:=⟨m - 1,by omega⟩;simp [jo,hb,Out.jmp,hl])
 | _=>exact qO (n:=1) (fun m hm=>by obtain ⟨k,rfl⟩:∃k,m=k+1:=⟨m - 1,by omega⟩;simp [jo,hb,Out.jmp])
section
variable (glob:Nat→Option (List AV))
def KP (x:Option AV) (call:AV→List AV→St→Ctx→CO) (cx:Ctx) (ps:List Nat) (asg body:aG) (env:Env) (s:St):Out:=
 match x with
 | some (.fn ff as cs)=>match call (.fn ff as cs) [.yl (s.length+1)] (s++[.dfr,.loop (kH env) ps asg body .ready]) cx with
  | .ret _ s'=>Hg env s' (s.length+1)
  | _=>.fail
 | _=>.fail
noncomputable def aA (call:AV→List AV→St→Ctx→CO) (cx:Ctx) (ro:Bool):aG→Env→St→Out
 | .skip,env,s=>.norm env s
 | .ret,env,s=>.ret env s
 | .exit id,env,s=>.exit id env s
 | .region ops ord keep,env,s=>(jI glob call cx ops env s ord).thn fun env s=>.norm (gV env keep) s
 | .seq a b,env,s=>(aA call cx ro a env s).thn (aA call cx ro b)
 | .cond c a b,env,s=>UK (rd glob env c) (fun _=>aA call cx ro a env s) (fun _=>aA call cx ro b env s)
 | .block id b,env,s=>(aA call cx ro b env s).blk id
 | .loop keep b,env,s=>rQ (aA call cx ro b) keep env s
 | .range f ps asg body,env,s=>if ro=true then .fail else KP (rd glob env f) call cx ps asg body env s
 | .label _,env,s=>.norm env s
 | .goto l,env,s=>.goto l env s
 | .scope l keep a b,env,s=>(aA call cx ro a env s).jmp l (DV (aA call cx ro b) l keep)
def endW (pure keep:Bool) (s:St) (res:List RV) (o:Out):CO:=
 match o with
 | .norm env s1 | .ret env s1=>match lJ glob env s1 res with
  | some rs=>finish pure keep s s1 (xW rs)
  | none=>.fail
 | .pan v s1=>(finish pure keep s s1 v).toPan
 | _=>.fail
noncomputable def au (call:AV→List AV→St→Ctx→CO) (fn:aO) (args:List AV) (s:St) (cx:Ctx):CO:=
 if args.length=fn.np then
  endW glob fn.pure fn.keep s fn.res (aA glob call ⟨if fn.pure=true then s.length else cx.lim,if fn.keep=true then cx.base else s.length⟩ fn.keep fn.code (xU args 0) s)
 else .fail
def Dw (l:Nat) (o:Out):CO:=
 match o with
 | .norm _ s2=>lH s2 l .ready true
 | .ret _ s2=>lH s2 l .ret false
 | .exit id _ s2=>lH s2 l (.exit id) false
 | _=>.fail
noncomputable def nY (call:AV→List AV→St→Ctx→CO) (cx:Ctx) (body:aG) (l:Nat) (o:Out):CO:=
 match o with
 | .norm env1 s1=>match s1[l]? with
  | some (.loop e1 p1 a1 b1 .ready)=>Dw l (aA glob call cx true body env1 (s1.set l (.loop e1 p1 a1 b1 .busy)))
  | _=>.fail
 | _=>.fail
noncomputable def Gw (call:AV→List AV→St→Ctx→CO) (l:Nat) (args:List AV) (s:St) (cx:Ctx):CO:=
 match s[l]? with
 | some (.loop env ps asg body .ready)=>
  if ps.length=args.length∧cx.lim≤l then
   nY glob call cx body l (aA glob call cx true asg (Aa env ps args) s)
  else .fail
 | _=>.fail
end
section
variable {glob:Nat→Option (List AV)} {callW:AV→List AV→St→Ctx→CO} {call:Nat→AV→List AV→St→Ctx→CO} {cx:Ctx}
def Lim (callW:AV→List AV→St→Ctx→CO) (call:Nat→AV→List AV→St→Ctx→CO):Prop:=
 ∀fv args s cx c,callW fv args s cx=c→c≠.fail→∃n,∀m,n≤m→call m fv args s cx=c
theorem Jg (hc:Lim callW call) {env:Env} {s:St} {op:AOp} {o:RO} (h:aop glob callW cx env s op=o) (ho:o≠.fail):
  ∃n,∀m,n≤m→aop glob (call m) cx env s op=o:=by
 by_cases hch:∃d f as,op=.callh d f as
 ·obtain ⟨d,f,as,rfl⟩:=hch
  simp only [aop] at h ⊢
  split at h
  ·exact absurd h.symm ho
  ·split at h
   ·rename_i fv as' h1 h2
    cases hx:callW fv as' s cx with
    | fail=>rw [hx] at h;exact absurd h.symm ho
    | ret r s'=>
     obtain ⟨n,hn⟩:=hc _ _ _ _ _ hx (by simp)
     exact ⟨n,fun m hm=>by rw [hn m hm];rw [hx] at h;exact h⟩
    | pan r s'=>
     obtain ⟨n,hn⟩:=hc _ _ _ _ _ hx (by simp)
     exact ⟨n,fun m hm=>by rw [hn m hm];rw [hx] at h;exact h⟩
   ·exact absurd h.symm ho
 by_cases hcall:∃f as,op=.call f as∨op=.callp f as
 ·obtain ⟨f,as,hop⟩:=hcall
  have hcp:∀c:AV→List AV→St→Ctx→CO,aop glob c cx env s op=aop glob c cx env s (.call f as):=by rcases hop with rfl|rfl<;>exact fun _=>rfl
  simp only [hcp] at h ⊢
  clear hop hcp
  simp only [aop] at h ⊢
  split at h
  ·rename_i fv as' env' h1 h2
   cases hx:callW fv as' s cx with
   | fail=>rw [hx] at h;exact absurd h.symm ho
   | ret r s'=>
    obtain ⟨n,hn⟩:=hc _ _ _ _ _ hx (by simp)
    exact ⟨n,fun m hm=>by rw [hn m hm];rw [hx] at h;exact h⟩
   | pan r s'=>
    obtain ⟨n,hn⟩:=hc _ _ _ _ _ hx (by simp)
    exact ⟨n,fun m hm=>by rw [hn m hm];rw [hx] at h;exact h⟩
  ·exact absurd h.symm ho
 ·refine ⟨0,fun m _=>?_⟩
  rw [←h]
  cases op with
  | call f as=>exact absurd ⟨_,_,.inl rfl⟩ hcall
  | callp f as=>exact absurd ⟨_,_,.inr rfl⟩ hcall
  | callh d f as=>exact absurd ⟨_,_,_,rfl⟩ hch
  | len k x=>rcases k with _ | _ | _|k<;>rfl
  | _=>rfl
theorem vU (hc:Lim callW call) {env:Env} {s:St} {p:aj} {o:Out} (h:bW glob callW cx p env s=o) (ho:o≠.fail):
  ∃n,∀m,n≤m→bW glob (call m) cx p env s=o:=by
 unfold bW at h ⊢
 split at h
 ·exact absurd h.symm ho
 ·exact ⟨0,fun m _=>h⟩
 ·cases hx:aop glob callW cx env s p.op with
  | fail=>rw [hx] at h;exact absurd h.symm ho
  | ok e env' s'=>
   obtain ⟨n,hn⟩:=Jg hc hx (by simp)
   exact ⟨n,fun m hm=>by rw [hn m hm];rw [hx] at h;exact h⟩
  | pan v s'=>
   obtain ⟨n,hn⟩:=Jg hc hx (by simp)
   exact ⟨n,fun m hm=>by rw [hn m hm];rw [hx] at h;exact h⟩
theorem EX (hc:Lim callW call):∀(ops:List aj) {env:Env} {s:St} {o:Out},jc glob callW cx ops env s=o→o≠.fail→
  ∃n,∀m,n≤m→jc glob (call m) cx ops env s=o
 | [],env,s,o,h,ho=>⟨0,fun m _=>h⟩
 | p::r,env,s,o,h,ho=>by
  simp only [jc] at h ⊢
  cases hx:bW glob callW cx p env s with
  | fail=>rw [hx] at h;exact absurd h.symm ho
  | norm env' s'=>
   rw [hx] at h
   obtain ⟨n,hn⟩:=vU hc hx (by simp)
   obtain ⟨n',hn'⟩:=EX hc r h ho
   exact ⟨max n n',fun m hm=>by rw [hn m (by omega)];exact hn' m (by omega)⟩
  | _=>
   obtain ⟨n,hn⟩:=vU hc hx (by simp)
   exact ⟨n,fun m hm=>by rw [hn m hm];rw [hx] at h;exact h⟩
theorem PO (hc:Lim callW call) {env:Env} {s:St} {p:aj} {e:EV} (h:lX glob callW p env s=some e):
  ∃n,∀m,n≤m→lX glob (call m) p env s=some e:=by
 unfold lX at h ⊢
 split at h
 ·cases h
 ·exact ⟨0,fun m _=>h⟩
 ·split at h
  ·rename_i hq
   simp only [hq,if_true]
   cases hx:aop glob callW ⟨s.length,s.length⟩ env s p.op with
   | fail=>rw [hx] at h;cases h
   | ok e env' s'=>
    obtain ⟨n,hn⟩:=Jg hc hx (by simp)
    exact ⟨n,fun m hm=>by rw [hn m hm];rw [hx] at h;exact h⟩
   | pan v s'=>rw [hx] at h;cases h
  ·cases h
theorem JU (hc:Lim callW call) {env:Env} {s:St} {p:aj} {o:Out} (h:dR glob callW cx p env s=o) (ho:o≠.fail):
  ∃n,∀m,n≤m→dR glob (call m) cx p env s=o:=by
 unfold dR at h ⊢
 split at h
 ·rename_i hq
  simp only [hq,if_true]
  unfold qK at h ⊢
  cases hx:lX glob callW p env s with
  | none=>rw [hx] at h;exact absurd h.symm ho
  | some e=>
   obtain ⟨n,hn⟩:=PO hc hx
   exact ⟨n,fun m hm=>by rw [hn m hm];rw [hx] at h;exact h⟩
 ·rename_i hq
  simp only [hq]
  exact vU hc h ho
theorem qL (hc:Lim callW call) (aops:List aj):∀(l:List Nat) {env:Env} {s:St} {o:Out},dW glob callW cx aops l env s=o→o≠.fail→
  ∃n,∀m,n≤m→dW glob (call m) cx aops l env s=o
 | [],env,s,o,h,ho=>⟨0,fun m _=>h⟩
 | i::r,env,s,o,h,ho=>by
  simp only [dW] at h ⊢
  split at h
  ·exact absurd h.symm ho
  ·rename_i p hp
   cases hx:dR glob callW cx p env s with
   | fail=>rw [hx] at h;exact absurd h.symm ho
   | norm env' s'=>
    rw [hx] at h
    obtain ⟨n,hn⟩:=JU hc hx (by simp)
    obtain ⟨n',hn'⟩:=qL hc aops r h ho
    exact ⟨max n n',fun m hm=>by rw [hn m (by omega)];exact hn' m (by omega)⟩
   | _=>
    obtain ⟨n,hn⟩:=JU hc hx (by simp)
    exact ⟨n,fun m hm=>by rw [hn m hm];rw [hx] at h;exact h⟩
theorem MJ (hc:Lim callW call) {ops:List aj} {π:List Nat} {env:Env} {s:St} {o:Out} (h:rO glob callW cx ops π env s=o) (ho:o≠.fail):
  ∃n,∀m,n≤m→rO glob (call m) cx ops π env s=o:=by
 unfold rO at h ⊢
 split at h
 ·exact absurd h.symm ho
 ·rename_i c oc hpc
  split at h
  ·rename_i hall
   cases hx:dW glob callW cx ops (qg ops c oc false π) env s with
   | norm env1 s1=>
    rw [hx] at h
    simp only [] at h
    cases hy:bW glob callW cx oc env1 s1 with
    | pan v s2=>
     rw [hy] at h
     obtain ⟨n,hn⟩:=qL hc ops _ hx (by simp)
     obtain ⟨n',hn'⟩:=vU hc hy (by simp)
     refine ⟨max n n',fun m hm=>?_⟩
     rw [hn m (by omega)]
     simp only []
     rw [if_pos hall,hn' m (by omega)]
     exact h
    | _=>rw [hy] at h;exact absurd h.symm ho
   | _=>rw [hx] at h;exact absurd h.symm ho
  ·exact absurd h.symm ho
theorem EU (hc:Lim callW call) {ops:List aj} {ord:Option (List Nat×List Nat)} {env:Env} {s:St} {o:Out} (h:jI glob callW cx ops env s ord=o) (ho:o≠.fail):
  ∃n,∀m,n≤m→jI glob (call m) cx ops env s ord=o:=by
 cases ord with
 | none=>exact EX hc ops h ho
 | some p=>
  simp only [jI] at h ⊢
  cases hx:dW glob callW cx ops p.1 (uF env p.2) s with
  | fail=>rw [hx] at h;exact absurd h.symm ho
  | pan v s1=>
   rw [hx] at h
   obtain ⟨n,hn⟩:=qL hc ops p.1 hx (by simp)
   obtain ⟨n',hn'⟩:=MJ hc (h:rO glob callW cx ops p.1 (uF env p.2) s=o) ho
   exact ⟨max n n',fun m hm=>by rw [hn m (by omega)];exact hn' m (by omega)⟩
  | _=>
   obtain ⟨n,hn⟩:=qL hc ops p.1 hx (by simp)
   exact ⟨n,fun m hm=>by rw [hn m hm];rw [hx] at h;exact h⟩
theorem J5 {nY:Env→St→Out} {body:Nat→Env→St→Out} {keep:List Nat} (hb:∀env s o,nY env s=o→o≠.fail→∃n,∀m,n≤m→body m env s=o):
  ∀(N0:Nat) {env:Env} {s:St} {o:Out},mO nY keep N0 env s=o→o≠.fail→∃n,∀m,n≤m→∀N,N0≤N→mO (body m) keep N env s=o
 | 0,env,s,o,h,ho=>absurd h.symm ho
 | N0+1,env,s,o,h,ho=>by
  simp only [mO] at h
  cases hx:nY (gV env keep) s with
  | fail=>rw [hx] at h;exact absurd h.symm ho
  | norm env' s'=>
   rw [hx] at h
   obtain ⟨n,hn⟩:=hb _ _ _ hx (by simp)
   obtain ⟨n',hn'⟩:=J5 hb N0 h ho
   refine ⟨max n n',fun m hm N hN=>?_⟩
   obtain ⟨k,rfl⟩:∃k,N=k+1:=⟨N - 1,by omega⟩
   simp only [mO]
   rw [hn m (by omega)];exact hn' m (by omega) k (by omega)
  | _=>
   obtain ⟨n,hn⟩:=hb _ _ _ hx (by simp)
   refine ⟨n,fun m hm N hN=>?_⟩
   obtain ⟨k,rfl⟩:∃k,N=k+1:=⟨N - 1,by omega⟩
   simp only [mO]
   rw [hn m hm];rw [hx] at h;exact h
theorem GK {nY:Env→St→Out} {body:Nat→Env→St→Out} {l:Nat} {keep:List Nat} (hb:∀env s o,nY env s=o→o≠.fail→∃n,∀m,n≤m→body m env s=o):
  ∀(N0:Nat) {env:Env} {s:St} {o:Out},jo nY l keep N0 env s=o→o≠.fail→∃n,∀m,n≤m→∀N,N0≤N→jo (body m) l keep N env s=o
 | 0,env,s,o,h,ho=>absurd h.symm ho
 | N0+1,env,s,o,h,ho=>by
  simp only [jo] at h
  cases hx:nY (gV env keep) s with
  | fail=>rw [hx] at h;exact absurd h.symm ho
  | goto l' env' s'=>
   rw [hx] at h
   simp only [] at h
   split at h
   ·rename_i hl
    obtain ⟨n,hn⟩:=hb _ _ _ hx (by simp)
    obtain ⟨n',hn'⟩:=GK hb N0 h ho
    refine ⟨max n n',fun m hm N hN=>?_⟩
    obtain ⟨k,rfl⟩:∃k,N=k+1:=⟨N - 1,by omega⟩
    simp only [jo]
    rw [hn m (by omega)]
    simp only [hl,if_true]
    exact hn' m (by omega) k (by omega)
   ·exact absurd h.symm ho
  | _=>
   obtain ⟨n,hn⟩:=hb _ _ _ hx (by simp)
   refine ⟨n,fun m hm N hN=>?_⟩
   obtain ⟨k,rfl⟩:∃k,N=k+1:=⟨N - 1,by omega⟩
   simp only [jo]
   rw [hn m hm];rw [hx] at h;exact h
theorem fQ (hc:Lim callW call) (ro:Bool):∀(c:aG) (env:Env) (s:St) (o:Out),aA glob callW cx ro c env s=o→o≠.fail→
  ∃n,∀m,n≤m→aU glob (call m) cx ro m c env s=o
 | .skip,env,s,o,h,ho=>⟨0,fun m _=>by simpa [aU,aA] using h⟩
 | .ret,env,s,o,h,ho=>⟨0,fun m _=>by simpa [aU,aA] using h⟩
 | .exit id,env,s,o,h,ho=>⟨0,fun m _=>by simpa [aU,aA] using h⟩
 | .region ops ord keep,env,s,o,h,ho=>by
  simp only [aU,aA] at h ⊢
  cases hx:jI glob callW cx ops env s ord with
  | fail=>rw [hx] at h;exact absurd h.symm ho
  | _=>
   obtain ⟨n,hn⟩:=EU hc hx (by simp)
   exact ⟨n,fun m hm=>by rw [hn m hm];rw [hx] at h;exact h⟩
 | .seq a b,env,s,o,h,ho=>by
  simp only [aU,aA] at h ⊢
  cases hx:aA glob callW cx ro a env s with
  | fail=>rw [hx] at h;exact absurd h.symm ho
  | norm env' s'=>
   rw [hx] at h
   obtain ⟨n,hn⟩:=fQ hc ro a _ _ _ hx (by simp)
   obtain ⟨n',hn'⟩:=fQ hc ro b _ _ _ h ho
   exact ⟨max n n',fun m hm=>by rw [hn m (by omega)];exact hn' m (by omega)⟩
  | _=>
   obtain ⟨n,hn⟩:=fQ hc ro a _ _ _ hx (by simp)
   exact ⟨n,fun m hm=>by rw [hn m hm];rw [hx] at h;exact h⟩
 | .cond c a b,env,s,o,h,ho=>by
  simp only [aU,aA] at h ⊢
  unfold UK at h
  split at h
  ·rename_i x hx
   rw [hx]
   cases x with
   | true=>exact fQ hc ro a _ _ _ (by simpa using h) ho
   | false=>exact fQ hc ro b _ _ _ (by simpa using h) ho
  ·exact absurd h.symm ho
 | .block id b,env,s,o,h,ho=>by
  simp only [aU,aA] at h ⊢
  cases hx:aA glob callW cx ro b env s with
  | fail=>rw [hx] at h;exact absurd h.symm ho
  | _=>
   obtain ⟨n,hn⟩:=fQ hc ro b _ _ _ hx (by simp)
   exact ⟨n,fun m hm=>by rw [hn m hm];rw [hx] at h;exact h⟩
 | .loop keep b,env,s,o,h,ho=>by
  simp only [aU,aA] at h ⊢
  obtain ⟨N0,hN⟩:=zl h ho
  obtain ⟨n,hn⟩:=J5 (body:=fun m=>aU glob (call m) cx ro m b) (fQ hc ro b) N0 (hN N0 (Nat.le_refl _)) ho
  exact ⟨max n N0,fun m hm=>hn m (by omega) m (by omega)⟩
 | .range f ps asg body,env,s,o,h,ho=>by
  simp only [aU,aA] at h ⊢
  split at h
  ·exact absurd h.symm ho
  ·rename_i hro
   simp only [hro]
   unfold KP at h
   split at h
   ·rename_i ff as cs hx
    rw [hx]
    simp only []
    cases hy:callW (.fn ff as cs) [.yl (s.length+1)] (s++[.dfr,.loop (kH env) ps asg body .ready]) cx with
    | fail=>rw [hy] at h;exact absurd h.symm ho
    | _=>
     obtain ⟨n,hn⟩:=hc _ _ _ _ _ hy (by simp)
     exact ⟨n,fun m hm=>by rw [hn m hm];rw [hy] at h;exact h⟩
   ·exact absurd h.symm ho
 | .label l,env,s,o,h,ho=>⟨0,fun m _=>by simpa [aU,aA] using h⟩
 | .goto l,env,s,o,h,ho=>⟨0,fun m _=>by simpa [aU,aA] using h⟩
 | .scope l keep a b,env,s,o,h,ho=>by
  simp only [aU,aA] at h ⊢
  cases hx:aA glob callW cx ro a env s with
  | fail=>rw [hx] at h;exact absurd h.symm ho
  | goto l' env' s'=>
   rw [hx] at h
   simp only [Out.jmp] at h
   split at h
   ·rename_i hl
    obtain ⟨n,hn⟩:=fQ hc ro a _ _ _ hx (by simp)
    obtain ⟨N0,hN⟩:=zl h ho
    obtain ⟨n',hn'⟩:=GK (body:=fun m=>aU glob (call m) cx ro m b) (fQ hc ro b) N0 (hN N0 (Nat.le_refl _)) ho
    exact ⟨max n (max n' N0),fun m hm=>by rw [hn m (by omega)];simp only [hl,if_true];exact hn' m (by omega) m (by omega)⟩
   ·exact absurd h.symm ho
  | _=>
   obtain ⟨n,hn⟩:=fQ hc ro a _ _ _ hx (by simp)
   exact ⟨n,fun m hm=>by rw [hn m hm];rw [hx] at h;exact h⟩
theorem Ns (hc:Lim callW call) {fn:aO} {args:List AV} {s:St} {o:CO} (h:au glob callW fn args s cx=o) (ho:o≠.fail):
  ∃n,∀m,n≤m→mD glob (call m) m fn args s cx=o:=by
 unfold au at h
 unfold mD
 split at h
 ·rename_i hnp
  simp only [hnp,if_true]
  cases hx:aA glob callW ⟨if fn.pure=true then s.length else cx.lim,if fn.keep=true then cx.base else s.length⟩ fn.keep fn.code (xU args 0) s with
  | fail=>rw [hx] at h;exact absurd h.symm ho
  | _=>
   obtain ⟨n,hn⟩:=fQ hc _ _ _ _ _ hx (by simp)
   exact ⟨n,fun m hm=>by rw [hn m hm];rw [hx] at h;exact h⟩
 ·exact absurd h.symm ho
theorem NG (hc:Lim callW call) {l:Nat} {args:List AV} {s:St} {o:CO} (h:Gw glob callW l args s cx=o) (ho:o≠.fail):
  ∃n,∀m,n≤m→rG glob (call m) m l args s cx=o:=by
 unfold Gw at h
 unfold rG
 split at h
 ·rename_i env ps asg body hl
  rw [hl]
  simp only []
  split at h
  ·rename_i hcond
   simp only [hcond,and_self,if_true]
   cases hx:aA glob callW cx true asg (Aa env ps args) s with
   | norm env1 s1=>
    obtain ⟨n,hn⟩:=fQ hc true _ _ _ _ hx (by simp)
    rw [hx] at h
    unfold nY at h
    simp only [] at h
    split at h
    ·rename_i e1 p1 a1 b1 hl1
     cases hy:aA glob callW cx true body env1 (s1.set l (.loop e1 p1 a1 b1 .busy)) with
     | fail=>rw [hy] at h;exact absurd h.symm ho
     | _=>
      obtain ⟨n',hn'⟩:=fQ hc true _ _ _ _ hy (by simp)
      exact ⟨max n n',fun m hm=>by rw [hn m (by omega)];simp only [hl1];rw [hn' m (by omega)];rw [hy] at h;exact h⟩
    ·exact absurd h.symm ho
   | _=>rw [hx] at h;exact absurd h.symm ho
  ·exact absurd h.symm ho
 ·exact absurd h.symm ho
end
theorem Ih {α β:Type} {f:α→Option β} {g:Nat→α→Option β}:∀(l:List α) {r:List β},(∀x∈l,∀y,f x=some y→∃n,∀m,n≤m→g m x=some y)→l.mapM f=some r→∃n,∀m,n≤m→l.mapM (g m)=some r
 | [],r,_,h=>⟨0,fun m _=>by simpa using h⟩
 | x::l,r,hf,h=>by
  simp only [List.mapM_cons,Option.bind_eq_bind,Option.pure_def] at h ⊢
  cases hx:f x with
  | none=>simp [hx] at h
  | some y=>
   cases hl:l.mapM f with
   | none=>simp [hx,hl] at h
   | some ys=>
    simp [hx,hl] at h
    subst h
    obtain ⟨n,hn⟩:=hf x (by simp) y hx
    obtain ⟨n',hn'⟩:=Ih l (fun z hz=>hf z (by simp [hz])) hl
    exact ⟨max n n',fun m hm=>by rw [hn m (by omega),hn' m (by omega)];rfl⟩
theorem QO {callW:AV→List AV→St→Ctx→CO} {call:Nat→AV→List AV→St→Ctx→CO} (hc:Lim callW call) {g:Nat} {x y:AV} {r:Int} (h:JD callW g x y=some r):
  ∃n,∀m,n≤m→JD (call m) g x y=some r:=by
 unfold JD at h ⊢
 cases hx:callW (.fn (.func g) [] []) [x,y] [] ⟨0,0⟩ with
 | fail=>rw [hx] at h;cases h
 | pan v s=>rw [hx] at h;cases h
 | ret v s=>
  obtain ⟨n,hn⟩:=hc _ _ _ _ _ hx (by simp)
  exact ⟨n,fun m hm=>by rw [hn m hm];rw [hx] at h;exact h⟩
theorem Np {callW:AV→List AV→St→Ctx→CO} {call:Nat→AV→List AV→St→Ctx→CO} (hc:Lim callW call) {g:Nat} {es:List AV} {tab:List (List Int)} (h:EH callW g es=some tab):
  ∃n,∀m,n≤m→EH (call m) g es=some tab:=
 Ih (g:=fun m x=>es.mapM fun y=>JD (call m) g x y) es (fun _ _ _ hx=>Ih (g:=fun m y=>JD (call m) g _ y) es (fun _ _ _ hy=>QO hc hy) hx) h
theorem FC {callW qcallW:AV→List AV→St→Ctx→CO} {call qcall:Nat→AV→List AV→St→Ctx→CO} {cx:Ctx} (hc:Lim callW call) (hq:Lim qcallW qcall) {k:HiK} {args:List AV} {s:St} {o:CO}
  (h:eY callW qcallW k args s cx=o) (ho:o≠.fail):∃n,∀m,n≤m→eY (call m) (qcall m) k args s cx=o:=by
 unfold eY at h
 split at h
 ·rename_i r f as cs
  cases hx:callW (.fn (.func f) as cs) [] s cx with
  | ret r1 s1=>
   obtain ⟨n,hn⟩:=hc _ _ _ _ _ hx (by simp)
   exact ⟨n,fun m hm=>by simp only [eY,hn m hm];rw [hx] at h;exact h⟩
  | pan r1 s1=>
   obtain ⟨n,hn⟩:=hc _ _ _ _ _ hx (by simp)
   exact ⟨n,fun m hm=>by simp only [eY,hn m hm];rw [hx] at h;exact h⟩
  | fail=>rw [hx] at h;exact absurd h.symm ho
 ·exact ⟨0,fun m _=>by simpa [eY] using h⟩
 ·exact ⟨0,fun m _=>by simpa [eY] using h⟩
 ·rename_i k0 l ver sz o m g
  split at h
  ·exact ⟨0,fun m _=>by simpa [eY] using h⟩
  ·rename_i n t sz' ver' cs hl
   split at h
   ·rename_i hcond
    cases hx:EH qcallW g (chunk sz (n+1) (cs.drop o)) with
    | none=>rw [hx] at h;exact absurd h.symm ho
    | some tab=>
     obtain ⟨n1,hn⟩:=Np hq hx
     exact ⟨n1,fun m hm=>by simp only [eY,hl];rw [if_pos hcond,hn m hm];rw [hx] at h;exact h⟩
   ·exact absurd h.symm ho
  ·exact absurd h.symm ho
 ·exact ⟨0,fun m _=>by simpa [eY] using h⟩
 ·exact ⟨0,fun m _=>by simp only [eY];exact h⟩
 ·rename_i f t z e es
  cases hx:callW (.fn (.func f) [] []) [.pt s.length 0] (s++[.cells [.sl (e::es)]]) cx with
  | ret r1 s1=>
   obtain ⟨n,hn⟩:=hc _ _ _ _ _ hx (by simp)
   exact ⟨n,fun m hm=>by simp only [eY,hn m hm];rw [hx] at h;exact h⟩
  | pan r1 s1=>
   obtain ⟨n,hn⟩:=hc _ _ _ _ _ hx (by simp)
   exact ⟨n,fun m hm=>by simp only [eY,hn m hm];rw [hx] at h;exact h⟩
  | fail=>rw [hx] at h;exact absurd h.symm ho
 ·exact absurd h.symm ho
noncomputable def aH (A:kX) (fv:AV) (args:List AV) (s:St) (cx:Ctx):CO:=F8 .fail fun n=>dJ A n fv args s cx
theorem wQ (A:kX):Lim (aH A) (dJ A):=fun fv args s cx c h hc=>zl h hc
theorem EL {A:kX} {f:Nat} {fn:aO} (hi:A.intr f=none) (hh:A.hi f=none) (hf:A.fns f=some fn) {as cs args:List AV} {s:St} {cx:Ctx} {o:CO} (ho:o≠.fail)
  (h:au A.glob (aH A) fn (as++args++cs) s cx=o):aH A (.fn (.func f) as cs) args s cx=o:=by
 obtain ⟨n,hn⟩:=Ns (wQ A) h ho
 exact qO (n:=n+1) (fun m hm=>by obtain ⟨k,rfl⟩:∃k,m=k+1:=⟨m - 1,by omega⟩;simp only [dJ,hi,hh,hf];exact hn k (by omega))
theorem vJ {A:kX} {f:Nat} {k:HiK} (hi:A.intr f=none) (hf:A.hi f=some k) {as cs args:List AV} {s:St} {cx:Ctx} {o:CO} (ho:o≠.fail)
  (h:eY (aH A) (aH A.quiet) k (as++args++cs) s cx=o):aH A (.fn (.func f) as cs) args s cx=o:=by
 obtain ⟨n,hn⟩:=FC (wQ A) (wQ A.quiet) h ho
 exact qO (n:=n+1) (fun m hm=>by obtain ⟨k,rfl⟩:∃k,m=k+1:=⟨m - 1,by omega⟩;simp only [dJ,hi,hf];exact hn k (by omega))
theorem DR {A:kX} {f:Nat} {h:List AV→St→Option AV} (hi:A.intr f=some h) {as cs args:List AV} {s:St} {cx:Ctx} {r:AV} (hr:h (as++args++cs) s=some r):
  aH A (.fn (.func f) as cs) args s cx=.ret r s:=
 qO (n:=1) (fun m hm=>by obtain ⟨k,rfl⟩:∃k,m=k+1:=⟨m - 1,by omega⟩;simp only [dJ,hi,hr])
theorem QY {A:kX} {l:Nat} {args:List AV} {s:St} {cx:Ctx} {o:CO} (ho:o≠.fail) (h:Gw A.glob (aH A) l args s cx=o):aH A (.yl l) args s cx=o:=by
 obtain ⟨n,hn⟩:=NG (wQ A) h ho
 exact qO (n:=n+1) (fun m hm=>by obtain ⟨k,rfl⟩:∃k,m=k+1:=⟨m - 1,by omega⟩;simp only [dJ];exact hn k (by omega))
theorem OL {A:kX} {fv:AV} {args:List AV} {s s':St} {cx:Ctx} {r:AV} (h:aH A fv args s cx=.ret r s'):∃n,dJ A n fv args s cx=.ret r s':=by
 obtain ⟨n,hn⟩:=zl h (by simp)
 exact ⟨n,hn n (Nat.le_refl _)⟩
end Go.Ai
namespace Go.Ai
section
variable {glob:Nat→Option (List AV)} {call callW:AV→List AV→St→Ctx→CO} {cx:Ctx}
def zh (call callW:AV→List AV→St→Ctx→CO):Prop:=∀fv args s cx c,call fv args s cx=c→c≠.fail→callW fv args s cx=c
theorem PG (hc:zh call callW) {ops:List aj} {ord:Option (List Nat×List Nat)} {env:Env} {s:St} {o:Out} (h:jI glob call cx ops env s ord=o) (ho:o≠.fail):
  jI glob callW cx ops env s ord=o:=by
 have:Lim call (fun _=>callW):=fun fv args s cx c h hne=>⟨0,fun _ _=>hc fv args s cx c h hne⟩
 obtain ⟨n,hn⟩:=EU this h ho
 exact hn n (Nat.le_refl _)
theorem O1 {body nY:Env→St→Out} {keep:List Nat} (hb:∀env s o,body env s=o→o≠.fail→nY env s=o):
  ∀(N:Nat) {env:Env} {s:St} {o:Out},mO body keep N env s=o→o≠.fail→rQ nY keep env s=o
 | 0,env,s,o,h,ho=>absurd h.symm ho
 | N+1,env,s,o,h,ho=>by
  simp only [mO] at h
  rw [MQ]
  cases hx:body (gV env keep) s with
  | fail=>rw [hx] at h;exact absurd h.symm ho
  | norm env' s'=>
   rw [hx] at h
   rw [hb _ _ _ hx (by simp)]
   exact O1 hb N h ho
  | _=>rw [hb _ _ _ hx (by simp)];rw [hx] at h;exact h
theorem LY {body nY:Env→St→Out} {l:Nat} {keep:List Nat} (hb:∀env s o,body env s=o→o≠.fail→nY env s=o):
  ∀(N:Nat) {env:Env} {s:St} {o:Out},jo body l keep N env s=o→o≠.fail→DV nY l keep env s=o
 | 0,env,s,o,h,ho=>absurd h.symm ho
 | N+1,env,s,o,h,ho=>by
  simp only [jo] at h
  rw [PD]
  cases hx:body (gV env keep) s with
  | fail=>rw [hx] at h;exact absurd h.symm ho
  | goto l' env' s'=>
   rw [hx] at h
   rw [hb _ _ _ hx (by simp)]
   simp only [Out.jmp] at h ⊢
   split at h
   ·rename_i hl;simp only [hl,if_true];exact LY hb N h ho
   ·exact absurd h.symm ho
  | _=>rw [hb _ _ _ hx (by simp)];rw [hx] at h;exact h
theorem jy (hc:zh call callW) (ro:Bool) (N:Nat):∀(c:aG) (env:Env) (s:St) (o:Out),aU glob call cx ro N c env s=o→o≠.fail→aA glob callW cx ro c env s=o
 | .skip,env,s,o,h,ho=>by simpa [aU,aA] using h
 | .ret,env,s,o,h,ho=>by simpa [aU,aA] using h
 | .exit id,env,s,o,h,ho=>by simpa [aU,aA] using h
 | .region ops ord keep,env,s,o,h,ho=>by
  simp only [aU,aA] at h ⊢
  cases hx:jI glob call cx ops env s ord with
  | fail=>rw [hx] at h;exact absurd h.symm ho
  | _=>rw [PG hc hx (by simp)];rw [hx] at h;exact h
 | .seq a b,env,s,o,h,ho=>by
  simp only [aU,aA] at h ⊢
  cases hx:aU glob call cx ro N a env s with
  | fail=>rw [hx] at h;exact absurd h.symm ho
  | norm env' s'=>
   rw [hx] at h
   rw [jy hc ro N a _ _ _ hx (by simp)]
   exact jy hc ro N b _ _ _ h ho
  | _=>rw [jy hc ro N a _ _ _ hx (by simp)];rw [hx] at h;exact h
 | .cond c a b,env,s,o,h,ho=>by
  simp only [aU,aA] at h ⊢
  unfold UK
  split at h
  ·rename_i hx;rw [hx];simpa using jy hc ro N a _ _ _ h ho
  ·rename_i hx;rw [hx];simpa using jy hc ro N b _ _ _ h ho
  ·exact absurd h.symm ho
 | .block id b,env,s,o,h,ho=>by
  simp only [aU,aA] at h ⊢
  cases hx:aU glob call cx ro N b env s with
  | fail=>rw [hx] at h;exact absurd h.symm ho
  | _=>rw [jy hc ro N b _ _ _ hx (by simp)];rw [hx] at h;exact h
 | .loop keep b,env,s,o,h,ho=>by
  simp only [aU,aA] at h ⊢
  exact O1 (jy hc ro N b) N h ho
 | .range f ps asg body,env,s,o,h,ho=>by
  simp only [aU,aA] at h ⊢
  split at h
  ·exact absurd h.symm ho
  ·rename_i hro
   simp only [hro]
   unfold KP
   split at h
   ·rename_i ff as cs hx
    rw [hx]
    cases hy:call (.fn ff as cs) [.yl (s.length+1)] (s++[.dfr,.loop (kH env) ps asg body .ready]) cx with
    | fail=>rw [hy] at h;exact absurd h.symm ho
    | _=>
     have:=hc _ _ _ _ _ hy (by simp)
     rw [hy] at h
     simpa [this] using h
   ·exact absurd h.symm ho
 | .label l,env,s,o,h,ho=>by simpa [aU,aA] using h
 | .goto l,env,s,o,h,ho=>by simpa [aU,aA] using h
 | .scope l keep a b,env,s,o,h,ho=>by
  simp only [aU,aA] at h ⊢
  cases hx:aU glob call cx ro N a env s with
  | fail=>rw [hx] at h;exact absurd h.symm ho
  | goto l' env' s'=>
   rw [hx] at h
   rw [jy hc ro N a _ _ _ hx (by simp)]
   simp only [Out.jmp] at h ⊢
   split at h
   ·rename_i hl;simp only [hl,if_true];exact LY (jy hc ro N b) N h ho
   ·exact absurd h.symm ho
  | _=>rw [jy hc ro N a _ _ _ hx (by simp)];rw [hx] at h;exact h
theorem QU (hc:zh call callW) {N:Nat} {fn:aO} {args:List AV} {s:St} {o:CO} (h:mD glob call N fn args s cx=o) (ho:o≠.fail):au glob callW fn args s cx=o:=by
 unfold mD at h
 unfold au
 split at h
 ·rename_i hnp
  simp only [hnp,if_true]
  cases hx:aU glob call ⟨if fn.pure then s.length else cx.lim,if fn.keep then cx.base else s.length⟩ fn.keep N fn.code (xU args 0) s with
  | fail=>rw [hx] at h;exact absurd h.symm ho
  | _=>rw [jy hc _ N _ _ _ _ hx (by simp)];rw [hx] at h;exact h
 ·exact absurd h.symm ho
theorem Rh (hc:zh call callW) {N l:Nat} {args:List AV} {s:St} {o:CO} (h:rG glob call N l args s cx=o) (ho:o≠.fail):Gw glob callW l args s cx=o:=by
 unfold rG at h
 unfold Gw
 split at h
 ·rename_i env ps asg body hl
  rw [hl]
  simp only []
  split at h
  ·rename_i hcond
   simp only [hcond,and_self,if_true]
   cases hx:aU glob call cx true N asg (Aa env ps args) s with
   | norm env1 s1=>
    rw [jy hc true N _ _ _ _ hx (by simp)]
    rw [hx] at h
    unfold nY
    simp only [] at h ⊢
    split at h
    ·rename_i e1 p1 a1 b1 hl1
     rw [hl1]
     simp only []
     cases hy:aU glob call cx true N body env1 (s1.set l (.loop e1 p1 a1 b1 .busy)) with
     | fail=>rw [hy] at h;exact absurd h.symm ho
     | _=>rw [jy hc true N _ _ _ _ hy (by simp)];rw [hy] at h;exact h
    ·exact absurd h.symm ho
   | _=>rw [hx] at h;exact absurd h.symm ho
  ·exact absurd h.symm ho
 ·exact absurd h.symm ho
end
theorem QT {call callW qcall qcallW:AV→List AV→St→Ctx→CO} {cx:Ctx} (hc:zh call callW) (hq:zh qcall qcallW) {k:HiK} {args:List AV} {s:St} {o:CO} (h:eY call qcall k args s cx=o) (ho:o≠.fail):
  eY callW qcallW k args s cx=o:=by
 have h1:Lim call (fun _=>callW):=fun fv args s cx c h hne=>⟨0,fun _ _=>hc fv args s cx c h hne⟩
 have h2:Lim qcall (fun _=>qcallW):=fun fv args s cx c h hne=>⟨0,fun _ _=>hq fv args s cx c h hne⟩
 obtain ⟨n,hn⟩:=FC h1 h2 h ho
 exact hn n (Nat.le_refl _)
theorem EK:∀(n:Nat) (A:kX),zh (dJ A n) (aH A)
 | 0,A=>fun fv args s cx c h hne=>by simp only [dJ] at h;exact absurd h.symm hne
 | n+1,A=>fun fv args s cx c h hne=>by
  have ih:=EK n A
  cases fv with
  | fn f as cs=>
   cases f with
   | func fid=>
    simp only [dJ] at h
    split at h
    ·rename_i hh hin
     split at h
     ·rename_i r hr;rw [←h];exact DR hin hr
     ·exact absurd h.symm hne
    ·rename_i hin
     split at h
     ·rename_i k hk;exact vJ hin hk hne (QT ih (EK n A.quiet) h hne)
     ·rename_i hk
      split at h
      ·rename_i fn hfn;exact EL hin hk hfn hne (QU ih h hne)
      ·exact absurd h.symm hne
   | _=>simp only [dJ] at h;exact absurd h.symm hne
  | yl l=>simp only [dJ] at h;exact QY hne (Rh ih h hne)
  | _=>simp only [dJ] at h;exact absurd h.symm hne
theorem sN (A:kX) (n:Nat):zh (dJ A n) (aH A):=EK n A
end Go.Ai
