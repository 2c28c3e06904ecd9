/-
 The interpreter in the limit: no fuel.
-/
import Derived.Test.YtalbhlfigmlddaaGreatDoorAiA1
set_option maxRecDepth 100000
set_option linter.unusedSimpArgs false
set_option linter.unusedVariables false
set_option linter.unusedSectionVars false
namespace Go.Ai
noncomputable def KG {α:Type} (d:α) (h:Nat→α):α:=
 open Classical in if H:∃c,c≠d∧∃n,∀m,n≤m→h m=c then H.choose else d
theorem wU {α:Type} {d:α} {h:Nat→α} {c:α} {n:Nat} (hc:∀m,n≤m→h m=c):KG d h=c:=by
 unfold KG
 split
 ·rename_i H
  obtain ⟨_,n',hn'⟩:=H.choose_spec
  rw [←hn' (max n n') (Nat.le_max_right _ _),hc _ (Nat.le_max_left _ _)]
 ·rename_i H
  by_cases hd:c=d
  ·exact hd.symm
  ·exact absurd ⟨c,hd,n,hc⟩ H
theorem Di {α:Type} {d:α} {h:Nat→α} {c:α} (hl:KG d h=c) (hd:c≠d):∃n,∀m,n≤m→h m=c:=by
 unfold KG at hl
 split at hl
 ·rename_i H
  obtain ⟨_,n',hn'⟩:=H.choose_spec
  exact ⟨n',fun m hm=>(hn' m hm).trans hl⟩
 ·exact absurd hl.symm hd
theorem Nw {α:Type} {d:α} {h g:Nat→α} (hs:∀n,h (n+1)=g n):KG d h=KG d g:=by
 by_cases hg:KG d g=d
 ·rw [hg]
  by_cases hh:KG d h=d
  ·exact hh
  ·obtain ⟨n,hn⟩:=Di rfl hh
   have:=wU (d:=d) (h:=g) (c:=KG d h) (n:=n) (fun m hm=>by rw [←hs];exact hn _ (by omega))
   rw [←this,hg]
 ·obtain ⟨n,hn⟩:=Di rfl hg
  exact wU (n:=n+1) (fun m hm=>by obtain ⟨k,rfl⟩:∃k,m=k+1:=⟨m - 1,by omega⟩;rw [hs];exact hn k (by omega))
def Out.thn (o:Out) (f:Env→St→Out):Out:=
 match o with
 | .norm env s=>f env s
 | o=>o
def Out.blk (id:Nat) (o:Out):Out:=
 match o with
 | .exit id' env s=>if id'=id then .norm env s else .exit id' env s
 | o=>o
def aaO (x:Option AV) (a b:Unit→Out):Out:=
 match x with
 | some (.b x)=>if x=true then a () else b ()
 | _=>.fail
noncomputable def dZ (body:Env→St→Out) (keep:List Nat) (env:Env) (s:St):Out:=KG .fail (fun N=>rV body keep N env s)
theorem Gg (body:Env→St→Out) (keep:List Nat) (env:Env) (s:St):dZ body keep env s=(body (fP env keep) s).thn (dZ body keep):=by
 unfold dZ
 cases hb:body (fP env keep) s with
 | norm env' s'=>exact Nw (fun n=>by simp [rV,hb])
 | _=>exact wU (n:=1) (fun m hm=>by obtain ⟨k,rfl⟩:∃k,m=k+1:=⟨m - 1,by omega⟩;simp [rV,hb,Out.thn])
noncomputable def Ih (body:Env→St→Out) (l:Nat) (keep:List Nat) (env:Env) (s:St):Out:=KG .fail (fun N=>mQ body l keep N env s)
def Out.jmp (l:Nat) (o:Out) (f:Env→St→Out):Out:=
 match o with
 | .goto l' env s=>if l'=l then f env s else .fail
 | o=>o
theorem V7 (body:Env→St→Out) (l:Nat) (keep:List Nat) (env:Env) (s:St):Ih body l keep env s=(body (fP env keep) s).jmp l (Ih body l keep):=by
 unfold Ih
 cases hb:body (fP env keep) s with
 | goto l' env' s'=>
  by_cases hl:l'=l
  ·simp only [Out.jmp,hl,if_true]
   exact Nw (fun n=>by simp [mQ,hb,hl])
  ·exact wU (n:=1) (fun m hm=>by obtain ⟨k,rfl⟩:∃k,m=k+1:=⟨m - 1,by omega⟩;simp [mQ,hb,Out.jmp,hl])
 | _=>exact wU (n:=1) (fun m hm=>by obtain ⟨k,rfl⟩:∃k,m=k+1:=⟨m - 1,by omega⟩;simp [mQ,hb,Out.jmp])
section
variable (glob:Nat→Option (List AV))
def Ik (x:Option AV) (call:AV→List AV→St→Ctx→CO) (cx:Ctx) (ps:List Nat) (asg body:aH) (env:Env) (s:St):Out:=
 match x with
 | some (.fn ff as cs)=>match call (.fn ff as cs) [.yl (s.length+1)] (s++[.dfr,.loop (pU env) ps asg body .ready]) cx with
  | .ret _ s'=>EC env s' (s.length+1)
  | _=>.fail
 | _=>.fail
noncomputable def ak (call:AV→List AV→St→Ctx→CO) (cx:Ctx) (ro:Bool):aH→Env→St→Out
 | .skip,env,s=>.norm env s
 | .ret,env,s=>.ret env s
 | .exit id,env,s=>.exit id env s
 | .region ops ord keep,env,s=>(nY glob call cx ops env s ord).thn fun env s=>.norm (fP env keep) s
 | .seq a b,env,s=>(ak call cx ro a env s).thn (ak call cx ro b)
 | .cond c a b,env,s=>aaO (rd glob env c) (fun _=>ak call cx ro a env s) (fun _=>ak call cx ro b env s)
 | .block id b,env,s=>(ak call cx ro b env s).blk id
 | .loop keep b,env,s=>dZ (ak call cx ro b) keep env s
 | .range f ps asg body,env,s=>if ro=true then .fail else Ik (rd glob env f) call cx ps asg body env s
 | .label _,env,s=>.norm env s
 | .goto l,env,s=>.goto l env s
 | .scope l keep a b,env,s=>(ak call cx ro a env s).jmp l (Ih (ak call cx ro b) l keep)
def endW (pure keep:Bool) (s:St) (res:List RV) (o:Out):CO:=
 match o with
 | .norm env s1 | .ret env s1=>match qQ glob env s1 res with
  | some rs=>finish pure keep s s1 (Bg rs)
  | none=>.fail
 | .pan v s1=>(finish pure keep s s1 v).toPan
 | _=>.fail
noncomputable def ah (call:AV→List AV→St→Ctx→CO) (fn:aQ) (args:List AV) (s:St) (cx:Ctx):CO:=
 if args.length=fn.np then
  endW glob fn.pure fn.keep s fn.res (ak glob call ⟨if fn.pure=true then s.length else cx.lim,if fn.keep=true then cx.base else s.length⟩ fn.keep fn.code (Bf args 0) s)
 else .fail
def GZ (l:Nat) (o:Out):CO:=
 match o with
 | .norm _ s2=>pF s2 l .ready true
 | .ret _ s2=>pF s2 l .ret false
 | .exit id _ s2=>pF s2 l (.exit id) false
 | _=>.fail
noncomputable def um (call:AV→List AV→St→Ctx→CO) (cx:Ctx) (body:aH) (l:Nat) (o:Out):CO:=
 match o with
 | .norm env1 s1=>match s1[l]? with
  | some (.loop e1 p1 a1 b1 .ready)=>GZ l (ak glob call cx true body env1 (s1.set l (.loop e1 p1 a1 b1 .busy)))
  | _=>.fail
 | _=>.fail
noncomputable def Ia (call:AV→List AV→St→Ctx→CO) (l:Nat) (args:List AV) (s:St) (cx:Ctx):CO:=
 match s[l]? with
 | some (.loop env ps asg body .ready)=>
  if ps.length=args.length∧cx.lim≤l then
   um glob call cx body l (ak glob call cx true asg (Bj env ps args) s)
  else .fail
 | _=>.fail
end
section
variable {glob:Nat→Option (List AV)} {callW:AV→List AV→St→Ctx→CO} {call:Nat→AV→List AV→St→Ctx→CO} {cx:Ctx}
def Lim (callW:AV→List AV→St→Ctx→CO) (call:Nat→AV→List AV→St→Ctx→CO):Prop:=
 ∀fv args s cx c,callW fv args s cx=c→c≠.fail→∃n,∀m,n≤m→call m fv args s cx=c
theorem OH (hc:Lim callW call) {env:Env} {s:St} {op:AOp} {o:RO} (h:aop glob callW cx env s op=o) (ho:o≠.fail):
  ∃n,∀m,n≤m→aop glob (call m) cx env s op=o:=by
 by_cases hch:∃d f as,op=.callh d f as
 ·obtain ⟨d,f,as,rfl⟩:=hch
  simp only [aop] at h ⊢
  split at h
  ·exact absurd h.symm ho
  ·split at h
   ·rename_i fv as' h1 h2
    cases hx:callW fv as' s cx with
    | fail=>rw [hx] at h;exact absurd h.symm ho
    | ret r s'=>
     obtain ⟨n,hn⟩:=hc _ _ _ _ _ hx (by simp)
     exact ⟨n,fun m hm=>by rw [hn m hm];rw [hx] at h;exact h⟩
    | pan r s'=>
     obtain ⟨n,hn⟩:=hc _ _ _ _ _ hx (by simp)
     exact ⟨n,fun m hm=>by rw [hn m hm];rw [hx] at h;exact h⟩
   ·exact absurd h.symm ho
 by_cases hcall:∃f as,op=.call f as∨op=.callp f as
 ·obtain ⟨f,as,hop⟩:=hcall
  have hcp:∀c:AV→List AV→St→Ctx→CO,aop glob c cx env s op=aop glob c cx env s (.call f as):=by rcases hop with rfl|rfl<;>exact fun _=>rfl
  simp only [hcp] at h ⊢
  clear hop hcp
  simp only [aop] at h ⊢
  split at h
  ·rename_i fv as' env' h1 h2
   cases hx:callW fv as' s cx with
   | fail=>rw [hx] at h;exact absurd h.symm ho
   | ret r s'=>
    obtain ⟨n,hn⟩:=hc _ _ _ _ _ hx (by simp)
    exact ⟨n,fun m hm=>by rw [hn m hm];rw [hx] at h;exact h⟩
   | pan r s'=>
    obtain ⟨n,hn⟩:=hc _ _ _ _ _ hx (by simp)
    exact ⟨n,fun m hm=>by rw [hn m hm];rw [hx] at h;exact h⟩
  ·exact absurd h.symm ho
 ·refine ⟨0,fun m _=>?_⟩
  rw [←h]
  cases op with
  | call f as=>exact absurd ⟨_,_,.inl rfl⟩ hcall
  | callp f as=>exact absurd ⟨_,_,.inr rfl⟩ hcall
  | callh d f as=>exact absurd ⟨_,_,_,rfl⟩ hch
  | len k x=>rcases k with _ | _ | _|k<;>rfl
  | _=>rfl
theorem zN (hc:Lim callW call) {env:Env} {s:St} {p:aB} {o:Out} (h:dV glob callW cx p env s=o) (ho:o≠.fail):
  ∃n,∀m,n≤m→dV glob (call m) cx p env s=o:=by
 unfold dV at h ⊢
 split at h
 ·exact absurd h.symm ho
 ·exact ⟨0,fun m _=>h⟩
 ·cases hx:aop glob callW cx env s p.op with
  | fail=>rw [hx] at h;exact absurd h.symm ho
  | ok e env' s'=>
   obtain ⟨n,hn⟩:=OH hc hx (by simp)
   exact ⟨n,fun m hm=>by rw [hn m hm];rw [hx] at h;exact h⟩
  | pan v s'=>
   obtain ⟨n,hn⟩:=OH hc hx (by simp)
   exact ⟨n,fun m hm=>by rw [hn m hm];rw [hx] at h;exact h⟩
theorem JE (hc:Lim callW call):∀(ops:List aB) {env:Env} {s:St} {o:Out},lX glob callW cx ops env s=o→o≠.fail→
  ∃n,∀m,n≤m→lX glob (call m) cx ops env s=o
 | [],env,s,o,h,ho=>⟨0,fun m _=>h⟩
 | p::r,env,s,o,h,ho=>by
  simp only [lX] at h ⊢
  cases hx:dV glob callW cx p env s with
  | fail=>rw [hx] at h;exact absurd h.symm ho
  | norm env' s'=>
   rw [hx] at h
   obtain ⟨n,hn⟩:=zN hc hx (by simp)
   obtain ⟨n',hn'⟩:=JE hc r h ho
   exact ⟨max n n',fun m hm=>by rw [hn m (by omega)];exact hn' m (by omega)⟩
  | _=>
   obtain ⟨n,hn⟩:=zN hc hx (by simp)
   exact ⟨n,fun m hm=>by rw [hn m hm];rw [hx] at h;exact h⟩
theorem Wq (hc:Lim callW call) {env:Env} {s:St} {p:aB} {e:EV} (h:rG glob callW p env s=some e):
  ∃n,∀m,n≤m→rG glob (call m) p env s=some e:=by
 unfold rG at h ⊢
 split at h
 ·cases h
 ·exact ⟨0,fun m _=>h⟩
 ·split at h
  ·rename_i hq
   simp only [hq,if_true]
   cases hx:aop glob callW ⟨s.length,s.length⟩ env s p.op with
   | fail=>rw [hx] at h;cases h
   | ok e env' s'=>
    obtain ⟨n,hn⟩:=OH hc hx (by simp)
    exact ⟨n,fun m hm=>by rw [hn m hm];rw [hx] at h;exact h⟩
   | pan v s'=>rw [hx] at h;cases h
  ·cases h
theorem PE (hc:Lim callW call) {env:Env} {s:St} {p:aB} {o:Out} (h:gB glob callW cx p env s=o) (ho:o≠.fail):
  ∃n,∀m,n≤m→gB glob (call m) cx p env s=o:=by
 unfold gB at h ⊢
 split at h
 ·rename_i hq
  simp only [hq,if_true]
  unfold wQ at h ⊢
  cases hx:rG glob callW p env s with
  | none=>rw [hx] at h;exact absurd h.symm ho
  | some e=>
   obtain ⟨n,hn⟩:=Wq hc hx
   exact ⟨n,fun m hm=>by rw [hn m hm];rw [hx] at h;exact h⟩
 ·rename_i hq
  simp only [hq]
  exact zN hc h ho
theorem wR (hc:Lim callW call) (aops:List aB):∀(l:List Nat) {env:Env} {s:St} {o:Out},gV glob callW cx aops l env s=o→o≠.fail→
  ∃n,∀m,n≤m→gV glob (call m) cx aops l env s=o
 | [],env,s,o,h,ho=>⟨0,fun m _=>h⟩
 | i::r,env,s,o,h,ho=>by
  simp only [gV] at h ⊢
  split at h
  ·exact absurd h.symm ho
  ·rename_i p hp
   cases hx:gB glob callW cx p env s with
   | fail=>rw [hx] at h;exact absurd h.symm ho
   | norm env' s'=>
    rw [hx] at h
    obtain ⟨n,hn⟩:=PE hc hx (by simp)
    obtain ⟨n',hn'⟩:=wR hc aops r h ho
    exact ⟨max n n',fun m hm=>by rw [hn m (by omega)];exact hn' m (by omega)⟩
   | _=>
    obtain ⟨n,hn⟩:=PE hc hx (by simp)
    exact ⟨n,fun m hm=>by rw [hn m hm];rw [hx] at h;exact h⟩
theorem Sj (hc:Lim callW call) {ops:List aB} {π:List Nat} {env:Env} {s:St} {o:Out} (h:xM glob callW cx ops π env s=o) (ho:o≠.fail):
  ∃n,∀m,n≤m→xM glob (call m) cx ops π env s=o:=by
 unfold xM at h ⊢
 split at h
 ·exact absurd h.symm ho
 ·rename_i c oc hpc
  split at h
  ·rename_i hall
   cases hx:gV glob callW cx ops (vW ops c oc false π) env s with
   | norm env1 s1=>
    rw [hx] at h
    simp only [] at h
    cases hy:dV glob callW cx oc env1 s1 with
    | pan v s2=>
     rw [hy] at h
     obtain ⟨n,hn⟩:=wR hc ops _ hx (by simp)
     obtain ⟨n',hn'⟩:=zN hc hy (by simp)
     refine ⟨max n n',fun m hm=>?_⟩
     rw [hn m (by omega)]
     simp only []
     rw [if_pos hall,hn' m (by omega)]
     exact h
    | _=>rw [hy] at h;exact absurd h.symm ho
   | _=>rw [hx] at h;exact absurd h.symm ho
  ·exact absurd h.symm ho
theorem JC (hc:Lim callW call) {ops:List aB} {ord:Option (List Nat×List Nat)} {env:Env} {s:St} {o:Out} (h:nY glob callW cx ops env s ord=o) (ho:o≠.fail):
  ∃n,∀m,n≤m→nY glob (call m) cx ops env s ord=o:=by
 cases ord with
 | none=>exact JE hc ops h ho
 | some p=>
  simp only [nY] at h ⊢
  cases hx:gV glob callW cx ops p.1 (yT env p.2) s with
  | fail=>rw [hx] at h;exact absurd h.symm ho
  | pan v s1=>
   rw [hx] at h
   obtain ⟨n,hn⟩:=wR hc ops p.1 hx (by simp)
   obtain ⟨n',hn'⟩:=Sj hc (h:xM glob callW cx ops p.1 (yT env p.2) s=o) ho
   exact ⟨max n n',fun m hm=>by rw [hn m (by omega)];exact hn' m (by omega)⟩
  | _=>
   obtain ⟨n,hn⟩:=wR hc ops p.1 hx (by simp)
   exact ⟨n,fun m hm=>by rw [hn m hm];rw [hx] at h;exact h⟩
theorem PW {um:Env→St→Out} {body:Nat→Env→St→Out} {keep:List Nat} (hb:∀env s o,um env s=o→o≠.fail→∃n,∀m,n≤m→body m env s=o):
  ∀(N0:Nat) {env:Env} {s:St} {o:Out},rV um keep N0 env s=o→o≠.fail→∃n,∀m,n≤m→∀N,N0≤N→rV (body m) keep N env s=o
 | 0,env,s,o,h,ho=>absurd h.symm ho
 | N0+1,env,s,o,h,ho=>by
  simp only [rV] at h
  cases hx:um (fP env keep) s with
  | fail=>rw [hx] at h;exact absurd h.symm ho
  | norm env' s'=>
   rw [hx] at h
   obtain ⟨n,hn⟩:=hb _ _ _ hx (by simp)
   obtain ⟨n',hn'⟩:=PW hb N0 h ho
   refine ⟨max n n',fun m hm N hN=>?_⟩
   obtain ⟨k,rfl⟩:∃k,N=k+1:=⟨N - 1,by omega⟩
   simp only [rV]
   rw [hn m (by omega)];exact hn' m (by omega) k (by omega)
  | _=>
   obtain ⟨n,hn⟩:=hb _ _ _ hx (by simp)
   refine ⟨n,fun m hm N hN=>?_⟩
   obtain ⟨k,rfl⟩:∃k,N=k+1:=⟨N - 1,by omega⟩
   simp only [rV]
   rw [hn m hm];rw [hx] at h;exact h
theorem LV {um:Env→St→Out} {body:Nat→Env→St→Out} {l:Nat} {keep:List Nat} (hb:∀env s o,um env s=o→o≠.fail→∃n,∀m,n≤m→body m env s=o):
  ∀(N0:Nat) {env:Env} {s:St} {o:Out},mQ um l keep N0 env s=o→o≠.fail→∃n,∀m,n≤m→∀N,N0≤N→mQ (body m) l keep N env s=o
 | 0,env,s,o,h,ho=>absurd h.symm ho
 | N0+1,env,s,o,h,ho=>by
  simp only [mQ] at h
  cases hx:um (fP env keep) s with
  | fail=>rw [hx] at h;exact absurd h.symm ho
  | goto l' env' s'=>
   rw [hx] at h
   simp only [] at h
   split at h
   ·rename_i hl
    obtain ⟨n,hn⟩:=hb _ _ _ hx (by simp)
    obtain ⟨n',hn'⟩:=LV hb N0 h ho
    refine ⟨max n n',fun m hm N hN=>?_⟩
    obtain ⟨k,rfl⟩:∃k,N=k+1:=⟨N - 1,by omega⟩
    simp only [mQ]
    rw [hn m (by omega)]
    simp only [hl,if_true]
    exact hn' m (by omega) k (by omega)
   ·exact absurd h.symm ho
  | _=>
   obtain ⟨n,hn⟩:=hb _ _ _ hx (by simp)
   refine ⟨n,fun m hm N hN=>?_⟩
   obtain ⟨k,rfl⟩:∃k,N=k+1:=⟨N - 1,by omega⟩
   simp only [mQ]
   rw [hn m hm];rw [hx] at h;exact h
theorem jr (hc:Lim callW call) (ro:Bool):∀(c:aH) (env:Env) (s:St) (o:Out),ak glob callW cx ro c env s=o→o≠.fail→
  ∃n,∀m,n≤m→aZ glob (call m) cx ro m c env s=o
 | .skip,env,s,o,h,ho=>⟨0,fun m _=>by simpa [aZ,ak] using h⟩
 | .ret,env,s,o,h,ho=>⟨0,fun m _=>by simpa [aZ,ak] using h⟩
 | .exit id,env,s,o,h,ho=>⟨0,fun m _=>by simpa [aZ,ak] using h⟩
 | .region ops ord keep,env,s,o,h,ho=>by
  simp only [aZ,ak] at h ⊢
  cases hx:nY glob callW cx ops env s ord with
  | fail=>rw [hx] at h;exact absurd h.symm ho
  | _=>
   obtain ⟨n,hn⟩:=JC hc hx (by simp)
   exact ⟨n,fun m hm=>by rw [hn m hm];rw [hx] at h;exact h⟩
 | .seq a b,env,s,o,h,ho=>by
  simp only [aZ,ak] at h ⊢
  cases hx:ak glob callW cx ro a env s with
  | fail=>rw [hx] at h;exact absurd h.symm ho
  | norm env' s'=>
   rw [hx] at h
   obtain ⟨n,hn⟩:=jr hc ro a _ _ _ hx (by simp)
   obtain ⟨n',hn'⟩:=jr hc ro b _ _ _ h ho
   exact ⟨max n n',fun m hm=>by rw [hn m (by omega)];exact hn' m (by omega)⟩
  | _=>
   obtain ⟨n,hn⟩:=jr hc ro a _ _ _ hx (by simp)
   exact ⟨n,fun m hm=>by rw [hn m hm];rw [hx] at h;exact h⟩
 | .cond c a b,env,s,o,h,ho=>by
  simp only [aZ,ak] at h ⊢
  unfold aaO at h
  split at h
  ·rename_i x hx
   rw [hx]
   cases x with
   | true=>exact jr hc ro a _ _ _ (by simpa using h) ho
   | false=>exact jr hc ro b _ _ _ (by simpa using h) ho
  ·exact absurd h.symm ho
 | .block id b,env,s,o,h,ho=>by
  simp only [aZ,ak] at h ⊢
  cases hx:ak glob callW cx ro b env s with
  | fail=>rw [hx] at h;exact absurd h.symm ho
  | _=>
   obtain ⟨n,hn⟩:=jr hc ro b _ _ _ hx (by simp)
   exact ⟨n,fun m hm=>by rw [hn m hm];rw [hx] at h;exact h⟩
 | .loop keep b,env,s,o,h,ho=>by
  simp only [aZ,ak] at h ⊢
  obtain ⟨N0,hN⟩:=Di h ho
  obtain ⟨n,hn⟩:=PW (body:=fun m=>aZ glob (call m) cx ro m b) (jr hc ro b) N0 (hN N0 (Nat.le_refl _)) ho
  exact ⟨max n N0,fun m hm=>hn m (by omega) m (by omega)⟩
 | .range f ps asg body,env,s,o,h,ho=>by
  simp only [aZ,ak] at h ⊢
  split at h
  ·exact absurd h.symm ho
  ·rename_i hro
   simp only [hro]
   unfold Ik at h
   split at h
   ·rename_i ff as cs hx
    rw [hx]
    simp only []
    cases hy:callW (.fn ff as cs) [.yl (s.length+1)] (s++[.dfr,.loop (pU env) ps asg body .ready]) cx with
    | fail=>rw [hy] at h;exact absurd h.symm ho
    | _=>
     obtain ⟨n,hn⟩:=hc _ _ _ _ _ hy (by simp)
     exact ⟨n,fun m hm=>by rw [hn m hm];rw [hy] at h;exact h⟩
   ·exact absurd h.symm ho
 | .label l,env,s,o,h,ho=>⟨0,fun m _=>by simpa [aZ,ak] using h⟩
 | .goto l,env,s,o,h,ho=>⟨0,fun m _=>by simpa [aZ,ak] using h⟩
 | .scope l keep a b,env,s,o,h,ho=>by
  simp only [aZ,ak] at h ⊢
  cases hx:ak glob callW cx ro a env s with
  | fail=>rw [hx] at h;exact absurd h.symm ho
  | goto l' env' s'=>
   rw [hx] at h
   simp only [Out.jmp] at h
   split at h
   ·rename_i hl
    obtain ⟨n,hn⟩:=jr hc ro a _ _ _ hx (by simp)
    obtain ⟨N0,hN⟩:=Di h ho
    obtain ⟨n',hn'⟩:=LV (body:=fun m=>aZ glob (call m) cx ro m b) (jr hc ro b) N0 (hN N0 (Nat.le_refl _)) ho
    exact ⟨max n (max n' N0),fun m hm=>by rw [hn m (by omega)];simp only [hl,if_true];exact hn' m (by omega) m (by omega)⟩
   ·exact absurd h.symm ho
  | _=>
   obtain ⟨n,hn⟩:=jr hc ro a _ _ _ hx (by simp)
   exact ⟨n,fun m hm=>by rw [hn m hm];rw [hx] at h;exact h⟩
theorem TK (hc:Lim callW call) {fn:aQ} {args:List AV} {s:St} {o:CO} (h:ah glob callW fn args s cx=o) (ho:o≠.fail):
  ∃n,∀m,n≤m→rP glob (call m) m fn args s cx=o:=by
 unfold ah at h
 unfold rP
 split at h
 ·rename_i hnp
  simp only [hnp,if_true]
  cases hx:ak glob callW ⟨if fn.pure=true then s.length else cx.lim,if fn.keep=true then cx.base else s.length⟩ fn.keep fn.code (Bf args 0) s with
  | fail=>rw [hx] at h;exact absurd h.symm ho
  | _=>
   obtain ⟨n,hn⟩:=jr hc _ _ _ _ _ hx (by simp)
   exact ⟨n,fun m hm=>by rw [hn m hm];rw [hx] at h;exact h⟩
 ·exact absurd h.symm ho
theorem Ud (hc:Lim callW call) {l:Nat} {args:List AV} {s:St} {o:CO} (h:Ia glob callW l args s cx=o) (ho:o≠.fail):
  ∃n,∀m,n≤m→xH glob (call m) m l args s cx=o:=by
 unfold Ia at h
 unfold xH
 split at h
 ·rename_i env ps asg body hl
  rw [hl]
  simp only []
  split at h
  ·rename_i hcond
   simp only [hcond,and_self,if_true]
   cases hx:ak glob callW cx true asg (Bj env ps args) s with
   | norm env1 s1=>
    obtain ⟨n,hn⟩:=jr hc true _ _ _ _ hx (by simp)
    rw [hx] at h
    unfold um at h
    simp only [] at h
    split at h
    ·rename_i e1 p1 a1 b1 hl1
     cases hy:ak glob callW cx true body env1 (s1.set l (.loop e1 p1 a1 b1 .busy)) with
     | fail=>rw [hy] at h;exact absurd h.symm ho
     | _=>
      obtain ⟨n',hn'⟩:=jr hc true _ _ _ _ hy (by simp)
      exact ⟨max n n',fun m hm=>by rw [hn m (by omega)];simp only [hl1];rw [hn' m (by omega)];rw [hy] at h;exact h⟩
    ·exact absurd h.symm ho
   | _=>rw [hx] at h;exact absurd h.symm ho
  ·exact absurd h.symm ho
 ·exact absurd h.symm ho
end
theorem Nr {α β:Type} {f:α→Option β} {g:Nat→α→Option β}:∀(l:List α) {r:List β},(∀x∈l,∀y,f x=some y→∃n,∀m,n≤m→g m x=some y)→l.mapM f=some r→∃n,∀m,n≤m→l.mapM (g m)=some r
 | [],r,_,h=>⟨0,fun m _=>by simpa using h⟩
 | x::l,r,hf,h=>by
  simp only [List.mapM_cons,Option.bind_eq_bind,Option.pure_def] at h ⊢
  cases hx:f x with
  | none=>simp [hx] at h
  | some y=>
   cases hl:l.mapM f with
   | none=>simp [hx,hl] at h
   | some ys=>
    simp [hx,hl] at h
    subst h
    obtain ⟨n,hn⟩:=hf x (by simp) y hx
    obtain ⟨n',hn'⟩:=Nr l (fun z hz=>hf z (by simp [hz])) hl
    exact ⟨max n n',fun m hm=>by rw [hn m (by omega),hn' m (by omega)];rfl⟩
theorem XI {callW:AV→List AV→St→Ctx→CO} {call:Nat→AV→List AV→St→Ctx→CO} (hc:Lim callW call) {g:Nat} {x y:AV} {r:Int} (h:O9 callW g x y=some r):
  ∃n,∀m,n≤m→O9 (call m) g x y=some r:=by
 unfold O9 at h ⊢
 cases hx:callW (.fn (.func g) [] []) [x,y] [] ⟨0,0⟩ with
 | fail=>rw [hx] at h;cases h
 | pan v s=>rw [hx] at h;cases h
 | ret v s=>
  obtain ⟨n,hn⟩:=hc _ _ _ _ _ hx (by simp)
  exact ⟨n,fun m hm=>by rw [hn m hm];rw [hx] at h;exact h⟩
theorem TG {callW:AV→List AV→St→Ctx→CO} {call:Nat→AV→List AV→St→Ctx→CO} (hc:Lim callW call) {g:Nat} {es:List AV} {tab:List (List Int)} (h:Jj callW g es=some tab):
  ∃n,∀m,n≤m→Jj (call m) g es=some tab:=
 Nr (g:=fun m x=>es.mapM fun y=>O9 (call m) g x y) es (fun _ _ _ hx=>Nr (g:=fun m y=>O9 (call m) g _ y) es (fun _ _ _ hy=>XI hc hy) hx) h
theorem J4 {callW qcallW:AV→List AV→St→Ctx→CO} {call qcall:Nat→AV→List AV→St→Ctx→CO} {cx:Ctx} (hc:Lim callW call) (hq:Lim qcallW qcall) {k:HiK} {args:List AV} {s:St} {o:CO}
  (h:gU callW qcallW k args s cx=o) (ho:o≠.fail):∃n,∀m,n≤m→gU (call m) (qcall m) k args s cx=o:=by
 unfold gU at h
 split at h
 ·rename_i r f as cs
  cases hx:callW (.fn (.func f) as cs) [] s cx with
  | ret r1 s1=>
   obtain ⟨n,hn⟩:=hc _ _ _ _ _ hx (by simp)
   exact ⟨n,fun m hm=>by simp only [gU,hn m hm];rw [hx] at h;exact h⟩
  | pan r1 s1=>
   obtain ⟨n,hn⟩:=hc _ _ _ _ _ hx (by simp)
   exact ⟨n,fun m hm=>by simp only [gU,hn m hm];rw [hx] at h;exact h⟩
  | fail=>rw [hx] at h;exact absurd h.symm ho
 ·exact ⟨0,fun m _=>by simpa [gU] using h⟩
 ·exact ⟨0,fun m _=>by simpa [gU] using h⟩
 ·rename_i k0 l ver sz o m g
  split at h
  ·exact ⟨0,fun m _=>by simpa [gU] using h⟩
  ·rename_i n t sz' ver' cs hl
   split at h
   ·rename_i hcond
    cases hx:Jj qcallW g (chunk sz (n+1) (cs.drop o)) with
    | none=>rw [hx] at h;exact absurd h.symm ho
    | some tab=>
     obtain ⟨n1,hn⟩:=TG hq hx
     exact ⟨n1,fun m hm=>by simp only [gU,hl];rw [if_pos hcond,hn m hm];rw [hx] at h;exact h⟩
   ·exact absurd h.symm ho
  ·exact absurd h.symm ho
 ·exact ⟨0,fun m _=>by simpa [gU] using h⟩
 ·exact ⟨0,fun m _=>by simp only [gU];exact h⟩
 ·rename_i f t z e es
  cases hx:callW (.fn (.func f) [] []) [.pt s.length 0] (s++[.cells [.sl (e::es)]]) cx with
  | ret r1 s1=>
   obtain ⟨n,hn⟩:=hc _ _ _ _ _ hx (by simp)
   exact ⟨n,fun m hm=>by simp only [gU,hn m hm];rw [hx] at h;exact h⟩
  | pan r1 s1=>
   obtain ⟨n,hn⟩:=hc _ _ _ _ _ hx (by simp)
   exact ⟨n,fun m hm=>by simp only [gU,hn m hm];rw [hx] at h;exact h⟩
  | fail=>rw [hx] at h;exact absurd h.symm ho
 ·exact absurd h.symm ho
noncomputable def aj (A:qA) (fv:AV) (args:List AV) (s:St) (cx:Ctx):CO:=KG .fail fun n=>fE A n fv args s cx
theorem Ah (A:qA):Lim (aj A) (fE A):=fun fv args s cx c h hc=>Di h hc
theorem Jq {A:qA} {f:Nat} {fn:aQ} (hi:A.intr f=none) (hh:A.hi f=none) (hf:A.fns f=some fn) {as cs args:List AV} {s:St} {cx:Ctx} {o:CO} (ho:o≠.fail)
  (h:ah A.glob (aj A) fn (as++args++cs) s cx=o):aj A (.fn (.func f) as cs) args s cx=o:=by
 obtain ⟨n,hn⟩:=TK (Ah A) h ho
 exact wU (n:=n+1) (fun m hm=>by obtain ⟨k,rfl⟩:∃k,m=k+1:=⟨m - 1,by omega⟩;simp only [fE,hi,hh,hf];exact hn k (by omega))
theorem xE {A:qA} {f:Nat} {k:HiK} (hi:A.intr f=none) (hf:A.hi f=some k) {as cs args:List AV} {s:St} {cx:Ctx} {o:CO} (ho:o≠.fail)
  (h:gU (aj A) (aj A.quiet) k (as++args++cs) s cx=o):aj A (.fn (.func f) as cs) args s cx=o:=by
 obtain ⟨n,hn⟩:=J4 (Ah A) (Ah A.quiet) h ho
 exact wU (n:=n+1) (fun m hm=>by obtain ⟨k,rfl⟩:∃k,m=k+1:=⟨m - 1,by omega⟩;simp only [fE,hi,hf];exact hn k (by omega))
theorem H7 {A:qA} {f:Nat} {h:List AV→St→Option AV} (hi:A.intr f=some h) {as cs args:List AV} {s:St} {cx:Ctx} {r:AV} (hr:h (as++args++cs) s=some r):
  aj A (.fn (.func f) as cs) args s cx=.ret r s:=
 wU (n:=1) (fun m hm=>by obtain ⟨k,rfl⟩:∃k,m=k+1:=⟨m - 1,by omega⟩;simp only [fE,hi,hr])
theorem Qo {A:qA} {l:Nat} {args:List AV} {s:St} {cx:Ctx} {o:CO} (ho:o≠.fail) (h:Ia A.glob (aj A) l args s cx=o):aj A (.yl l) args s cx=o:=by
 obtain ⟨n,hn⟩:=Ud (Ah A) h ho
 exact wU (n:=n+1) (fun m hm=>by obtain ⟨k,rfl⟩:∃k,m=k+1:=⟨m - 1,by omega⟩;simp only [fE];exact hn k (by omega))
theorem Vg {A:qA} {fv:AV} {args:List AV} {s s':St} {cx:Ctx} {r:AV} (h:aj A fv args s cx=.ret r s'):∃n,fE A n fv args s cx=.ret r s':=by
 obtain ⟨n,hn⟩:=Di h (by simp)
 exact ⟨n,hn n (Nat.le_refl _)⟩
end Go.Ai
namespace Go.Ai
section
variable {glob:Nat→Option (List AV)} {call callW:AV→List AV→St→Ctx→CO} {cx:Ctx}
def C9 (call callW:AV→List AV→St→Ctx→CO):Prop:=∀fv args s cx c,call fv args s cx=c→c≠.fail→callW fv args s cx=c
theorem V9 (hc:C9 call callW) {ops:List aB} {ord:Option (List Nat×List Nat)} {env:Env} {s:St} {o:Out} (h:nY glob call cx ops env s ord=o) (ho:o≠.fail):
  nY glob callW cx ops env s ord=o:=by
 have:Lim call (fun _=>callW):=fun fv args s cx c h hne=>⟨0,fun _ _=>hc fv args s cx c h hne⟩
 obtain ⟨n,hn⟩:=JC this h ho
 exact hn n (Nat.le_refl _)
theorem Vz {body um:Env→St→Out} {keep:List Nat} (hb:∀env s o,body env s=o→o≠.fail→um env s=o):
  ∀(N:Nat) {env:Env} {s:St} {o:Out},rV body keep N env s=o→o≠.fail→dZ um keep env s=o
 | 0,env,s,o,h,ho=>absurd h.symm ho
 | N+1,env,s,o,h,ho=>by
  simp only [rV] at h
  rw [Gg]
  cases hx:body (fP env keep) s with
  | fail=>rw [hx] at h;exact absurd h.symm ho
  | norm env' s'=>
   rw [hx] at h
   rw [hb _ _ _ hx (by simp)]
   exact Vz hb N h ho
  | _=>rw [hb _ _ _ hx (by simp)];rw [hx] at h;exact h
theorem RG {body um:Env→St→Out} {l:Nat} {keep:List Nat} (hb:∀env s o,body env s=o→o≠.fail→um env s=o):
  ∀(N:Nat) {env:Env} {s:St} {o:Out},mQ body l keep N env s=o→o≠.fail→Ih um l keep env s=o
 | 0,env,s,o,h,ho=>absurd h.symm ho
 | N+1,env,s,o,h,ho=>by
  simp only [mQ] at h
  rw [V7]
  cases hx:body (fP env keep) s with
  | fail=>rw [hx] at h;exact absurd h.symm ho
  | goto l' env' s'=>
   rw [hx] at h
   rw [hb _ _ _ hx (by simp)]
   simp only [Out.jmp] at h ⊢
   split at h
   ·rename_i hl;simp only [hl,if_true];exact RG hb N h ho
   ·exact absurd h.symm ho
  | _=>rw [hb _ _ _ hx (by simp)];rw [hx] at h;exact h
theorem nG (hc:C9 call callW) (ro:Bool) (N:Nat):∀(c:aH) (env:Env) (s:St) (o:Out),aZ glob call cx ro N c env s=o→o≠.fail→ak glob callW cx ro c env s=o
 | .skip,env,s,o,h,ho=>by simpa [aZ,ak] using h
 | .ret,env,s,o,h,ho=>by simpa [aZ,ak] using h
 | .exit id,env,s,o,h,ho=>by simpa [aZ,ak] using h
 | .region ops ord keep,env,s,o,h,ho=>by
  simp only [aZ,ak] at h ⊢
  cases hx:nY glob call cx ops env s ord with
  | fail=>rw [hx] at h;exact absurd h.symm ho
  | _=>rw [V9 hc hx (by simp)];rw [hx] at h;exact h
 | .seq a b,env,s,o,h,ho=>by
  simp only [aZ,ak] at h ⊢
  cases hx:aZ glob call cx ro N a env s with
  | fail=>rw [hx] at h;exact absurd h.symm ho
  | norm env' s'=>
   rw [hx] at h
   rw [nG hc ro N a _ _ _ hx (by simp)]
   exact nG hc ro N b _ _ _ h ho
  | _=>rw [nG hc ro N a _ _ _ hx (by simp)];rw [hx] at h;exact h
 | .cond c a b,env,s,o,h,ho=>by
  simp only [aZ,ak] at h ⊢
  unfold aaO
  split at h
  ·rename_i hx;rw [hx];simpa using nG hc ro N a _ _ _ h ho
  ·rename_i hx;rw [hx];simpa using nG hc ro N b _ _ _ h ho
  ·exact absurd h.symm ho
 | .block id b,env,s,o,h,ho=>by
  simp only [aZ,ak] at h ⊢
  cases hx:aZ glob call cx ro N b env s with
  | fail=>rw [hx] at h;exact absurd h.symm ho
  | _=>rw [nG hc ro N b _ _ _ hx (by simp)];rw [hx] at h;exact h
 | .loop keep b,env,s,o,h,ho=>by
  simp only [aZ,ak] at h ⊢
  exact Vz (nG hc ro N b) N h ho
 | .range f ps asg body,env,s,o,h,ho=>by
  simp only [aZ,ak] at h ⊢
  split at h
  ·exact absurd h.symm ho
  ·rename_i hro
   simp only [hro]
   unfold Ik
   split at h
   ·rename_i ff as cs hx
    rw [hx]
    cases hy:call (.fn ff as cs) [.yl (s.length+1)] (s++[.dfr,.loop (pU env) ps asg body .ready]) cx with
    | fail=>rw [hy] at h;exact absurd h.symm ho
    | _=>
     have:=hc _ _ _ _ _ hy (by simp)
     rw [hy] at h
     simpa [this] using h
   ·exact absurd h.symm ho
 | .label l,env,s,o,h,ho=>by simpa [aZ,ak] using h
 | .goto l,env,s,o,h,ho=>by simpa [aZ,ak] using h
 | .scope l keep a b,env,s,o,h,ho=>by
  simp only [aZ,ak] at h ⊢
  cases hx:aZ glob call cx ro N a env s with
  | fail=>rw [hx] at h;exact absurd h.symm ho
  | goto l' env' s'=>
   rw [hx] at h
   rw [nG hc ro N a _ _ _ hx (by simp)]
   simp only [Out.jmp] at h ⊢
   split at h
   ·rename_i hl;simp only [hl,if_true];exact RG (nG hc ro N b) N h ho
   ·exact absurd h.symm ho
  | _=>rw [nG hc ro N a _ _ _ hx (by simp)];rw [hx] at h;exact h
theorem XL (hc:C9 call callW) {N:Nat} {fn:aQ} {args:List AV} {s:St} {o:CO} (h:rP glob call N fn args s cx=o) (ho:o≠.fail):ah glob callW fn args s cx=o:=by
 unfold rP at h
 unfold ah
 split at h
 ·rename_i hnp
  simp only [hnp,if_true]
  cases hx:aZ glob call ⟨if fn.pure then s.length else cx.lim,if fn.keep then cx.base else s.length⟩ fn.keep N fn.code (Bf args 0) s with
  | fail=>rw [hx] at h;exact absurd h.symm ho
  | _=>rw [nG hc _ N _ _ _ _ hx (by simp)];rw [hx] at h;exact h
 ·exact absurd h.symm ho
theorem X8 (hc:C9 call callW) {N l:Nat} {args:List AV} {s:St} {o:CO} (h:xH glob call N l args s cx=o) (ho:o≠.fail):Ia glob callW l args s cx=o:=by
 unfold xH at h
 unfold Ia
 split at h
 ·rename_i env ps asg body hl
  rw [hl]
  simp only []
  split at h
  ·rename_i hcond
   simp only [hcond,and_self,if_true]
   cases hx:aZ glob call cx true N asg (Bj env ps args) s with
   | norm env1 s1=>
    rw [nG hc true N _ _ _ _ hx (by simp)]
    rw [hx] at h
    unfold um
    simp only [] at h ⊢
    split at h
    ·rename_i e1 p1 a1 b1 hl1
     rw [hl1]
     simp only []
     cases hy:aZ glob call cx true N body env1 (s1.set l (.loop e1 p1 a1 b1 .busy)) with
     | fail=>rw [hy] at h;exact absurd h.symm ho
     | _=>rw [nG hc true N _ _ _ _ hy (by simp)];rw [hy] at h;exact h
    ·exact absurd h.symm ho
   | _=>rw [hx] at h;exact absurd h.symm ho
  ·exact absurd h.symm ho
 ·exact absurd h.symm ho
end
theorem XK {call callW qcall qcallW:AV→List AV→St→Ctx→CO} {cx:Ctx} (hc:C9 call callW) (hq:C9 qcall qcallW) {k:HiK} {args:List AV} {s:St} {o:CO} (h:gU call qcall k args s cx=o) (ho:o≠.fail):
  gU callW qcallW k args s cx=o:=by
 have h1:Lim call (fun _=>callW):=fun fv args s cx c h hne=>⟨0,fun _ _=>hc fv args s cx c h hne⟩
 have h2:Lim qcall (fun _=>qcallW):=fun fv args s cx c h hne=>⟨0,fun _ _=>hq fv args s cx c h hne⟩
 obtain ⟨n,hn⟩:=J4 h1 h2 h ho
 exact hn n (Nat.le_refl _)
theorem Jp:∀(n:Nat) (A:qA),C9 (fE A n) (aj A)
 | 0,A=>fun fv args s cx c h hne=>by simp only [fE] at h;exact absurd h.symm hne
 | n+1,A=>fun fv args s cx c h hne=>by
  have ih:=Jp n A
  cases fv with
  | fn f as cs=>
   cases f with
   | func fid=>
    simp only [fE] at h
    split at h
    ·rename_i hh hin
     split at h
     ·rename_i r hr;rw [←h];exact H7 hin hr
     ·exact absurd h.symm hne
    ·rename_i hin
     split at h
     ·rename_i k hk;exact xE hin hk hne (XK ih (Jp n A.quiet) h hne)
     ·rename_i hk
      split at h
      ·rename_i fn hfn;exact Jq hin hk hfn hne (XL ih h hne)
      ·exact absurd h.symm hne
   | _=>simp only [fE] at h;exact absurd h.symm hne
  | yl l=>simp only [fE] at h;exact Qo hne (X8 ih h hne)
  | _=>simp only [fE] at h;exact absurd h.symm hne
theorem yu (A:qA) (n:Nat):C9 (fE A n) (aj A):=Jp n A
end Go.Ai
