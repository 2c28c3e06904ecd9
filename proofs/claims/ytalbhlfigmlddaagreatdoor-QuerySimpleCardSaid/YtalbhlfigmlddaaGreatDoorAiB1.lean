/-
 The interpreter in the limit: no fuel.
-/
import Derived.Test.YtalbhlfigmlddaaGreatDoorAiA1
set_option maxRecDepth 100000
set_option linter.unusedSimpArgs false
set_option linter.unusedVariables false
set_option linter.unusedSectionVars false
namespace Go.Ai
noncomputable def JC {α:Type} (d:α) (h:Nat→α):α:=
 open Classical in if H:∃c,c≠d∧∃n,∀m,n≤m→h m=c then H.choose else d
theorem vO {α:Type} {d:α} {h:Nat→α} {c:α} {n:Nat} (hc:∀m,n≤m→h m=c):JC d h=c:=by
 unfold JC
 split
 ·rename_i H
  obtain ⟨_,n',hn'⟩:=H.choose_spec
  rw [←hn' (max n n') (Nat.le_max_right _ _),hc _ (Nat.le_max_left _ _)]
 ·rename_i H
  by_cases hd:c=d
  ·exact hd.symm
  ·exact absurd ⟨c,hd,n,hc⟩ H
theorem BQ {α:Type} {d:α} {h:Nat→α} {c:α} (hl:JC d h=c) (hd:c≠d):∃n,∀m,n≤m→h m=c:=by
 unfold JC at hl
 split at hl
 ·rename_i H
  obtain ⟨_,n',hn'⟩:=H.choose_spec
  exact ⟨n',fun m hm=>(hn' m hm).trans hl⟩
 ·exact absurd hl.symm hd
theorem LJ {α:Type} {d:α} {h g:Nat→α} (hs:∀n,h (n+1)=g n):JC d h=JC d g:=by
 by_cases hg:JC d g=d
 ·rw [hg]
  by_cases hh:JC d h=d
  ·exact hh
  ·obtain ⟨n,hn⟩:=BQ rfl hh
   have:=vO (d:=d) (h:=g) (c:=JC d h) (n:=n) (fun m hm=>by rw [←hs];exact hn _ (by omega))
   rw [←this,hg]
 ·obtain ⟨n,hn⟩:=BQ rfl hg
  exact vO (n:=n+1) (fun m hm=>by obtain ⟨k,rfl⟩:∃k,m=k+1:=⟨m - 1,by omega⟩;rw [hs];exact hn k (by omega))
def Out.thn (o:Out) (f:Env→St→Out):Out:=
 match o with
 | .norm env s=>f env s
 | o=>o
def Out.blk (id:Nat) (o:Out):Out:=
 match o with
 | .exit id' env s=>if id'=id then .norm env s else .exit id' env s
 | o=>o
def Y0 (x:Option AV) (a b:Unit→Out):Out:=
 match x with
 | some (.b x)=>if x=true then a () else b ()
 | _=>.fail
noncomputable def dZ (body:Env→St→Out) (keep:List Nat) (env:Env) (s:St):Out:=JC .fail (fun N=>qU body keep N env s)
theorem Fh (body:Env→St→Out) (keep:List Nat) (env:Env) (s:St):dZ body keep env s=(body (fC env keep) s).thn (dZ body keep):=by
 unfold dZ
 cases hb:body (fC env keep) s with
 | norm env' s'=>exact LJ (fun n=>by simp [qU,hb])
 | _=>exact vO (n:=1) (fun m hm=>by obtain ⟨k,rfl⟩:∃k,m=k+1:=⟨m - 1,by omega⟩;simp [qU,hb,Out.thn])
noncomputable def GI (body:Env→St→Out) (l:Nat) (keep:List Nat) (env:Env) (s:St):Out:=JC .fail (fun N=>lT body l keep N env s)
def Out.jmp (l:Nat) (o:Out) (f:Env→St→Out):Out:=
 match o with
 | .goto l' env s=>if l'=l then f env s else .fail
 | o=>o
theorem UE (body:Env→St→Out) (l:Nat) (keep:List Nat) (env:Env) (s:St):GI body l keep env s=(body (fC env keep) s).jmp l (GI body l keep):=by
 unfold GI
 cases hb:body (fC env keep) s with
 | goto l' env' s'=>
  by_cases hl:l'=l
  ·simp only [Out.jmp,hl,if_true]
   exact LJ (fun n=>by simp [lT,hb,hl])
  ·exact vO (n:=1) (fun m hm=>by obtain ⟨k,rfl⟩:∃k,m=k+1:=⟨m - 1,by omega⟩;simp [lT,hb,Out.jmp,hl])
 | _=>exact vO (n:=1) (fun m hm=>by obtain ⟨k,rfl⟩:∃k,m=k+1:=⟨m - 1,by omega⟩;simp [lT,hb,Out.jmp])
section
variable (glob:Nat→Option (List AV))
def GR (x:Option AV) (call:AV→List AV→St→Ctx→CO) (cx:Ctx) (ps:List Nat) (asg body:aH) (env:Env) (s:St):Out:=
 match x with
 | some (.fn ff as cs)=>match call (.fn ff as cs) [.yl (s.length+1)] (s++[.dfr,.loop (oL env) ps asg body .ready]) cx with
  | .ret _ s'=>DY env s' (s.length+1)
  | _=>.fail
 | _=>.fail
noncomputable def ak (call:AV→List AV→St→Ctx→CO) (cx:Ctx) (ro:Bool):aH→Env→St→Out
 | .skip,env,s=>.norm env s
 | .ret,env,s=>.ret env s
 | .exit id,env,s=>.exit id env s
 | .region ops ord keep,env,s=>(ny glob call cx ops env s ord).thn fun env s=>.norm (fC env keep) s
 | .seq a b,env,s=>(ak call cx ro a env s).thn (ak call cx ro b)
 | .cond c a b,env,s=>Y0 (rd glob env c) (fun _=>ak call cx ro a env s) (fun _=>ak call cx ro b env s)
 | .block id b,env,s=>(ak call cx ro b env s).blk id
 | .loop keep b,env,s=>dZ (ak call cx ro b) keep env s
 | .range f ps asg body,env,s=>if ro=true then .fail else GR (rd glob env f) call cx ps asg body env s
 | .label _,env,s=>.norm env s
 | .goto l,env,s=>.goto l env s
 | .scope l keep a b,env,s=>(ak call cx ro a env s).jmp l (GI (ak call cx ro b) l keep)
def endW (pure keep:Bool) (s:St) (res:List RV) (o:Out):CO:=
 match o with
 | .norm env s1 | .ret env s1=>match ql glob env s1 res with
  | some rs=>finish pure keep s s1 (Af rs)
  | none=>.fail
 | .pan v s1=>(finish pure keep s s1 v).toPan
 | _=>.fail
noncomputable def ah (call:AV→List AV→St→Ctx→CO) (fn:aP) (args:List AV) (s:St) (cx:Ctx):CO:=
 if args.length=fn.np then
  endW glob fn.pure fn.keep s fn.res (ak glob call ⟨if fn.pure=true then s.length else cx.lim,if fn.keep=true then cx.base else s.length⟩ fn.keep fn.code (Ae args 0) s)
 else .fail
def FZ (l:Nat) (o:Out):CO:=
 match o with
 | .norm _ s2=>oD s2 l .ready true
 | .ret _ s2=>oD s2 l .ret false
 | .exit id _ s2=>oD s2 l (.exit id) false
 | _=>.fail
noncomputable def sO (call:AV→List AV→St→Ctx→CO) (cx:Ctx) (body:aH) (l:Nat) (o:Out):CO:=
 match o with
 | .norm env1 s1=>match s1[l]? with
  | some (.loop e1 p1 a1 b1 .ready)=>FZ l (ak glob call cx true body env1 (s1.set l (.loop e1 p1 a1 b1 .busy)))
  | _=>.fail
 | _=>.fail
noncomputable def Gv (call:AV→List AV→St→Ctx→CO) (l:Nat) (args:List AV) (s:St) (cx:Ctx):CO:=
 match s[l]? with
 | some (.loop env ps asg body .ready)=>
  if ps.length=args.length∧cx.lim≤l then
   sO glob call cx body l (ak glob call cx true asg (Aj env ps args) s)
  else .fail
 | _=>.fail
end
section
variable {glob:Nat→Option (List AV)} {callW:AV→List AV→St→Ctx→CO} {call:Nat→AV→List AV→St→Ctx→CO} {cx:Ctx}
def Lim (callW:AV→List AV→St→Ctx→CO) (call:Nat→AV→List AV→St→Ctx→CO):Prop:=
 ∀fv args s cx c,callW fv args s cx=c→c≠.fail→∃n,∀m,n≤m→call m fv args s cx=c
theorem Ns (hc:Lim callW call) {env:Env} {s:St} {op:AOp} {o:RO} (h:aop glob callW cx env s op=o) (ho:o≠.fail):
  ∃n,∀m,n≤m→aop glob (call m) cx env s op=o:=by
 by_cases hch:∃d f as,op=.callh d f as
 ·obtain ⟨d,f,as,rfl⟩:=hch
  simp only [aop] at h ⊢
  split at h
  ·exact absurd h.symm ho
  ·split at h
   ·rename_i fv as' h1 h2
    cases hx:callW fv as' s cx with
    | fail=>rw [hx] at h;exact absurd h.symm ho
    | ret r s'=>
     obtain ⟨n,hn⟩:=hc _ _ _ _ _ hx (by simp)
     exact ⟨n,fun m hm=>by rw [hn m hm];rw [hx] at h;exact h⟩
    | pan r s'=>
     obtain ⟨n,hn⟩:=hc _ _ _ _ _ hx (by simp)
     exact ⟨n,fun m hm=>by rw [hn m hm];rw [hx] at h;exact h⟩
   ·exact absurd h.symm ho
 by_cases hcall:∃f as,op=.call f as∨op=.callp f as
 ·obtain ⟨f,as,hop⟩:=hcall
  have hcp:∀c:AV→List AV→St→Ctx→CO,aop glob c cx env s op=aop glob c cx env s (.call f as):=by rcases hop with rfl|rfl<;>exact fun _=>rfl
  simp only [hcp] at h ⊢
  clear hop hcp
  simp only [aop] at h ⊢
  split at h
  ·rename_i fv as' env' h1 h2
   cases hx:callW fv as' s cx with
   | fail=>rw [hx] at h;exact absurd h.symm ho
   | ret r s'=>
    obtain ⟨n,hn⟩:=hc _ _ _ _ _ hx (by simp)
    exact ⟨n,fun m hm=>by rw [hn m hm];rw [hx] at h;exact h⟩
   | pan r s'=>
    obtain ⟨n,hn⟩:=hc _ _ _ _ _ hx (by simp)
    exact ⟨n,fun m hm=>by rw [hn m hm];rw [hx] at h;exact h⟩
  ·exact absurd h.symm ho
 ·refine ⟨0,fun m _=>?_⟩
  rw [←h]
  cases op with
  | call f as=>exact absurd ⟨_,_,.inl rfl⟩ hcall
  | callp f as=>exact absurd ⟨_,_,.inr rfl⟩ hcall
  | callh d f as=>exact absurd ⟨_,_,_,rfl⟩ hch
  | len k x=>rcases k with _ | _ | _|k<;>rfl
  | _=>rfl
theorem yX (hc:Lim callW call) {env:Env} {s:St} {p:aB} {o:Out} (h:dJ glob callW cx p env s=o) (ho:o≠.fail):
  ∃n,∀m,n≤m→dJ glob (call m) cx p env s=o:=by
 unfold dJ at h ⊢
 split at h
 ·exact absurd h.symm ho
 ·exact ⟨0,fun m _=>h⟩
 ·cases hx:aop glob callW cx env s p.op with
  | fail=>rw [hx] at h;exact absurd h.symm ho
  | ok e env' s'=>
   obtain ⟨n,hn⟩:=Ns hc hx (by simp)
   exact ⟨n,fun m hm=>by rw [hn m hm];rw [hx] at h;exact h⟩
  | pan v s'=>
   obtain ⟨n,hn⟩:=Ns hc hx (by simp)
   exact ⟨n,fun m hm=>by rw [hn m hm];rw [hx] at h;exact h⟩
theorem IJ (hc:Lim callW call):∀(ops:List aB) {env:Env} {s:St} {o:Out},lu glob callW cx ops env s=o→o≠.fail→
  ∃n,∀m,n≤m→lu glob (call m) cx ops env s=o
 | [],env,s,o,h,ho=>⟨0,fun m _=>h⟩
 | p::r,env,s,o,h,ho=>by
  simp only [lu] at h ⊢
  cases hx:dJ glob callW cx p env s with
  | fail=>rw [hx] at h;exact absurd h.symm ho
  | norm env' s'=>
   rw [hx] at h
   obtain ⟨n,hn⟩:=yX hc hx (by simp)
   obtain ⟨n',hn'⟩:=IJ hc r h ho
   exact ⟨max n n',fun m hm=>by rw [hn m (by omega)];exact hn' m (by omega)⟩
  | _=>
   obtain ⟨n,hn⟩:=yX hc hx (by simp)
   exact ⟨n,fun m hm=>by rw [hn m hm];rw [hx] at h;exact h⟩
theorem UM (hc:Lim callW call) {env:Env} {s:St} {p:aB} {e:EV} (h:qL glob callW p env s=some e):
  ∃n,∀m,n≤m→qL glob (call m) p env s=some e:=by
 unfold qL at h ⊢
 split at h
 ·cases h
 ·exact ⟨0,fun m _=>h⟩
 ·split at h
  ·rename_i hq
   simp only [hq,if_true]
   cases hx:aop glob callW ⟨s.length,s.length⟩ env s p.op with
   | fail=>rw [hx] at h;cases h
   | ok e env' s'=>
    obtain ⟨n,hn⟩:=Ns hc hx (by simp)
    exact ⟨n,fun m hm=>by rw [hn m hm];rw [hx] at h;exact h⟩
   | pan v s'=>rw [hx] at h;cases h
  ·cases h
theorem Og (hc:Lim callW call) {env:Env} {s:St} {p:aB} {o:Out} (h:fJ glob callW cx p env s=o) (ho:o≠.fail):
  ∃n,∀m,n≤m→fJ glob (call m) cx p env s=o:=by
 unfold fJ at h ⊢
 split at h
 ·rename_i hq
  simp only [hq,if_true]
  unfold vK at h ⊢
  cases hx:qL glob callW p env s with
  | none=>rw [hx] at h;exact absurd h.symm ho
  | some e=>
   obtain ⟨n,hn⟩:=UM hc hx
   exact ⟨n,fun m hm=>by rw [hn m hm];rw [hx] at h;exact h⟩
 ·rename_i hq
  simp only [hq]
  exact yX hc h ho
theorem vM (hc:Lim callW call) (aops:List aB):∀(l:List Nat) {env:Env} {s:St} {o:Out},fP glob callW cx aops l env s=o→o≠.fail→
  ∃n,∀m,n≤m→fP glob (call m) cx aops l env s=o
 | [],env,s,o,h,ho=>⟨0,fun m _=>h⟩
 | i::r,env,s,o,h,ho=>by
  simp only [fP] at h ⊢
  split at h
  ·exact absurd h.symm ho
  ·rename_i p hp
   cases hx:fJ glob callW cx p env s with
   | fail=>rw [hx] at h;exact absurd h.symm ho
   | norm env' s'=>
    rw [hx] at h
    obtain ⟨n,hn⟩:=Og hc hx (by simp)
    obtain ⟨n',hn'⟩:=vM hc aops r h ho
    exact ⟨max n n',fun m hm=>by rw [hn m (by omega)];exact hn' m (by omega)⟩
   | _=>
    obtain ⟨n,hn⟩:=Og hc hx (by simp)
    exact ⟨n,fun m hm=>by rw [hn m hm];rw [hx] at h;exact h⟩
theorem Qs (hc:Lim callW call) {ops:List aB} {π:List Nat} {env:Env} {s:St} {o:Out} (h:wK glob callW cx ops π env s=o) (ho:o≠.fail):
  ∃n,∀m,n≤m→wK glob (call m) cx ops π env s=o:=by
 unfold wK at h ⊢
 split at h
 ·exact absurd h.symm ho
 ·rename_i c oc hpc
  split at h
  ·rename_i hall
   cases hx:fP glob callW cx ops (uV ops c oc false π) env s with
   | norm env1 s1=>
    rw [hx] at h
    simp only [] at h
    cases hy:dJ glob callW cx oc env1 s1 with
    | pan v s2=>
     rw [hy] at h
     obtain ⟨n,hn⟩:=vM hc ops _ hx (by simp)
     obtain ⟨n',hn'⟩:=yX hc hy (by simp)
     refine ⟨max n n',fun m hm=>?_⟩
     rw [hn m (by omega)]
     simp only []
     rw [if_pos hall,hn' m (by omega)]
     exact h
    | _=>rw [hy] at h;exact absurd h.symm ho
   | _=>rw [hx] at h;exact absurd h.symm ho
  ·exact absurd h.symm ho
theorem IG (hc:Lim callW call) {ops:List aB} {ord:Option (List Nat×List Nat)} {env:Env} {s:St} {o:Out} (h:ny glob callW cx ops env s ord=o) (ho:o≠.fail):
  ∃n,∀m,n≤m→ny glob (call m) cx ops env s ord=o:=by
 cases ord with
 | none=>exact IJ hc ops h ho
 | some p=>
  simp only [ny] at h ⊢
  cases hx:fP glob callW cx ops p.1 (yc env p.2) s with
  | fail=>rw [hx] at h;exact absurd h.symm ho
  | pan v s1=>
   rw [hx] at h
   obtain ⟨n,hn⟩:=vM hc ops p.1 hx (by simp)
   obtain ⟨n',hn'⟩:=Qs hc (h:wK glob callW cx ops p.1 (yc env p.2) s=o) ho
   exact ⟨max n n',fun m hm=>by rw [hn m (by omega)];exact hn' m (by omega)⟩
  | _=>
   obtain ⟨n,hn⟩:=vM hc ops p.1 hx (by simp)
   exact ⟨n,fun m hm=>by rw [hn m hm];rw [hx] at h;exact h⟩
theorem Ot {sO:Env→St→Out} {body:Nat→Env→St→Out} {keep:List Nat} (hb:∀env s o,sO env s=o→o≠.fail→∃n,∀m,n≤m→body m env s=o):
  ∀(N0:Nat) {env:Env} {s:St} {o:Out},qU sO keep N0 env s=o→o≠.fail→∃n,∀m,n≤m→∀N,N0≤N→qU (body m) keep N env s=o
 | 0,env,s,o,h,ho=>absurd h.symm ho
 | N0+1,env,s,o,h,ho=>by
  simp only [qU] at h
  cases hx:sO (fC env keep) s with
  | fail=>rw [hx] at h;exact absurd h.symm ho
  | norm env' s'=>
   rw [hx] at h
   obtain ⟨n,hn⟩:=hb _ _ _ hx (by simp)
   obtain ⟨n',hn'⟩:=Ot hb N0 h ho
   refine ⟨max n n',fun m hm N hN=>?_⟩
   obtain ⟨k,rfl⟩:∃k,N=k+1:=⟨N - 1,by omega⟩
   simp only [qU]
   rw [hn m (by omega)];exact hn' m (by omega) k (by omega)
  | _=>
   obtain ⟨n,hn⟩:=hb _ _ _ hx (by simp)
   refine ⟨n,fun m hm N hN=>?_⟩
   obtain ⟨k,rfl⟩:∃k,N=k+1:=⟨N - 1,by omega⟩
   simp only [qU]
   rw [hn m hm];rw [hx] at h;exact h
theorem Kv {sO:Env→St→Out} {body:Nat→Env→St→Out} {l:Nat} {keep:List Nat} (hb:∀env s o,sO env s=o→o≠.fail→∃n,∀m,n≤m→body m env s=o):
  ∀(N0:Nat) {env:Env} {s:St} {o:Out},lT sO l keep N0 env s=o→o≠.fail→∃n,∀m,n≤m→∀N,N0≤N→lT (body m) l keep N env s=o
 | 0,env,s,o,h,ho=>absurd h.symm ho
 | N0+1,env,s,o,h,ho=>by
  simp only [lT] at h
  cases hx:sO (fC env keep) s with
  | fail=>rw [hx] at h;exact absurd h.symm ho
  | goto l' env' s'=>
   rw [hx] at h
   simp only [] at h
   split at h
   ·rename_i hl
    obtain ⟨n,hn⟩:=hb _ _ _ hx (by simp)
    obtain ⟨n',hn'⟩:=Kv hb N0 h ho
    refine ⟨max n n',fun m hm N hN=>?_⟩
    obtain ⟨k,rfl⟩:∃k,N=k+1:=⟨N - 1,by omega⟩
    simp only [lT]
    rw [hn m (by omega)]
    simp only [hl,if_true]
    exact hn' m (by omega) k (by omega)
   ·exact absurd h.symm ho
  | _=>
   obtain ⟨n,hn⟩:=hb _ _ _ hx (by simp)
   refine ⟨n,fun m hm N hN=>?_⟩
   obtain ⟨k,rfl⟩:∃k,N=k+1:=⟨N - 1,by omega⟩
   simp only [lT]
   rw [hn m hm];rw [hx] at h;exact h
theorem jc (hc:Lim callW call) (ro:Bool):∀(c:aH) (env:Env) (s:St) (o:Out),ak glob callW cx ro c env s=o→o≠.fail→
  ∃n,∀m,n≤m→aW glob (call m) cx ro m c env s=o
 | .skip,env,s,o,h,ho=>⟨0,fun m _=>by simpa [aW,ak] using h⟩
 | .ret,env,s,o,h,ho=>⟨0,fun m _=>by simpa [aW,ak] using h⟩
 | .exit id,env,s,o,h,ho=>⟨0,fun m _=>by simpa [aW,ak] using h⟩
 | .region ops ord keep,env,s,o,h,ho=>by
  simp only [aW,ak] at h ⊢
  cases hx:ny glob callW cx ops env s ord with
  | fail=>rw [hx] at h;exact absurd h.symm ho
  | _=>
   obtain ⟨n,hn⟩:=IG hc hx (by simp)
   exact ⟨n,fun m hm=>by rw [hn m hm];rw [hx] at h;exact h⟩
 | .seq a b,env,s,o,h,ho=>by
  simp only [aW,ak] at h ⊢
  cases hx:ak glob callW cx ro a env s with
  | fail=>rw [hx] at h;exact absurd h.symm ho
  | norm env' s'=>
   rw [hx] at h
   obtain ⟨n,hn⟩:=jc hc ro a _ _ _ hx (by simp)
   obtain ⟨n',hn'⟩:=jc hc ro b _ _ _ h ho
   exact ⟨max n n',fun m hm=>by rw [hn m (by omega)];exact hn' m (by omega)⟩
  | _=>
   obtain ⟨n,hn⟩:=jc hc ro a _ _ _ hx (by simp)
   exact ⟨n,fun m hm=>by rw [hn m hm];rw [hx] at h;exact h⟩
 | .cond c a b,env,s,o,h,ho=>by
  simp only [aW,ak] at h ⊢
  unfold Y0 at h
  split at h
  ·rename_i x hx
   rw [hx]
   cases x with
   | true=>exact jc hc ro a _ _ _ (by simpa using h) ho
   | false=>exact jc hc ro b _ _ _ (by simpa using h) ho
  ·exact absurd h.symm ho
 | .block id b,env,s,o,h,ho=>by
  simp only [aW,ak] at h ⊢
  cases hx:ak glob callW cx ro b env s with
  | fail=>rw [hx] at h;exact absurd h.symm ho
  | _=>
   obtain ⟨n,hn⟩:=jc hc ro b _ _ _ hx (by simp)
   exact ⟨n,fun m hm=>by rw [hn m hm];rw [hx] at h;exact h⟩
 | .loop keep b,env,s,o,h,ho=>by
  simp only [aW,ak] at h ⊢
  obtain ⟨N0,hN⟩:=BQ h ho
  obtain ⟨n,hn⟩:=Ot (body:=fun m=>aW glob (call m) cx ro m b) (jc hc ro b) N0 (hN N0 (Nat.le_refl _)) ho
  exact ⟨max n N0,fun m hm=>hn m (by omega) m (by omega)⟩
 | .range f ps asg body,env,s,o,h,ho=>by
  simp only [aW,ak] at h ⊢
  split at h
  ·exact absurd h.symm ho
  ·rename_i hro
   simp only [hro]
   unfold GR at h
   split at h
   ·rename_i ff as cs hx
    rw [hx]
    simp only []
    cases hy:callW (.fn ff as cs) [.yl (s.length+1)] (s++[.dfr,.loop (oL env) ps asg body .ready]) cx with
    | fail=>rw [hy] at h;exact absurd h.symm ho
    | _=>
     obtain ⟨n,hn⟩:=hc _ _ _ _ _ hy (by simp)
     exact ⟨n,fun m hm=>by rw [hn m hm];rw [hy] at h;exact h⟩
   ·exact absurd h.symm ho
 | .label l,env,s,o,h,ho=>⟨0,fun m _=>by simpa [aW,ak] using h⟩
 | .goto l,env,s,o,h,ho=>⟨0,fun m _=>by simpa [aW,ak] using h⟩
 | .scope l keep a b,env,s,o,h,ho=>by
  simp only [aW,ak] at h ⊢
  cases hx:ak glob callW cx ro a env s with
  | fail=>rw [hx] at h;exact absurd h.symm ho
  | goto l' env' s'=>
   rw [hx] at h
   simp only [Out.jmp] at h
   split at h
   ·rename_i hl
    obtain ⟨n,hn⟩:=jc hc ro a _ _ _ hx (by simp)
    obtain ⟨N0,hN⟩:=BQ h ho
    obtain ⟨n',hn'⟩:=Kv (body:=fun m=>aW glob (call m) cx ro m b) (jc hc ro b) N0 (hN N0 (Nat.le_refl _)) ho
    exact ⟨max n (max n' N0),fun m hm=>by rw [hn m (by omega)];simp only [hl,if_true];exact hn' m (by omega) m (by omega)⟩
   ·exact absurd h.symm ho
  | _=>
   obtain ⟨n,hn⟩:=jc hc ro a _ _ _ hx (by simp)
   exact ⟨n,fun m hm=>by rw [hn m hm];rw [hx] at h;exact h⟩
theorem Rj (hc:Lim callW call) {fn:aP} {args:List AV} {s:St} {o:CO} (h:ah glob callW fn args s cx=o) (ho:o≠.fail):
  ∃n,∀m,n≤m→qO glob (call m) m fn args s cx=o:=by
 unfold ah at h
 unfold qO
 split at h
 ·rename_i hnp
  simp only [hnp,if_true]
  cases hx:ak glob callW ⟨if fn.pure=true then s.length else cx.lim,if fn.keep=true then cx.base else s.length⟩ fn.keep fn.code (Ae args 0) s with
  | fail=>rw [hx] at h;exact absurd h.symm ho
  | _=>
   obtain ⟨n,hn⟩:=jc hc _ _ _ _ _ hx (by simp)
   exact ⟨n,fun m hm=>by rw [hn m hm];rw [hx] at h;exact h⟩
 ·exact absurd h.symm ho
theorem RF (hc:Lim callW call) {l:Nat} {args:List AV} {s:St} {o:CO} (h:Gv glob callW l args s cx=o) (ho:o≠.fail):
  ∃n,∀m,n≤m→wG glob (call m) m l args s cx=o:=by
 unfold Gv at h
 unfold wG
 split at h
 ·rename_i env ps asg body hl
  rw [hl]
  simp only []
  split at h
  ·rename_i hcond
   simp only [hcond,and_self,if_true]
   cases hx:ak glob callW cx true asg (Aj env ps args) s with
   | norm env1 s1=>
    obtain ⟨n,hn⟩:=jc hc true _ _ _ _ hx (by simp)
    rw [hx] at h
    unfold sO at h
    simp only [] at h
    split at h
    ·rename_i e1 p1 a1 b1 hl1
     cases hy:ak glob callW cx true body env1 (s1.set l (.loop e1 p1 a1 b1 .busy)) with
     | fail=>rw [hy] at h;exact absurd h.symm ho
     | _=>
      obtain ⟨n',hn'⟩:=jc hc true _ _ _ _ hy (by simp)
      exact ⟨max n n',fun m hm=>by rw [hn m (by omega)];simp only [hl1];rw [hn' m (by omega)];rw [hy] at h;exact h⟩
    ·exact absurd h.symm ho
   | _=>rw [hx] at h;exact absurd h.symm ho
  ·exact absurd h.symm ho
 ·exact absurd h.symm ho
end
theorem LC {α β:Type} {f:α→Option β} {g:Nat→α→Option β}:∀(l:List α) {r:List β},(∀x∈l,∀y,f x=some y→∃n,∀m,n≤m→g m x=some y)→l.mapM f=some r→∃n,∀m,n≤m→l.mapM (g m)=some r
 | [],r,_,h=>⟨0,fun m _=>by simpa using h⟩
 | x::l,r,hf,h=>by
  simp only [List.mapM_cons,Option.bind_eq_bind,Option.pure_def] at h ⊢
  cases hx:f x with
  | none=>simp [hx] at h
  | some y=>
   cases hl:l.mapM f with
   | none=>simp [hx,hl] at h
   | some ys=>
    simp [hx,hl] at h
    subst h
    obtain ⟨n,hn⟩:=hf x (by simp) y hx
    obtain ⟨n',hn'⟩:=LC l (fun z hz=>hf z (by simp [hz])) hl
    exact ⟨max n n',fun m hm=>by rw [hn m (by omega),hn' m (by omega)];rfl⟩
theorem VN {callW:AV→List AV→St→Ctx→CO} {call:Nat→AV→List AV→St→Ctx→CO} (hc:Lim callW call) {g:Nat} {x y:AV} {r:Int} (h:PE callW g x y=some r):
  ∃n,∀m,n≤m→PE (call m) g x y=some r:=by
 unfold PE at h ⊢
 cases hx:callW (.fn (.func g) [] []) [x,y] [] ⟨0,0⟩ with
 | fail=>rw [hx] at h;cases h
 | pan v s=>rw [hx] at h;cases h
 | ret v s=>
  obtain ⟨n,hn⟩:=hc _ _ _ _ _ hx (by simp)
  exact ⟨n,fun m hm=>by rw [hn m hm];rw [hx] at h;exact h⟩
theorem Rf {callW:AV→List AV→St→Ctx→CO} {call:Nat→AV→List AV→St→Ctx→CO} (hc:Lim callW call) {g:Nat} {es:List AV} {tab:List (List Int)} (h:ML callW g es=some tab):
  ∃n,∀m,n≤m→ML (call m) g es=some tab:=
 LC (g:=fun m x=>es.mapM fun y=>PE (call m) g x y) es (fun _ _ _ hx=>LC (g:=fun m y=>PE (call m) g _ y) es (fun _ _ _ hy=>VN hc hy) hx) h
theorem Jh {callW qcallW:AV→List AV→St→Ctx→CO} {call qcall:Nat→AV→List AV→St→Ctx→CO} {cx:Ctx} (hc:Lim callW call) (hq:Lim qcallW qcall) {k:HiK} {args:List AV} {s:St} {o:CO}
  (h:iG callW qcallW k args s cx=o) (ho:o≠.fail):∃n,∀m,n≤m→iG (call m) (qcall m) k args s cx=o:=by
 unfold iG at h
 split at h
 ·rename_i r f as cs
  cases hx:callW (.fn (.func f) as cs) [] s cx with
  | ret r1 s1=>
   obtain ⟨n,hn⟩:=hc _ _ _ _ _ hx (by simp)
   exact ⟨n,fun m hm=>by simp only [iG,hn m hm];rw [hx] at h;exact h⟩
  | pan r1 s1=>
   obtain ⟨n,hn⟩:=hc _ _ _ _ _ hx (by simp)
   exact ⟨n,fun m hm=>by simp only [iG,hn m hm];rw [hx] at h;exact h⟩
  | fail=>rw [hx] at h;exact absurd h.symm ho
 ·exact ⟨0,fun m _=>by simpa [iG] using h⟩
 ·exact ⟨0,fun m _=>by simpa [iG] using h⟩
 ·rename_i k0 l ver sz o m g
  split at h
  ·exact ⟨0,fun m _=>by simpa [iG] using h⟩
  ·rename_i n t sz' ver' cs hl
   split at h
   ·rename_i hcond
    cases hx:ML qcallW g (chunk sz (n+1) (cs.drop o)) with
    | none=>rw [hx] at h;exact absurd h.symm ho
    | some tab=>
     obtain ⟨n1,hn⟩:=Rf hq hx
     exact ⟨n1,fun m hm=>by simp only [iG,hl];rw [if_pos hcond,hn m hm];rw [hx] at h;exact h⟩
   ·exact absurd h.symm ho
  ·exact absurd h.symm ho
 ·exact ⟨0,fun m _=>by simpa [iG] using h⟩
 ·exact ⟨0,fun m _=>by simp only [iG];exact h⟩
 ·rename_i f t z e es
  cases hx:callW (.fn (.func f) [] []) [.pt s.length 0] (s++[.cells [.sl (e::es)]]) cx with
  | ret r1 s1=>
   obtain ⟨n,hn⟩:=hc _ _ _ _ _ hx (by simp)
   exact ⟨n,fun m hm=>by simp only [iG,hn m hm];rw [hx] at h;exact h⟩
  | pan r1 s1=>
   obtain ⟨n,hn⟩:=hc _ _ _ _ _ hx (by simp)
   exact ⟨n,fun m hm=>by simp only [iG,hn m hm];rw [hx] at h;exact h⟩
  | fail=>rw [hx] at h;exact absurd h.symm ho
 ·exact absurd h.symm ho
noncomputable def aj (A:pI) (fv:AV) (args:List AV) (s:St) (cx:Ctx):CO:=JC .fail fun n=>eP A n fv args s cx
theorem zB (A:pI):Lim (aj A) (eP A):=fun fv args s cx c h hc=>BQ h hc
theorem Ip {A:pI} {f:Nat} {fn:aP} (hi:A.intr f=none) (hh:A.hi f=none) (hf:A.fns f=some fn) {as cs args:List AV} {s:St} {cx:Ctx} {o:CO} (ho:o≠.fail)
  (h:ah A.glob (aj A) fn (as++args++cs) s cx=o):aj A (.fn (.func f) as cs) args s cx=o:=by
 obtain ⟨n,hn⟩:=Rj (zB A) h ho
 exact vO (n:=n+1) (fun m hm=>by obtain ⟨k,rfl⟩:∃k,m=k+1:=⟨m - 1,by omega⟩;simp only [eP,hi,hh,hf];exact hn k (by omega))
theorem Io {A:pI} {f:Nat} {k:HiK} (hi:A.intr f=none) (hf:A.hi f=some k) {as cs args:List AV} {s:St} {cx:Ctx} {o:CO} (ho:o≠.fail)
  (h:iG (aj A) (aj A.quiet) k (as++args++cs) s cx=o):aj A (.fn (.func f) as cs) args s cx=o:=by
 obtain ⟨n,hn⟩:=Jh (zB A) (zB A.quiet) h ho
 exact vO (n:=n+1) (fun m hm=>by obtain ⟨k,rfl⟩:∃k,m=k+1:=⟨m - 1,by omega⟩;simp only [eP,hi,hf];exact hn k (by omega))
theorem Gs {A:pI} {f:Nat} {h:List AV→St→Option AV} (hi:A.intr f=some h) {as cs args:List AV} {s:St} {cx:Ctx} {r:AV} (hr:h (as++args++cs) s=some r):
  aj A (.fn (.func f) as cs) args s cx=.ret r s:=
 vO (n:=1) (fun m hm=>by obtain ⟨k,rfl⟩:∃k,m=k+1:=⟨m - 1,by omega⟩;simp only [eP,hi,hr])
theorem OT {A:pI} {l:Nat} {args:List AV} {s:St} {cx:Ctx} {o:CO} (ho:o≠.fail) (h:Gv A.glob (aj A) l args s cx=o):aj A (.yl l) args s cx=o:=by
 obtain ⟨n,hn⟩:=RF (zB A) h ho
 exact vO (n:=n+1) (fun m hm=>by obtain ⟨k,rfl⟩:∃k,m=k+1:=⟨m - 1,by omega⟩;simp only [eP];exact hn k (by omega))
theorem TK {A:pI} {fv:AV} {args:List AV} {s s':St} {cx:Ctx} {r:AV} (h:aj A fv args s cx=.ret r s'):∃n,eP A n fv args s cx=.ret r s':=by
 obtain ⟨n,hn⟩:=BQ h (by simp)
 exact ⟨n,hn n (Nat.le_refl _)⟩
end Go.Ai
namespace Go.Ai
section
variable {glob:Nat→Option (List AV)} {call callW:AV→List AV→St→Ctx→CO} {cx:Ctx}
def BL (call callW:AV→List AV→St→Ctx→CO):Prop:=∀fv args s cx c,call fv args s cx=c→c≠.fail→callW fv args s cx=c
theorem UG (hc:BL call callW) {ops:List aB} {ord:Option (List Nat×List Nat)} {env:Env} {s:St} {o:Out} (h:ny glob call cx ops env s ord=o) (ho:o≠.fail):
  ny glob callW cx ops env s ord=o:=by
 have:Lim call (fun _=>callW):=fun fv args s cx c h hne=>⟨0,fun _ _=>hc fv args s cx c h hne⟩
 obtain ⟨n,hn⟩:=IG this h ho
 exact hn n (Nat.le_refl _)
theorem Ua {body sO:Env→St→Out} {keep:List Nat} (hb:∀env s o,body env s=o→o≠.fail→sO env s=o):
  ∀(N:Nat) {env:Env} {s:St} {o:Out},qU body keep N env s=o→o≠.fail→dZ sO keep env s=o
 | 0,env,s,o,h,ho=>absurd h.symm ho
 | N+1,env,s,o,h,ho=>by
  simp only [qU] at h
  rw [Fh]
  cases hx:body (fC env keep) s with
  | fail=>rw [hx] at h;exact absurd h.symm ho
  | norm env' s'=>
   rw [hx] at h
   rw [hb _ _ _ hx (by simp)]
   exact Ua hb N h ho
  | _=>rw [hb _ _ _ hx (by simp)];rw [hx] at h;exact h
theorem Qe {body sO:Env→St→Out} {l:Nat} {keep:List Nat} (hb:∀env s o,body env s=o→o≠.fail→sO env s=o):
  ∀(N:Nat) {env:Env} {s:St} {o:Out},lT body l keep N env s=o→o≠.fail→GI sO l keep env s=o
 | 0,env,s,o,h,ho=>absurd h.symm ho
 | N+1,env,s,o,h,ho=>by
  simp only [lT] at h
  rw [UE]
  cases hx:body (fC env keep) s with
  | fail=>rw [hx] at h;exact absurd h.symm ho
  | goto l' env' s'=>
   rw [hx] at h
   rw [hb _ _ _ hx (by simp)]
   simp only [Out.jmp] at h ⊢
   split at h
   ·rename_i hl;simp only [hl,if_true];exact Qe hb N h ho
   ·exact absurd h.symm ho
  | _=>rw [hb _ _ _ hx (by simp)];rw [hx] at h;exact h
theorem mD (hc:BL call callW) (ro:Bool) (N:Nat):∀(c:aH) (env:Env) (s:St) (o:Out),aW glob call cx ro N c env s=o→o≠.fail→ak glob callW cx ro c env s=o
 | .skip,env,s,o,h,ho=>by simpa [aW,ak] using h
 | .ret,env,s,o,h,ho=>by simpa [aW,ak] using h
 | .exit id,env,s,o,h,ho=>by simpa [aW,ak] using h
 | .region ops ord keep,env,s,o,h,ho=>by
  simp only [aW,ak] at h ⊢
  cases hx:ny glob call cx ops env s ord with
  | fail=>rw [hx] at h;exact absurd h.symm ho
  | _=>rw [UG hc hx (by simp)];rw [hx] at h;exact h
 | .seq a b,env,s,o,h,ho=>by
  simp only [aW,ak] at h ⊢
  cases hx:aW glob call cx ro N a env s with
  | fail=>rw [hx] at h;exact absurd h.symm ho
  | norm env' s'=>
   rw [hx] at h
   rw [mD hc ro N a _ _ _ hx (by simp)]
   exact mD hc ro N b _ _ _ h ho
  | _=>rw [mD hc ro N a _ _ _ hx (by simp)];rw [hx] at h;exact h
 | .cond c a b,env,s,o,h,ho=>by
  simp only [aW,ak] at h ⊢
  unfold Y0
  split at h
  ·rename_i hx;rw [hx];simpa using mD hc ro N a _ _ _ h ho
  ·rename_i hx;rw [hx];simpa using mD hc ro N b _ _ _ h ho
  ·exact absurd h.symm ho
 | .block id b,env,s,o,h,ho=>by
  simp only [aW,ak] at h ⊢
  cases hx:aW glob call cx ro N b env s with
  | fail=>rw [hx] at h;exact absurd h.symm ho
  | _=>rw [mD hc ro N b _ _ _ hx (by simp)];rw [hx] at h;exact h
 | .loop keep b,env,s,o,h,ho=>by
  simp only [aW,ak] at h ⊢
  exact Ua (mD hc ro N b) N h ho
 | .range f ps asg body,env,s,o,h,ho=>by
  simp only [aW,ak] at h ⊢
  split at h
  ·exact absurd h.symm ho
  ·rename_i hro
   simp only [hro]
   unfold GR
   split at h
   ·rename_i ff as cs hx
    rw [hx]
    cases hy:call (.fn ff as cs) [.yl (s.length+1)] (s++[.dfr,.loop (oL env) ps asg body .ready]) cx with
    | fail=>rw [hy] at h;exact absurd h.symm ho
    | _=>
     have:=hc _ _ _ _ _ hy (by simp)
     rw [hy] at h
     simpa [this] using h
   ·exact absurd h.symm ho
 | .label l,env,s,o,h,ho=>by simpa [aW,ak] using h
 | .goto l,env,s,o,h,ho=>by simpa [aW,ak] using h
 | .scope l keep a b,env,s,o,h,ho=>by
  simp only [aW,ak] at h ⊢
  cases hx:aW glob call cx ro N a env s with
  | fail=>rw [hx] at h;exact absurd h.symm ho
  | goto l' env' s'=>
   rw [hx] at h
   rw [mD hc ro N a _ _ _ hx (by simp)]
   simp only [Out.jmp] at h ⊢
   split at h
   ·rename_i hl;simp only [hl,if_true];exact Qe (mD hc ro N b) N h ho
   ·exact absurd h.symm ho
  | _=>rw [mD hc ro N a _ _ _ hx (by simp)];rw [hx] at h;exact h
theorem VQ (hc:BL call callW) {N:Nat} {fn:aP} {args:List AV} {s:St} {o:CO} (h:qO glob call N fn args s cx=o) (ho:o≠.fail):ah glob callW fn args s cx=o:=by
 unfold qO at h
 unfold ah
 split at h
 ·rename_i hnp
  simp only [hnp,if_true]
  cases hx:aW glob call ⟨if fn.pure then s.length else cx.lim,if fn.keep then cx.base else s.length⟩ fn.keep N fn.code (Ae args 0) s with
  | fail=>rw [hx] at h;exact absurd h.symm ho
  | _=>rw [mD hc _ N _ _ _ _ hx (by simp)];rw [hx] at h;exact h
 ·exact absurd h.symm ho
theorem V7 (hc:BL call callW) {N l:Nat} {args:List AV} {s:St} {o:CO} (h:wG glob call N l args s cx=o) (ho:o≠.fail):Gv glob callW l args s cx=o:=by
 unfold wG at h
 unfold Gv
 split at h
 ·rename_i env ps asg body hl
  rw [hl]
  simp only []
  split at h
  ·rename_i hcond
   simp only [hcond,and_self,if_true]
   cases hx:aW glob call cx true N asg (Aj env ps args) s with
   | norm env1 s1=>
    rw [mD hc true N _ _ _ _ hx (by simp)]
    rw [hx] at h
    unfold sO
    simp only [] at h ⊢
    split at h
    ·rename_i e1 p1 a1 b1 hl1
     rw [hl1]
     simp only []
     cases hy:aW glob call cx true N body env1 (s1.set l (.loop e1 p1 a1 b1 .busy)) with
     | fail=>rw [hy] at h;exact absurd h.symm ho
     | _=>rw [mD hc true N _ _ _ _ hy (by simp)];rw [hy] at h;exact h
    ·exact absurd h.symm ho
   | _=>rw [hx] at h;exact absurd h.symm ho
  ·exact absurd h.symm ho
 ·exact absurd h.symm ho
end
theorem VP {call callW qcall qcallW:AV→List AV→St→Ctx→CO} {cx:Ctx} (hc:BL call callW) (hq:BL qcall qcallW) {k:HiK} {args:List AV} {s:St} {o:CO} (h:iG call qcall k args s cx=o) (ho:o≠.fail):
  iG callW qcallW k args s cx=o:=by
 have h1:Lim call (fun _=>callW):=fun fv args s cx c h hne=>⟨0,fun _ _=>hc fv args s cx c h hne⟩
 have h2:Lim qcall (fun _=>qcallW):=fun fv args s cx c h hne=>⟨0,fun _ _=>hq fv args s cx c h hne⟩
 obtain ⟨n,hn⟩:=Jh h1 h2 h ho
 exact hn n (Nat.le_refl _)
theorem Il:∀(n:Nat) (A:pI),BL (eP A n) (aj A)
 | 0,A=>fun fv args s cx c h hne=>by simp only [eP] at h;exact absurd h.symm hne
 | n+1,A=>fun fv args s cx c h hne=>by
  have ih:=Il n A
  cases fv with
  | fn f as cs=>
   cases f with
   | func fid=>
    simp only [eP] at h
    split at h
    ·rename_i hh hin
     split at h
     ·rename_i r hr;rw [←h];exact Gs hin hr
     ·exact absurd h.symm hne
    ·rename_i hin
     split at h
     ·rename_i k hk;exact Io hin hk hne (VP ih (Il n A.quiet) h hne)
     ·rename_i hk
      split at h
      ·rename_i fn hfn;exact Ip hin hk hfn hne (VQ ih h hne)
      ·exact absurd h.symm hne
   | _=>simp only [eP] at h;exact absurd h.symm hne
  | yl l=>simp only [eP] at h;exact OT hne (V7 ih h hne)
  | _=>simp only [eP] at h;exact absurd h.symm hne
theorem xq (A:pI) (n:Nat):BL (eP A n) (aj A):=Il n A
end Go.Ai
