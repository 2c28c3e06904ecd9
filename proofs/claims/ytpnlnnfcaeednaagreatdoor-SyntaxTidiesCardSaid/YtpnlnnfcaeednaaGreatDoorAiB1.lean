/-
 The interpreter in the limit: no fuel.
-/
import Derived.Test.YtpnlnnfcaeednaaGreatDoorAiA1
set_option maxRecDepth 100000
set_option linter.unusedSimpArgs false
set_option linter.unusedVariables false
set_option linter.unusedSectionVars false
namespace Go.Ai
noncomputable def OH {α:Type} (d:α) (h:Nat→α):α:=
 open Classical in if H:∃c,c≠d∧∃n,∀m,n≤m→h m=c then H.choose else d
theorem zD {α:Type} {d:α} {h:Nat→α} {c:α} {n:Nat} (hc:∀m,n≤m→h m=c):OH d h=c:=by
 unfold OH
 split
 ·rename_i H
  obtain ⟨_,n',hn'⟩:=H.choose_spec
  rw [←hn' (max n n') (Nat.le_max_right _ _),hc _ (Nat.le_max_left _ _)]
 ·rename_i H
  by_cases hd:c=d
  ·exact hd.symm
  ·exact absurd ⟨c,hd,n,hc⟩ H
theorem GU {α:Type} {d:α} {h:Nat→α} {c:α} (hl:OH d h=c) (hd:c≠d):∃n,∀m,n≤m→h m=c:=by
 unfold OH at hl
 split at hl
 ·rename_i H
  obtain ⟨_,n',hn'⟩:=H.choose_spec
  exact ⟨n',fun m hm=>(hn' m hm).trans hl⟩
 ·exact absurd hl.symm hd
theorem QG {α:Type} {d:α} {h g:Nat→α} (hs:∀n,h (n+1)=g n):OH d h=OH d g:=by
 by_cases hg:OH d g=d
 ·rw [hg]
  by_cases hh:OH d h=d
  ·exact hh
  ·obtain ⟨n,hn⟩:=GU rfl hh
   have:=zD (d:=d) (h:=g) (c:=OH d h) (n:=n) (fun m hm=>by rw [←hs];exact hn _ (by omega))
   rw [←this,hg]
 ·obtain ⟨n,hn⟩:=GU rfl hg
  exact zD (n:=n+1) (fun m hm=>by obtain ⟨k,rfl⟩:∃k,m=k+1:=⟨m - 1,by omega⟩;rw [hs];exact hn k (by omega))
def Out.thn (o:Out) (f:Env→St→Out):Out:=
 match o with
 | .norm env s=>f env s
 | o=>o
def Out.blk (id:Nat) (o:Out):Out:=
 match o with
 | .exit id' env s=>if id'=id then .norm env s else .exit id' env s
 | o=>o
def aeE (x:Option AV) (a b:Unit→Out):Out:=
 match x with
 | some (.b x)=>if x=true then a () else b ()
 | _=>.fail
noncomputable def fC (body:Env→St→Out) (keep:List Nat) (env:Env) (s:St):Out:=OH .fail (fun N=>wZ body keep N env s)
theorem J3 (body:Env→St→Out) (keep:List Nat) (env:Env) (s:St):fC body keep env s=(body (kC env keep) s).thn (fC body keep):=by
 unfold fC
 cases hb:body (kC env keep) s with
 | norm env' s'=>exact QG (fun n=>by simp [wZ,hb])
 | _=>exact zD (n:=1) (fun m hm=>by obtain ⟨k,rfl⟩:∃k,m=k+1:=⟨m - 1,by omega⟩;simp [wZ,hb,Out.thn])
noncomputable def Af (body:Env→St→Out) (l:Nat) (keep:List Nat) (env:Env) (s:St):Out:=OH .fail (fun N=>qQ body l keep N env s)
def Out.jmp (l:Nat) (o:Out) (f:Env→St→Out):Out:=
 match o with
 | .goto l' env s=>if l'=l then f env s else .fail
 | o=>o
theorem BX (body:Env→St→Out) (l:Nat) (keep:List Nat) (env:Env) (s:St):Af body l keep env s=(body (kC env keep) s).jmp l (Af body l keep):=by
 unfold Af
 cases hb:body (kC env keep) s with
 | goto l' env' s'=>
  by_cases hl:l'=l
  ·simp only [Out.jmp,hl,if_true]
   exact QG (fun n=>by simp [qQ,hb,hl])
  ·exact zD (n:=1) (fun m hm=>by obtain ⟨k,rfl⟩:∃k,m=k+1:=⟨m - 1,by omega⟩;simp [qQ,hb,Out.jmp,hl])
 | _=>exact zD (n:=1) (fun m hm=>by obtain ⟨k,rfl⟩:∃k,m=k+1:=⟨m - 1,by omega⟩;simp [qQ,hb,Out.jmp])
section
variable (glob:Nat→Option (List AV))
def I7 (x:Option AV) (call:AV→List AV→St→Ctx→CO) (cx:Ctx) (ps:List Nat) (asg body:aS) (env:Env) (s:St):Out:=
 match x with
 | some (.fn ff as cs)=>match call (.fn ff as cs) [.yl (s.length+1)] (s++[.dfr,.loop (uj env) ps asg body .ready]) cx with
  | .ret _ s'=>FM env s' (s.length+1)
  | _=>.fail
 | _=>.fail
noncomputable def aB (call:AV→List AV→St→Ctx→CO) (cx:Ctx) (ro:Bool):aS→Env→St→Out
 | .skip,env,s=>.norm env s
 | .ret,env,s=>.ret env s
 | .exit id,env,s=>.exit id env s
 | .region ops ord keep,env,s=>(rY glob call cx ops env s ord).thn fun env s=>.norm (kC env keep) s
 | .seq a b,env,s=>(aB call cx ro a env s).thn (aB call cx ro b)
 | .cond c a b,env,s=>aeE (rd glob env c) (fun _=>aB call cx ro a env s) (fun _=>aB call cx ro b env s)
 | .block id b,env,s=>(aB call cx ro b env s).blk id
 | .loop keep b,env,s=>fC (aB call cx ro b) keep env s
 | .range f ps asg body,env,s=>if ro=true then .fail else I7 (rd glob env f) call cx ps asg body env s
 | .label _,env,s=>.norm env s
 | .goto l,env,s=>.goto l env s
 | .scope l keep a b,env,s=>(aB call cx ro a env s).jmp l (Af (aB call cx ro b) l keep)
def endW (pure keep:Bool) (s:St) (res:List RV) (o:Out):CO:=
 match o with
 | .norm env s1 | .ret env s1=>match vP glob env s1 res with
  | some rs=>finish pure keep s s1 (Fh rs)
  | none=>.fail
 | .pan v s1=>(finish pure keep s s1 v).toPan
 | _=>.fail
noncomputable def af (call:AV→List AV→St→Ctx→CO) (fn:dw) (args:List AV) (s:St) (cx:Ctx):CO:=
 if args.length=fn.np then
  endW glob fn.pure fn.keep s fn.res (aB glob call ⟨if fn.pure=true then s.length else cx.lim,if fn.keep=true then cx.base else s.length⟩ fn.keep fn.code (Fa args 0) s)
 else .fail
def KG (l:Nat) (o:Out):CO:=
 match o with
 | .norm _ s2=>sG s2 l .ready true
 | .ret _ s2=>sG s2 l .ret false
 | .exit id _ s2=>sG s2 l (.exit id) false
 | _=>.fail
noncomputable def yw (call:AV→List AV→St→Ctx→CO) (cx:Ctx) (body:aS) (l:Nat) (o:Out):CO:=
 match o with
 | .norm env1 s1=>match s1[l]? with
  | some (.loop e1 p1 a1 b1 .ready)=>KG l (aB glob call cx true body env1 (s1.set l (.loop e1 p1 a1 b1 .busy)))
  | _=>.fail
 | _=>.fail
noncomputable def IJ (call:AV→List AV→St→Ctx→CO) (l:Nat) (args:List AV) (s:St) (cx:Ctx):CO:=
 match s[l]? with
 | some (.loop env ps asg body .ready)=>
  if ps.length=args.length∧cx.lim≤l then
   yw glob call cx body l (aB glob call cx true asg (Em env ps args) s)
  else .fail
 | _=>.fail
end
section
variable {glob:Nat→Option (List AV)} {callW:AV→List AV→St→Ctx→CO} {call:Nat→AV→List AV→St→Ctx→CO} {cx:Ctx}
def Lim (callW:AV→List AV→St→Ctx→CO) (call:Nat→AV→List AV→St→Ctx→CO):Prop:=
 ∀fv args s cx c,callW fv args s cx=c→c≠.fail→∃n,∀m,n≤m→call m fv args s cx=c
theorem RN (hc:Lim callW call) {env:Env} {s:St} {op:AOp} {o:RO} (h:aop glob callW cx env s op=o) (ho:o≠.fail):
  ∃n,∀m,n≤m→aop glob (call m) cx env s op=o:=by
 by_cases hcall:∃f as,op=.call f as∨op=.callp f as
 ·obtain ⟨f,as,hop⟩:=hcall
  have hcp:∀c:AV→List AV→St→Ctx→CO,aop glob c cx env s op=aop glob c cx env s (.call f as):=by rcases hop with rfl|rfl<;>exact fun _=>rfl
  simp only [hcp] at h ⊢
  clear hop hcp
  simp only [aop] at h ⊢
  split at h
  ·rename_i fv as' env' h1 h2
   cases hx:callW fv as' s cx with
   | fail=>rw [hx] at h;exact absurd h.symm ho
   | ret r s'=>
    obtain ⟨n,hn⟩:=hc _ _ _ _ _ hx (by simp)
    exact ⟨n,fun m hm=>by rw [hn m hm];rw [hx] at h;exact h⟩
   | pan r s'=>
    obtain ⟨n,hn⟩:=hc _ _ _ _ _ hx (by simp)
    exact ⟨n,fun m hm=>by rw [hn m hm];rw [hx] at h;exact h⟩
  ·exact absurd h.symm ho
 ·refine ⟨0,fun m _=>?_⟩
  rw [←h]
  cases op with
  | call f as=>exact absurd ⟨_,_,.inl rfl⟩ hcall
  | callp f as=>exact absurd ⟨_,_,.inr rfl⟩ hcall
  | len k x=>rcases k with _ | _ | _|k<;>rfl
  | _=>rfl
theorem IZ (hc:Lim callW call) {env:Env} {s:St} {p:aW} {o:Out} (h:jU glob callW cx p env s=o) (ho:o≠.fail):
  ∃n,∀m,n≤m→jU glob (call m) cx p env s=o:=by
 unfold jU at h ⊢
 split at h
 ·exact absurd h.symm ho
 ·exact ⟨0,fun m _=>h⟩
 ·cases hx:aop glob callW cx env s p.op with
  | fail=>rw [hx] at h;exact absurd h.symm ho
  | ok e env' s'=>
   obtain ⟨n,hn⟩:=RN hc hx (by simp)
   exact ⟨n,fun m hm=>by rw [hn m hm];rw [hx] at h;exact h⟩
  | pan v s'=>
   obtain ⟨n,hn⟩:=RN hc hx (by simp)
   exact ⟨n,fun m hm=>by rw [hn m hm];rw [hx] at h;exact h⟩
theorem Ns (hc:Lim callW call):∀(ops:List aW) {env:Env} {s:St} {o:Out},qC glob callW cx ops env s=o→o≠.fail→
  ∃n,∀m,n≤m→qC glob (call m) cx ops env s=o
 | [],env,s,o,h,ho=>⟨0,fun m _=>h⟩
 | p::r,env,s,o,h,ho=>by
  simp only [qC] at h ⊢
  cases hx:jU glob callW cx p env s with
  | fail=>rw [hx] at h;exact absurd h.symm ho
  | norm env' s'=>
   rw [hx] at h
   obtain ⟨n,hn⟩:=IZ hc hx (by simp)
   obtain ⟨n',hn'⟩:=Ns hc r h ho
   exact ⟨max n n',fun m hm=>by rw [hn m (by omega)];exact hn' m (by omega)⟩
  | _=>
   obtain ⟨n,hn⟩:=IZ hc hx (by simp)
   exact ⟨n,fun m hm=>by rw [hn m hm];rw [hx] at h;exact h⟩
theorem aaC (hc:Lim callW call) {env:Env} {s:St} {p:aW} {e:EV} (h:xu glob callW p env s=some e):
  ∃n,∀m,n≤m→xu glob (call m) p env s=some e:=by
 unfold xu at h ⊢
 split at h
 ·cases h
 ·exact ⟨0,fun m _=>h⟩
 ·split at h
  ·rename_i hq
   simp only [hq,if_true]
   cases hx:aop glob callW ⟨s.length,s.length⟩ env s p.op with
   | fail=>rw [hx] at h;cases h
   | ok e env' s'=>
    obtain ⟨n,hn⟩:=RN hc hx (by simp)
    exact ⟨n,fun m hm=>by rw [hn m hm];rw [hx] at h;exact h⟩
   | pan v s'=>rw [hx] at h;cases h
  ·cases h
theorem Tz (hc:Lim callW call) {env:Env} {s:St} {p:aW} {o:Out} (h:kW glob callW cx p env s=o) (ho:o≠.fail):
  ∃n,∀m,n≤m→kW glob (call m) cx p env s=o:=by
 unfold kW at h ⊢
 split at h
 ·rename_i hq
  simp only [hq,if_true]
  unfold zq at h ⊢
  cases hx:xu glob callW p env s with
  | none=>rw [hx] at h;exact absurd h.symm ho
  | some e=>
   obtain ⟨n,hn⟩:=aaC hc hx
   exact ⟨n,fun m hm=>by rw [hn m hm];rw [hx] at h;exact h⟩
 ·rename_i hq
  simp only [hq]
  exact IZ hc h ho
theorem JI (hc:Lim callW call) (aops:List aW):∀(l:List Nat) {env:Env} {s:St} {o:Out},kU glob callW cx aops l env s=o→o≠.fail→
  ∃n,∀m,n≤m→kU glob (call m) cx aops l env s=o
 | [],env,s,o,h,ho=>⟨0,fun m _=>h⟩
 | i::r,env,s,o,h,ho=>by
  simp only [kU] at h ⊢
  split at h
  ·exact absurd h.symm ho
  ·rename_i p hp
   cases hx:kW glob callW cx p env s with
   | fail=>rw [hx] at h;exact absurd h.symm ho
   | norm env' s'=>
    rw [hx] at h
    obtain ⟨n,hn⟩:=Tz hc hx (by simp)
    obtain ⟨n',hn'⟩:=JI hc aops r h ho
    exact ⟨max n n',fun m hm=>by rw [hn m (by omega)];exact hn' m (by omega)⟩
   | _=>
    obtain ⟨n,hn⟩:=Tz hc hx (by simp)
    exact ⟨n,fun m hm=>by rw [hn m hm];rw [hx] at h;exact h⟩
theorem Nq (hc:Lim callW call) {ops:List aW} {ord:Option (List Nat×List Nat)} {env:Env} {s:St} {o:Out} (h:rY glob callW cx ops env s ord=o) (ho:o≠.fail):
  ∃n,∀m,n≤m→rY glob (call m) cx ops env s ord=o:=by
 cases ord with
 | none=>exact Ns hc ops h ho
 | some p=>
  simp only [rY] at h ⊢
  cases hx:kU glob callW cx ops p.1 (Lm env p.2) s with
  | fail=>rw [hx] at h;exact absurd h.symm ho
  | _=>
   obtain ⟨n,hn⟩:=JI hc ops p.1 hx (by simp)
   exact ⟨n,fun m hm=>by rw [hn m hm];rw [hx] at h;exact h⟩
theorem TS {yw:Env→St→Out} {body:Nat→Env→St→Out} {keep:List Nat} (hb:∀env s o,yw env s=o→o≠.fail→∃n,∀m,n≤m→body m env s=o):
  ∀(N0:Nat) {env:Env} {s:St} {o:Out},wZ yw keep N0 env s=o→o≠.fail→∃n,∀m,n≤m→∀N,N0≤N→wZ (body m) keep N env s=o
 | 0,env,s,o,h,ho=>absurd h.symm ho
 | N0+1,env,s,o,h,ho=>by
  simp only [wZ] at h
  cases hx:yw (kC env keep) s with
  | fail=>rw [hx] at h;exact absurd h.symm ho
  | norm env' s'=>
   rw [hx] at h
   obtain ⟨n,hn⟩:=hb _ _ _ hx (by simp)
   obtain ⟨n',hn'⟩:=TS hb N0 h ho
   refine ⟨max n n',fun m hm N hN=>?_⟩
   obtain ⟨k,rfl⟩:∃k,N=k+1:=⟨N - 1,by omega⟩
   simp only [wZ]
   rw [hn m (by omega)];exact hn' m (by omega) k (by omega)
  | _=>
   obtain ⟨n,hn⟩:=hb _ _ _ hx (by simp)
   refine ⟨n,fun m hm N hN=>?_⟩
   obtain ⟨k,rfl⟩:∃k,N=k+1:=⟨N - 1,by omega⟩
   simp only [wZ]
   rw [hn m hm];rw [hx] at h;exact h
theorem PX {yw:Env→St→Out} {body:Nat→Env→St→Out} {l:Nat} {keep:List Nat} (hb:∀env s o,yw env s=o→o≠.fail→∃n,∀m,n≤m→body m env s=o):
  ∀(N0:Nat) {env:Env} {s:St} {o:Out},qQ yw l keep N0 env s=o→o≠.fail→∃n,∀m,n≤m→∀N,N0≤N→qQ (body m) l keep N env s=o
 | 0,env,s,o,h,ho=>absurd h.symm ho
 | N0+1,env,s,o,h,ho=>by
  simp only [qQ] at h
  cases hx:yw (kC env keep) s with
  | fail=>rw [hx] at h;exact absurd h.symm ho
  | goto l' env' s'=>
   rw [hx] at h
   simp only [] at h
   split at h
   ·rename_i hl
    obtain ⟨n,hn⟩:=hb _ _ _ hx (by simp)
    obtain ⟨n',hn'⟩:=PX hb N0 h ho
    refine ⟨max n n',fun m hm N hN=>?_⟩
    obtain ⟨k,rfl⟩:∃k,N=k+1:=⟨N - 1,by omega⟩
    simp only [qQ]
    rw [hn m (by omega)]
    simp only [hl,if_true]
    exact hn' m (by omega) k (by omega)
   ·exact absurd h.symm ho
  | _=>
   obtain ⟨n,hn⟩:=hb _ _ _ hx (by simp)
   refine ⟨n,fun m hm N hN=>?_⟩
   obtain ⟨k,rfl⟩:∃k,N=k+1:=⟨N - 1,by omega⟩
   simp only [qQ]
   rw [hn m hm];rw [hx] at h;exact h
theorem mr (hc:Lim callW call) (ro:Bool):∀(c:aS) (env:Env) (s:St) (o:Out),aB glob callW cx ro c env s=o→o≠.fail→
  ∃n,∀m,n≤m→dJ glob (call m) cx ro m c env s=o
 | .skip,env,s,o,h,ho=>⟨0,fun m _=>by simpa [dJ,aB] using h⟩
 | .ret,env,s,o,h,ho=>⟨0,fun m _=>by simpa [dJ,aB] using h⟩
 | .exit id,env,s,o,h,ho=>⟨0,fun m _=>by simpa [dJ,aB] using h⟩
 | .region ops ord keep,env,s,o,h,ho=>by
  simp only [dJ,aB] at h ⊢
  cases hx:rY glob callW cx ops env s ord with
  | fail=>rw [hx] at h;exact absurd h.symm ho
  | _=>
   obtain ⟨n,hn⟩:=Nq hc hx (by simp)
   exact ⟨n,fun m hm=>by rw [hn m hm];rw [hx] at h;exact h⟩
 | .seq a b,env,s,o,h,ho=>by
  simp only [dJ,aB] at h ⊢
  cases hx:aB glob callW cx ro a env s with
  | fail=>rw [hx] at h;exact absurd h.symm ho
  | norm env' s'=>
   rw [hx] at h
   obtain ⟨n,hn⟩:=mr hc ro a _ _ _ hx (by simp)
   obtain ⟨n',hn'⟩:=mr hc ro b _ _ _ h ho
   exact ⟨max n n',fun m hm=>by rw [hn m (by omega)];exact hn' m (by omega)⟩
  | _=>
   obtain ⟨n,hn⟩:=mr hc ro a _ _ _ hx (by simp)
   exact ⟨n,fun m hm=>by rw [hn m hm];rw [hx] at h;exact h⟩
 | .cond c a b,env,s,o,h,ho=>by
  simp only [dJ,aB] at h ⊢
  unfold aeE at h
  split at h
  ·rename_i x hx
   rw [hx]
   cases x with
   | true=>exact mr hc ro a _ _ _ (by simpa using h) ho
   | false=>exact mr hc ro b _ _ _ (by simpa using h) ho
  ·exact absurd h.symm ho
 | .block id b,env,s,o,h,ho=>by
  simp only [dJ,aB] at h ⊢
  cases hx:aB glob callW cx ro b env s with
  | fail=>rw [hx] at h;exact absurd h.symm ho
  | _=>
   obtain ⟨n,hn⟩:=mr hc ro b _ _ _ hx (by simp)
   exact ⟨n,fun m hm=>by rw [hn m hm];rw [hx] at h;exact h⟩
 | .loop keep b,env,s,o,h,ho=>by
  simp only [dJ,aB] at h ⊢
  obtain ⟨N0,hN⟩:=GU h ho
  obtain ⟨n,hn⟩:=TS (body:=fun m=>dJ glob (call m) cx ro m b) (mr hc ro b) N0 (hN N0 (Nat.le_refl _)) ho
  exact ⟨max n N0,fun m hm=>hn m (by omega) m (by omega)⟩
 | .range f ps asg body,env,s,o,h,ho=>by
  simp only [dJ,aB] at h ⊢
  split at h
  ·exact absurd h.symm ho
  ·rename_i hro
   simp only [hro]
   unfold I7 at h
   split at h
   ·rename_i ff as cs hx
    rw [hx]
    simp only []
    cases hy:callW (.fn ff as cs) [.yl (s.length+1)] (s++[.dfr,.loop (uj env) ps asg body .ready]) cx with
    | fail=>rw [hy] at h;exact absurd h.symm ho
    | _=>
     obtain ⟨n,hn⟩:=hc _ _ _ _ _ hy (by simp)
     exact ⟨n,fun m hm=>by rw [hn m hm];rw [hy] at h;exact h⟩
   ·exact absurd h.symm ho
 | .label l,env,s,o,h,ho=>⟨0,fun m _=>by simpa [dJ,aB] using h⟩
 | .goto l,env,s,o,h,ho=>⟨0,fun m _=>by simpa [dJ,aB] using h⟩
 | .scope l keep a b,env,s,o,h,ho=>by
  simp only [dJ,aB] at h ⊢
  cases hx:aB glob callW cx ro a env s with
  | fail=>rw [hx] at h;exact absurd h.symm ho
  | goto l' env' s'=>
   rw [hx] at h
   simp only [Out.jmp] at h
   split at h
   ·rename_i hl
    obtain ⟨n,hn⟩:=mr hc ro a _ _ _ hx (by simp)
    obtain ⟨N0,hN⟩:=GU h ho
    obtain ⟨n',hn'⟩:=PX (body:=fun m=>dJ glob (call m) cx ro m b) (mr hc ro b) N0 (hN N0 (Nat.le_refl _)) ho
    exact ⟨max n (max n' N0),fun m hm=>by rw [hn m (by omega)];simp only [hl,if_true];exact hn' m (by omega) m (by omega)⟩
   ·exact absurd h.symm ho
  | _=>
   obtain ⟨n,hn⟩:=mr hc ro a _ _ _ hx (by simp)
   exact ⟨n,fun m hm=>by rw [hn m hm];rw [hx] at h;exact h⟩
theorem XP (hc:Lim callW call) {fn:dw} {args:List AV} {s:St} {o:CO} (h:af glob callW fn args s cx=o) (ho:o≠.fail):
  ∃n,∀m,n≤m→wP glob (call m) m fn args s cx=o:=by
 unfold af at h
 unfold wP
 split at h
 ·rename_i hnp
  simp only [hnp,if_true]
  cases hx:aB glob callW ⟨if fn.pure=true then s.length else cx.lim,if fn.keep=true then cx.base else s.length⟩ fn.keep fn.code (Fa args 0) s with
  | fail=>rw [hx] at h;exact absurd h.symm ho
  | _=>
   obtain ⟨n,hn⟩:=mr hc _ _ _ _ _ hx (by simp)
   exact ⟨n,fun m hm=>by rw [hn m hm];rw [hx] at h;exact h⟩
 ·exact absurd h.symm ho
theorem X9 (hc:Lim callW call) {l:Nat} {args:List AV} {s:St} {o:CO} (h:IJ glob callW l args s cx=o) (ho:o≠.fail):
  ∃n,∀m,n≤m→Aa glob (call m) m l args s cx=o:=by
 unfold IJ at h
 unfold Aa
 split at h
 ·rename_i env ps asg body hl
  rw [hl]
  simp only []
  split at h
  ·rename_i hcond
   simp only [hcond,and_self,if_true]
   cases hx:aB glob callW cx true asg (Em env ps args) s with
   | norm env1 s1=>
    obtain ⟨n,hn⟩:=mr hc true _ _ _ _ hx (by simp)
    rw [hx] at h
    unfold yw at h
    simp only [] at h
    split at h
    ·rename_i e1 p1 a1 b1 hl1
     cases hy:aB glob callW cx true body env1 (s1.set l (.loop e1 p1 a1 b1 .busy)) with
     | fail=>rw [hy] at h;exact absurd h.symm ho
     | _=>
      obtain ⟨n',hn'⟩:=mr hc true _ _ _ _ hy (by simp)
      exact ⟨max n n',fun m hm=>by rw [hn m (by omega)];simp only [hl1];rw [hn' m (by omega)];rw [hy] at h;exact h⟩
    ·exact absurd h.symm ho
   | _=>rw [hx] at h;exact absurd h.symm ho
  ·exact absurd h.symm ho
 ·exact absurd h.symm ho
end
theorem QB {α β:Type} {f:α→Option β} {g:Nat→α→Option β}:∀(l:List α) {r:List β},(∀x∈l,∀y,f x=some y→∃n,∀m,n≤m→g m x=some y)→l.mapM f=some r→∃n,∀m,n≤m→l.mapM (g m)=some r
 | [],r,_,h=>⟨0,fun m _=>by simpa using h⟩
 | x::l,r,hf,h=>by
  simp only [List.mapM_cons,Option.bind_eq_bind,Option.pure_def] at h ⊢
  cases hx:f x with
  | none=>simp [hx] at h
  | some y=>
   cases hl:l.mapM f with
   | none=>simp [hx,hl] at h
   | some ys=>
    simp [hx,hl] at h
    subst h
    obtain ⟨n,hn⟩:=hf x (by simp) y hx
    obtain ⟨n',hn'⟩:=QB l (fun z hz=>hf z (by simp [hz])) hl
    exact ⟨max n n',fun m hm=>by rw [hn m (by omega),hn' m (by omega)];rfl⟩
theorem abn {callW:AV→List AV→St→Ctx→CO} {call:Nat→AV→List AV→St→Ctx→CO} (hc:Lim callW call) {g:Nat} {x y:AV} {r:Int} (h:SQ callW g x y=some r):
  ∃n,∀m,n≤m→SQ (call m) g x y=some r:=by
 unfold SQ at h ⊢
 cases hx:callW (.fn (.func g) [] []) [x,y] [] ⟨0,0⟩ with
 | fail=>rw [hx] at h;cases h
 | pan v s=>rw [hx] at h;cases h
 | ret v s=>
  obtain ⟨n,hn⟩:=hc _ _ _ _ _ hx (by simp)
  exact ⟨n,fun m hm=>by rw [hn m hm];rw [hx] at h;exact h⟩
theorem XK {callW:AV→List AV→St→Ctx→CO} {call:Nat→AV→List AV→St→Ctx→CO} (hc:Lim callW call) {g:Nat} {es:List AV} {tab:List (List Int)} (h:MK callW g es=some tab):
  ∃n,∀m,n≤m→MK (call m) g es=some tab:=
 QB (g:=fun m x=>es.mapM fun y=>SQ (call m) g x y) es (fun _ _ _ hx=>QB (g:=fun m y=>SQ (call m) g _ y) es (fun _ _ _ hy=>abn hc hy) hx) h
theorem Oe {callW qcallW:AV→List AV→St→Ctx→CO} {call qcall:Nat→AV→List AV→St→Ctx→CO} {cx:Ctx} (hc:Lim callW call) (hq:Lim qcallW qcall) {k:HiK} {args:List AV} {s:St} {o:CO}
  (h:mg callW qcallW k args s cx=o) (ho:o≠.fail):∃n,∀m,n≤m→mg (call m) (qcall m) k args s cx=o:=by
 unfold mg at h
 split at h
 ·rename_i r f as cs
  cases hx:callW (.fn (.func f) as cs) [] s cx with
  | ret r1 s1=>
   obtain ⟨n,hn⟩:=hc _ _ _ _ _ hx (by simp)
   exact ⟨n,fun m hm=>by simp only [mg,hn m hm];rw [hx] at h;exact h⟩
  | pan r1 s1=>
   obtain ⟨n,hn⟩:=hc _ _ _ _ _ hx (by simp)
   exact ⟨n,fun m hm=>by simp only [mg,hn m hm];rw [hx] at h;exact h⟩
  | fail=>rw [hx] at h;exact absurd h.symm ho
 ·exact ⟨0,fun m _=>by simpa [mg] using h⟩
 ·rename_i k0 l ver sz o m g
  split at h
  ·exact ⟨0,fun m _=>by simpa [mg] using h⟩
  ·rename_i n t sz' ver' cs hl
   split at h
   ·rename_i hcond
    cases hx:MK qcallW g (chunk sz (n+1) (cs.drop o)) with
    | none=>rw [hx] at h;exact absurd h.symm ho
    | some tab=>
     obtain ⟨n1,hn⟩:=XK hq hx
     exact ⟨n1,fun m hm=>by simp only [mg,hl];rw [if_pos hcond,hn m hm];rw [hx] at h;exact h⟩
   ·exact absurd h.symm ho
  ·exact absurd h.symm ho
 ·exact absurd h.symm ho
noncomputable def ah (A:uJ) (fv:AV) (args:List AV) (s:St) (cx:Ctx):CO:=OH .fail fun n=>jK A n fv args s cx
theorem Eh (A:uJ):Lim (ah A) (jK A):=fun fv args s cx c h hc=>GU h hc
theorem MS {A:uJ} {f:Nat} {fn:dw} (hi:A.intr f=none) (hh:A.hi f=none) (hf:A.fns f=some fn) {as cs args:List AV} {s:St} {cx:Ctx} {o:CO} (ho:o≠.fail)
  (h:af A.glob (ah A) fn (as++args++cs) s cx=o):ah A (.fn (.func f) as cs) args s cx=o:=by
 obtain ⟨n,hn⟩:=XP (Eh A) h ho
 exact zD (n:=n+1) (fun m hm=>by obtain ⟨k,rfl⟩:∃k,m=k+1:=⟨m - 1,by omega⟩;simp only [jK,hi,hh,hf];exact hn k (by omega))
theorem zZ {A:uJ} {f:Nat} {k:HiK} (hi:A.intr f=none) (hf:A.hi f=some k) {as cs args:List AV} {s:St} {cx:Ctx} {o:CO} (ho:o≠.fail)
  (h:mg (ah A) (ah A.quiet) k (as++args++cs) s cx=o):ah A (.fn (.func f) as cs) args s cx=o:=by
 obtain ⟨n,hn⟩:=Oe (Eh A) (Eh A.quiet) h ho
 exact zD (n:=n+1) (fun m hm=>by obtain ⟨k,rfl⟩:∃k,m=k+1:=⟨m - 1,by omega⟩;simp only [jK,hi,hf];exact hn k (by omega))
theorem xO {A:uJ} {f:Nat} {h:List AV→St→Option AV} (hi:A.intr f=some h) {as cs args:List AV} {s:St} {cx:Ctx} {r:AV} (hr:h (as++args++cs) s=some r):
  ah A (.fn (.func f) as cs) args s cx=.ret r s:=
 zD (n:=1) (fun m hm=>by obtain ⟨k,rfl⟩:∃k,m=k+1:=⟨m - 1,by omega⟩;simp only [jK,hi,hr])
theorem MR {A:uJ} {l:Nat} {args:List AV} {s:St} {cx:Ctx} {o:CO} (ho:o≠.fail) (h:IJ A.glob (ah A) l args s cx=o):ah A (.yl l) args s cx=o:=by
 obtain ⟨n,hn⟩:=X9 (Eh A) h ho
 exact zD (n:=n+1) (fun m hm=>by obtain ⟨k,rfl⟩:∃k,m=k+1:=⟨m - 1,by omega⟩;simp only [jK];exact hn k (by omega))
theorem Zk {A:uJ} {fv:AV} {args:List AV} {s s':St} {cx:Ctx} {r:AV} (h:ah A fv args s cx=.ret r s'):∃n,jK A n fv args s cx=.ret r s':=by
 obtain ⟨n,hn⟩:=GU h (by simp)
 exact ⟨n,hn n (Nat.le_refl _)⟩
end Go.Ai
namespace Go.Ai
section
variable {glob:Nat→Option (List AV)} {call callW:AV→List AV→St→Ctx→CO} {cx:Ctx}
def Gy (call callW:AV→List AV→St→Ctx→CO):Prop:=∀fv args s cx c,call fv args s cx=c→c≠.fail→callW fv args s cx=c
theorem aaw (hc:Gy call callW) {ops:List aW} {ord:Option (List Nat×List Nat)} {env:Env} {s:St} {o:Out} (h:rY glob call cx ops env s ord=o) (ho:o≠.fail):
  rY glob callW cx ops env s ord=o:=by
 have:Lim call (fun _=>callW):=fun fv args s cx c h hne=>⟨0,fun _ _=>hc fv args s cx c h hne⟩
 obtain ⟨n,hn⟩:=Nq this h ho
 exact hn n (Nat.le_refl _)
theorem ZL {body yw:Env→St→Out} {keep:List Nat} (hb:∀env s o,body env s=o→o≠.fail→yw env s=o):
  ∀(N:Nat) {env:Env} {s:St} {o:Out},wZ body keep N env s=o→o≠.fail→fC yw keep env s=o
 | 0,env,s,o,h,ho=>absurd h.symm ho
 | N+1,env,s,o,h,ho=>by
  simp only [wZ] at h
  rw [J3]
  cases hx:body (kC env keep) s with
  | fail=>rw [hx] at h;exact absurd h.symm ho
  | norm env' s'=>
   rw [hx] at h
   rw [hb _ _ _ hx (by simp)]
   exact ZL hb N h ho
  | _=>rw [hb _ _ _ hx (by simp)];rw [hx] at h;exact h
theorem WE {body yw:Env→St→Out} {l:Nat} {keep:List Nat} (hb:∀env s o,body env s=o→o≠.fail→yw env s=o):
  ∀(N:Nat) {env:Env} {s:St} {o:Out},qQ body l keep N env s=o→o≠.fail→Af yw l keep env s=o
 | 0,env,s,o,h,ho=>absurd h.symm ho
 | N+1,env,s,o,h,ho=>by
  simp only [qQ] at h
  rw [BX]
  cases hx:body (kC env keep) s with
  | fail=>rw [hx] at h;exact absurd h.symm ho
  | goto l' env' s'=>
   rw [hx] at h
   rw [hb _ _ _ hx (by simp)]
   simp only [Out.jmp] at h ⊢
   split at h
   ·rename_i hl;simp only [hl,if_true];exact WE hb N h ho
   ·exact absurd h.symm ho
  | _=>rw [hb _ _ _ hx (by simp)];rw [hx] at h;exact h
theorem qy (hc:Gy call callW) (ro:Bool) (N:Nat):∀(c:aS) (env:Env) (s:St) (o:Out),dJ glob call cx ro N c env s=o→o≠.fail→aB glob callW cx ro c env s=o
 | .skip,env,s,o,h,ho=>by simpa [dJ,aB] using h
 | .ret,env,s,o,h,ho=>by simpa [dJ,aB] using h
 | .exit id,env,s,o,h,ho=>by simpa [dJ,aB] using h
 | .region ops ord keep,env,s,o,h,ho=>by
  simp only [dJ,aB] at h ⊢
  cases hx:rY glob call cx ops env s ord with
  | fail=>rw [hx] at h;exact absurd h.symm ho
  | _=>rw [aaw hc hx (by simp)];rw [hx] at h;exact h
 | .seq a b,env,s,o,h,ho=>by
  simp only [dJ,aB] at h ⊢
  cases hx:dJ glob call cx ro N a env s with
  | fail=>rw [hx] at h;exact absurd h.symm ho
  | norm env' s'=>
   rw [hx] at h
   rw [qy hc ro N a _ _ _ hx (by simp)]
   exact qy hc ro N b _ _ _ h ho
  | _=>rw [qy hc ro N a _ _ _ hx (by simp)];rw [hx] at h;exact h
 | .cond c a b,env,s,o,h,ho=>by
  simp only [dJ,aB] at h ⊢
  unfold aeE
  split at h
  ·rename_i hx;rw [hx];simpa using qy hc ro N a _ _ _ h ho
  ·rename_i hx;rw [hx];simpa using qy hc ro N b _ _ _ h ho
  ·exact absurd h.symm ho
 | .block id b,env,s,o,h,ho=>by
  simp only [dJ,aB] at h ⊢
  cases hx:dJ glob call cx ro N b env s with
  | fail=>rw [hx] at h;exact absurd h.symm ho
  | _=>rw [qy hc ro N b _ _ _ hx (by simp)];rw [hx] at h;exact h
 | .loop keep b,env,s,o,h,ho=>by
  simp only [dJ,aB] at h ⊢
  exact ZL (qy hc ro N b) N h ho
 | .range f ps asg body,env,s,o,h,ho=>by
  simp only [dJ,aB] at h ⊢
  split at h
  ·exact absurd h.symm ho
  ·rename_i hro
   simp only [hro]
   unfold I7
   split at h
   ·rename_i ff as cs hx
    rw [hx]
    cases hy:call (.fn ff as cs) [.yl (s.length+1)] (s++[.dfr,.loop (uj env) ps asg body .ready]) cx with
    | fail=>rw [hy] at h;exact absurd h.symm ho
    | _=>
     have:=hc _ _ _ _ _ hy (by simp)
     rw [hy] at h
     simpa [this] using h
   ·exact absurd h.symm ho
 | .label l,env,s,o,h,ho=>by simpa [dJ,aB] using h
 | .goto l,env,s,o,h,ho=>by simpa [dJ,aB] using h
 | .scope l keep a b,env,s,o,h,ho=>by
  simp only [dJ,aB] at h ⊢
  cases hx:dJ glob call cx ro N a env s with
  | fail=>rw [hx] at h;exact absurd h.symm ho
  | goto l' env' s'=>
   rw [hx] at h
   rw [qy hc ro N a _ _ _ hx (by simp)]
   simp only [Out.jmp] at h ⊢
   split at h
   ·rename_i hl;simp only [hl,if_true];exact WE (qy hc ro N b) N h ho
   ·exact absurd h.symm ho
  | _=>rw [qy hc ro N a _ _ _ hx (by simp)];rw [hx] at h;exact h
theorem abq (hc:Gy call callW) {N:Nat} {fn:dw} {args:List AV} {s:St} {o:CO} (h:wP glob call N fn args s cx=o) (ho:o≠.fail):af glob callW fn args s cx=o:=by
 unfold wP at h
 unfold af
 split at h
 ·rename_i hnp
  simp only [hnp,if_true]
  cases hx:dJ glob call ⟨if fn.pure then s.length else cx.lim,if fn.keep then cx.base else s.length⟩ fn.keep N fn.code (Fa args 0) s with
  | fail=>rw [hx] at h;exact absurd h.symm ho
  | _=>rw [qy hc _ N _ _ _ _ hx (by simp)];rw [hx] at h;exact h
 ·exact absurd h.symm ho
theorem abI (hc:Gy call callW) {N l:Nat} {args:List AV} {s:St} {o:CO} (h:Aa glob call N l args s cx=o) (ho:o≠.fail):IJ glob callW l args s cx=o:=by
 unfold Aa at h
 unfold IJ
 split at h
 ·rename_i env ps asg body hl
  rw [hl]
  simp only []
  split at h
  ·rename_i hcond
   simp only [hcond,and_self,if_true]
   cases hx:dJ glob call cx true N asg (Em env ps args) s with
   | norm env1 s1=>
    rw [qy hc true N _ _ _ _ hx (by simp)]
    rw [hx] at h
    unfold yw
    simp only [] at h ⊢
    split at h
    ·rename_i e1 p1 a1 b1 hl1
     rw [hl1]
     simp only []
     cases hy:dJ glob call cx true N body env1 (s1.set l (.loop e1 p1 a1 b1 .busy)) with
     | fail=>rw [hy] at h;exact absurd h.symm ho
     | _=>rw [qy hc true N _ _ _ _ hy (by simp)];rw [hy] at h;exact h
    ·exact absurd h.symm ho
   | _=>rw [hx] at h;exact absurd h.symm ho
  ·exact absurd h.symm ho
 ·exact absurd h.symm ho
end
theorem abp {call callW qcall qcallW:AV→List AV→St→Ctx→CO} {cx:Ctx} (hc:Gy call callW) (hq:Gy qcall qcallW) {k:HiK} {args:List AV} {s:St} {o:CO} (h:mg call qcall k args s cx=o) (ho:o≠.fail):
  mg callW qcallW k args s cx=o:=by
 have h1:Lim call (fun _=>callW):=fun fv args s cx c h hne=>⟨0,fun _ _=>hc fv args s cx c h hne⟩
 have h2:Lim qcall (fun _=>qcallW):=fun fv args s cx c h hne=>⟨0,fun _ _=>hq fv args s cx c h hne⟩
 obtain ⟨n,hn⟩:=Oe h1 h2 h ho
 exact hn n (Nat.le_refl _)
theorem MQ:∀(n:Nat) (A:uJ),Gy (jK A n) (ah A)
 | 0,A=>fun fv args s cx c h hne=>by simp only [jK] at h;exact absurd h.symm hne
 | n+1,A=>fun fv args s cx c h hne=>by
  have ih:=MQ n A
  cases fv with
  | fn f as cs=>
   cases f with
   | func fid=>
    simp only [jK] at h
    split at h
    ·rename_i hh hin
     split at h
     ·rename_i r hr;rw [←h];exact xO hin hr
     ·exact absurd h.symm hne
    ·rename_i hin
     split at h
     ·rename_i k hk;exact zZ hin hk hne (abp ih (MQ n A.quiet) h hne)
     ·rename_i hk
      split at h
      ·rename_i fn hfn;exact MS hin hk hfn hne (abq ih h hne)
      ·exact absurd h.symm hne
   | _=>simp only [jK] at h;exact absurd h.symm hne
  | yl l=>simp only [jK] at h;exact MR hne (abI ih h hne)
  | _=>simp only [jK] at h;exact absurd h.symm hne
theorem X6 (A:uJ) (n:Nat):Gy (jK A n) (ah A):=MQ n A
end Go.Ai
