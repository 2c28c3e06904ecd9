/-
 The interpreter in the limit: no fuel.
-/
import Derived.Test.YtpnlnnfcaeednaaGreatDoorAiA1
set_option maxRecDepth 100000
set_option linter.unusedSimpArgs false
set_option linter.unusedVariables false
set_option linter.unusedSectionVars false
namespace Go.Ai
noncomputable def OJ {α:Type} (d:α) (h:Nat→α):α:=
 open Classical in if H:∃c,c≠d∧∃n,∀m,n≤m→h m=c then H.choose else d
theorem zG {α:Type} {d:α} {h:Nat→α} {c:α} {n:Nat} (hc:∀m,n≤m→h m=c):OJ d h=c:=by
 unfold OJ
 split
 ·rename_i H
  obtain ⟨_,n',hn'⟩:=H.choose_spec
  rw [←hn' (max n n') (Nat.le_max_right _ _),hc _ (Nat.le_max_left _ _)]
 ·rename_i H
  by_cases hd:c=d
  ·exact hd.symm
  ·exact absurd ⟨c,hd,n,hc⟩ H
theorem GI {α:Type} {d:α} {h:Nat→α} {c:α} (hl:OJ d h=c) (hd:c≠d):∃n,∀m,n≤m→h m=c:=by
 unfold OJ at hl
 split at hl
 ·rename_i H
  obtain ⟨_,n',hn'⟩:=H.choose_spec
  exact ⟨n',fun m hm=>(hn' m hm).trans hl⟩
 ·exact absurd hl.symm hd
theorem QT {α:Type} {d:α} {h g:Nat→α} (hs:∀n,h (n+1)=g n):OJ d h=OJ d g:=by
 by_cases hg:OJ d g=d
 ·rw [hg]
  by_cases hh:OJ d h=d
  ·exact hh
  ·obtain ⟨n,hn⟩:=GI rfl hh
   have:=zG (d:=d) (h:=g) (c:=OJ d h) (n:=n) (fun m hm=>by rw [←hs];exact hn _ (by omega))
   rw [←this,hg]
 ·obtain ⟨n,hn⟩:=GI rfl hg
  exact zG (n:=n+1) (fun m hm=>by obtain ⟨k,rfl⟩:∃k,m=k+1:=⟨m - 1,by omega⟩;rw [hs];exact hn k (by omega))
def Out.thn (o:Out) (f:Env→St→Out):Out:=
 match o with
 | .norm env s=>f env s
 | o=>o
def Out.blk (id:Nat) (o:Out):Out:=
 match o with
 | .exit id' env s=>if id'=id then .norm env s else .exit id' env s
 | o=>o
def aeT (x:Option AV) (a b:Unit→Out):Out:=
 match x with
 | some (.b x)=>if x=true then a () else b ()
 | _=>.fail
noncomputable def eX (body:Env→St→Out) (keep:List Nat) (env:Env) (s:St):Out:=OJ .fail (fun N=>xw body keep N env s)
theorem JU (body:Env→St→Out) (keep:List Nat) (env:Env) (s:St):eX body keep env s=(body (jY env keep) s).thn (eX body keep):=by
 unfold eX
 cases hb:body (jY env keep) s with
 | norm env' s'=>exact QT (fun n=>by simp [xw,hb])
 | _=>exact zG (n:=1) (fun m hm=>by obtain ⟨k,rfl⟩:∃k,m=k+1:=⟨m - 1,by omega⟩;simp [xw,hb,Out.thn])
noncomputable def Ah (body:Env→St→Out) (l:Nat) (keep:List Nat) (env:Env) (s:St):Out:=OJ .fail (fun N=>qW body l keep N env s)
def Out.jmp (l:Nat) (o:Out) (f:Env→St→Out):Out:=
 match o with
 | .goto l' env s=>if l'=l then f env s else .fail
 | o=>o
theorem BZ (body:Env→St→Out) (l:Nat) (keep:List Nat) (env:Env) (s:St):Ah body l keep env s=(body (jY env keep) s).jmp l (Ah body l keep):=by
 unfold Ah
 cases hb:body (jY env keep) s with
 | goto l' env' s'=>
  by_cases hl:l'=l
  ·simp only [Out.jmp,hl,if_true]
   exact QT (fun n=>by simp [qW,hb,hl])
  ·exact zG (n:=1) (fun m hm=>by obtain ⟨k,rfl⟩:∃k,m=k+1:=⟨m - 1,by omega⟩;simp [qW,hb,Out.jmp,hl])
 | _=>exact zG (n:=1) (fun m hm=>by obtain ⟨k,rfl⟩:∃k,m=k+1:=⟨m - 1,by omega⟩;simp [qW,hb,Out.jmp])
section
variable (glob:Nat→Option (List AV))
def Lm (x:Option AV) (call:AV→List AV→St→Ctx→CO) (cx:Ctx) (ps:List Nat) (asg body:aS) (env:Env) (s:St):Out:=
 match x with
 | some (.fn ff as cs)=>match call (.fn ff as cs) [.yl (s.length+1)] (s++[.dfr,.loop (uz env) ps asg body .ready]) cx with
  | .ret _ s'=>IY env s' (s.length+1)
  | _=>.fail
 | _=>.fail
noncomputable def aC (call:AV→List AV→St→Ctx→CO) (cx:Ctx) (ro:Bool):aS→Env→St→Out
 | .skip,env,s=>.norm env s
 | .ret,env,s=>.ret env s
 | .exit id,env,s=>.exit id env s
 | .region ops ord keep,env,s=>(sD glob call cx ops env s ord).thn fun env s=>.norm (jY env keep) s
 | .seq a b,env,s=>(aC call cx ro a env s).thn (aC call cx ro b)
 | .cond c a b,env,s=>aeT (rd glob env c) (fun _=>aC call cx ro a env s) (fun _=>aC call cx ro b env s)
 | .block id b,env,s=>(aC call cx ro b env s).blk id
 | .loop keep b,env,s=>eX (aC call cx ro b) keep env s
 | .range f ps asg body,env,s=>if ro=true then .fail else Lm (rd glob env f) call cx ps asg body env s
 | .label _,env,s=>.norm env s
 | .goto l,env,s=>.goto l env s
 | .scope l keep a b,env,s=>(aC call cx ro a env s).jmp l (Ah (aC call cx ro b) l keep)
def endW (pure keep:Bool) (s:St) (res:List RV) (o:Out):CO:=
 match o with
 | .norm env s1 | .ret env s1=>match vU glob env s1 res with
  | some rs=>finish pure keep s s1 (Fe rs)
  | none=>.fail
 | .pan v s1=>(finish pure keep s s1 v).toPan
 | _=>.fail
noncomputable def af (call:AV→List AV→St→Ctx→CO) (fn:dw) (args:List AV) (s:St) (cx:Ctx):CO:=
 if args.length=fn.np then
  endW glob fn.pure fn.keep s fn.res (aC glob call ⟨if fn.pure=true then s.length else cx.lim,if fn.keep=true then cx.base else s.length⟩ fn.keep fn.code (E5 args 0) s)
 else .fail
def KA (l:Nat) (o:Out):CO:=
 match o with
 | .norm _ s2=>ug s2 l .ready true
 | .ret _ s2=>ug s2 l .ret false
 | .exit id _ s2=>ug s2 l (.exit id) false
 | _=>.fail
noncomputable def yD (call:AV→List AV→St→Ctx→CO) (cx:Ctx) (body:aS) (l:Nat) (o:Out):CO:=
 match o with
 | .norm env1 s1=>match s1[l]? with
  | some (.loop e1 p1 a1 b1 .ready)=>KA l (aC glob call cx true body env1 (s1.set l (.loop e1 p1 a1 b1 .busy)))
  | _=>.fail
 | _=>.fail
noncomputable def KY (call:AV→List AV→St→Ctx→CO) (l:Nat) (args:List AV) (s:St) (cx:Ctx):CO:=
 match s[l]? with
 | some (.loop env ps asg body .ready)=>
  if ps.length=args.length∧cx.lim≤l then
   yD glob call cx body l (aC glob call cx true asg (Fj env ps args) s)
  else .fail
 | _=>.fail
end
section
variable {glob:Nat→Option (List AV)} {callW:AV→List AV→St→Ctx→CO} {call:Nat→AV→List AV→St→Ctx→CO} {cx:Ctx}
def Lim (callW:AV→List AV→St→Ctx→CO) (call:Nat→AV→List AV→St→Ctx→CO):Prop:=
 ∀fv args s cx c,callW fv args s cx=c→c≠.fail→∃n,∀m,n≤m→call m fv args s cx=c
theorem Sj (hc:Lim callW call) {env:Env} {s:St} {op:AOp} {o:RO} (h:aop glob callW cx env s op=o) (ho:o≠.fail):
  ∃n,∀m,n≤m→aop glob (call m) cx env s op=o:=by
 by_cases hcall:∃f as,op=.call f as∨op=.callp f as
 ·obtain ⟨f,as,hop⟩:=hcall
  have hcp:∀c:AV→List AV→St→Ctx→CO,aop glob c cx env s op=aop glob c cx env s (.call f as):=by rcases hop with rfl|rfl<;>exact fun _=>rfl
  simp only [hcp] at h ⊢
  clear hop hcp
  simp only [aop] at h ⊢
  split at h
  ·rename_i fv as' env' h1 h2
   cases hx:callW fv as' s cx with
   | fail=>rw [hx] at h;exact absurd h.symm ho
   | ret r s'=>
    obtain ⟨n,hn⟩:=hc _ _ _ _ _ hx (by simp)
    exact ⟨n,fun m hm=>by rw [hn m hm];rw [hx] at h;exact h⟩
   | pan r s'=>
    obtain ⟨n,hn⟩:=hc _ _ _ _ _ hx (by simp)
    exact ⟨n,fun m hm=>by rw [hn m hm];rw [hx] at h;exact h⟩
  ·exact absurd h.symm ho
 ·refine ⟨0,fun m _=>?_⟩
  rw [←h]
  cases op with
  | call f as=>exact absurd ⟨_,_,.inl rfl⟩ hcall
  | callp f as=>exact absurd ⟨_,_,.inr rfl⟩ hcall
  | len k x=>rcases k with _ | _ | _|k<;>rfl
  | _=>rfl
theorem IU (hc:Lim callW call) {env:Env} {s:St} {p:aX} {o:Out} (h:jT glob callW cx p env s=o) (ho:o≠.fail):
  ∃n,∀m,n≤m→jT glob (call m) cx p env s=o:=by
 unfold jT at h ⊢
 split at h
 ·exact absurd h.symm ho
 ·exact ⟨0,fun m _=>h⟩
 ·cases hx:aop glob callW cx env s p.op with
  | fail=>rw [hx] at h;exact absurd h.symm ho
  | ok e env' s'=>
   obtain ⟨n,hn⟩:=Sj hc hx (by simp)
   exact ⟨n,fun m hm=>by rw [hn m hm];rw [hx] at h;exact h⟩
  | pan v s'=>
   obtain ⟨n,hn⟩:=Sj hc hx (by simp)
   exact ⟨n,fun m hm=>by rw [hn m hm];rw [hx] at h;exact h⟩
theorem Ny (hc:Lim callW call):∀(ops:List aX) {env:Env} {s:St} {o:Out},qH glob callW cx ops env s=o→o≠.fail→
  ∃n,∀m,n≤m→qH glob (call m) cx ops env s=o
 | [],env,s,o,h,ho=>⟨0,fun m _=>h⟩
 | p::r,env,s,o,h,ho=>by
  simp only [qH] at h ⊢
  cases hx:jT glob callW cx p env s with
  | fail=>rw [hx] at h;exact absurd h.symm ho
  | norm env' s'=>
   rw [hx] at h
   obtain ⟨n,hn⟩:=IU hc hx (by simp)
   obtain ⟨n',hn'⟩:=Ny hc r h ho
   exact ⟨max n n',fun m hm=>by rw [hn m (by omega)];exact hn' m (by omega)⟩
  | _=>
   obtain ⟨n,hn⟩:=IU hc hx (by simp)
   exact ⟨n,fun m hm=>by rw [hn m hm];rw [hx] at h;exact h⟩
theorem aaX (hc:Lim callW call) {env:Env} {s:St} {p:aX} {e:EV} (h:xE glob callW p env s=some e):
  ∃n,∀m,n≤m→xE glob (call m) p env s=some e:=by
 unfold xE at h ⊢
 split at h
 ·cases h
 ·exact ⟨0,fun m _=>h⟩
 ·split at h
  ·rename_i hq
   simp only [hq,if_true]
   cases hx:aop glob callW ⟨s.length,s.length⟩ env s p.op with
   | fail=>rw [hx] at h;cases h
   | ok e env' s'=>
    obtain ⟨n,hn⟩:=Sj hc hx (by simp)
    exact ⟨n,fun m hm=>by rw [hn m hm];rw [hx] at h;exact h⟩
   | pan v s'=>rw [hx] at h;cases h
  ·cases h
theorem TR (hc:Lim callW call) {env:Env} {s:St} {p:aX} {o:Out} (h:kV glob callW cx p env s=o) (ho:o≠.fail):
  ∃n,∀m,n≤m→kV glob (call m) cx p env s=o:=by
 unfold kV at h ⊢
 split at h
 ·rename_i hq
  simp only [hq,if_true]
  unfold zB at h ⊢
  cases hx:xE glob callW p env s with
  | none=>rw [hx] at h;exact absurd h.symm ho
  | some e=>
   obtain ⟨n,hn⟩:=aaX hc hx
   exact ⟨n,fun m hm=>by rw [hn m hm];rw [hx] at h;exact h⟩
 ·rename_i hq
  simp only [hq]
  exact IU hc h ho
theorem JD (hc:Lim callW call) (aops:List aX):∀(l:List Nat) {env:Env} {s:St} {o:Out},kT glob callW cx aops l env s=o→o≠.fail→
  ∃n,∀m,n≤m→kT glob (call m) cx aops l env s=o
 | [],env,s,o,h,ho=>⟨0,fun m _=>h⟩
 | i::r,env,s,o,h,ho=>by
  simp only [kT] at h ⊢
  split at h
  ·exact absurd h.symm ho
  ·rename_i p hp
   cases hx:kV glob callW cx p env s with
   | fail=>rw [hx] at h;exact absurd h.symm ho
   | norm env' s'=>
    rw [hx] at h
    obtain ⟨n,hn⟩:=TR hc hx (by simp)
    obtain ⟨n',hn'⟩:=JD hc aops r h ho
    exact ⟨max n n',fun m hm=>by rw [hn m (by omega)];exact hn' m (by omega)⟩
   | _=>
    obtain ⟨n,hn⟩:=TR hc hx (by simp)
    exact ⟨n,fun m hm=>by rw [hn m hm];rw [hx] at h;exact h⟩
theorem Nv (hc:Lim callW call) {ops:List aX} {ord:Option (List Nat×List Nat)} {env:Env} {s:St} {o:Out} (h:sD glob callW cx ops env s ord=o) (ho:o≠.fail):
  ∃n,∀m,n≤m→sD glob (call m) cx ops env s ord=o:=by
 cases ord with
 | none=>exact Ny hc ops h ho
 | some p=>
  simp only [sD] at h ⊢
  cases hx:kT glob callW cx ops p.1 (Lh env p.2) s with
  | fail=>rw [hx] at h;exact absurd h.symm ho
  | _=>
   obtain ⟨n,hn⟩:=JD hc ops p.1 hx (by simp)
   exact ⟨n,fun m hm=>by rw [hn m hm];rw [hx] at h;exact h⟩
theorem Ui {yD:Env→St→Out} {body:Nat→Env→St→Out} {keep:List Nat} (hb:∀env s o,yD env s=o→o≠.fail→∃n,∀m,n≤m→body m env s=o):
  ∀(N0:Nat) {env:Env} {s:St} {o:Out},xw yD keep N0 env s=o→o≠.fail→∃n,∀m,n≤m→∀N,N0≤N→xw (body m) keep N env s=o
 | 0,env,s,o,h,ho=>absurd h.symm ho
 | N0+1,env,s,o,h,ho=>by
  simp only [xw] at h
  cases hx:yD (jY env keep) s with
  | fail=>rw [hx] at h;exact absurd h.symm ho
  | norm env' s'=>
   rw [hx] at h
   obtain ⟨n,hn⟩:=hb _ _ _ hx (by simp)
   obtain ⟨n',hn'⟩:=Ui hb N0 h ho
   refine ⟨max n n',fun m hm N hN=>?_⟩
   obtain ⟨k,rfl⟩:∃k,N=k+1:=⟨N - 1,by omega⟩
   simp only [xw]
   rw [hn m (by omega)];exact hn' m (by omega) k (by omega)
  | _=>
   obtain ⟨n,hn⟩:=hb _ _ _ hx (by simp)
   refine ⟨n,fun m hm N hN=>?_⟩
   obtain ⟨k,rfl⟩:∃k,N=k+1:=⟨N - 1,by omega⟩
   simp only [xw]
   rw [hn m hm];rw [hx] at h;exact h
theorem Qa {yD:Env→St→Out} {body:Nat→Env→St→Out} {l:Nat} {keep:List Nat} (hb:∀env s o,yD env s=o→o≠.fail→∃n,∀m,n≤m→body m env s=o):
  ∀(N0:Nat) {env:Env} {s:St} {o:Out},qW yD l keep N0 env s=o→o≠.fail→∃n,∀m,n≤m→∀N,N0≤N→qW (body m) l keep N env s=o
 | 0,env,s,o,h,ho=>absurd h.symm ho
 | N0+1,env,s,o,h,ho=>by
  simp only [qW] at h
  cases hx:yD (jY env keep) s with
  | fail=>rw [hx] at h;exact absurd h.symm ho
  | goto l' env' s'=>
   rw [hx] at h
   simp only [] at h
   split at h
   ·rename_i hl
    obtain ⟨n,hn⟩:=hb _ _ _ hx (by simp)
    obtain ⟨n',hn'⟩:=Qa hb N0 h ho
    refine ⟨max n n',fun m hm N hN=>?_⟩
    obtain ⟨k,rfl⟩:∃k,N=k+1:=⟨N - 1,by omega⟩
    simp only [qW]
    rw [hn m (by omega)]
    simp only [hl,if_true]
    exact hn' m (by omega) k (by omega)
   ·exact absurd h.symm ho
  | _=>
   obtain ⟨n,hn⟩:=hb _ _ _ hx (by simp)
   refine ⟨n,fun m hm N hN=>?_⟩
   obtain ⟨k,rfl⟩:∃k,N=k+1:=⟨N - 1,by omega⟩
   simp only [qW]
   rw [hn m hm];rw [hx] at h;exact h
theorem l9 (hc:Lim callW call) (ro:Bool):∀(c:aS) (env:Env) (s:St) (o:Out),aC glob callW cx ro c env s=o→o≠.fail→
  ∃n,∀m,n≤m→dK glob (call m) cx ro m c env s=o
 | .skip,env,s,o,h,ho=>⟨0,fun m _=>by simpa [dK,aC] using h⟩
 | .ret,env,s,o,h,ho=>⟨0,fun m _=>by simpa [dK,aC] using h⟩
 | .exit id,env,s,o,h,ho=>⟨0,fun m _=>by simpa [dK,aC] using h⟩
 | .region ops ord keep,env,s,o,h,ho=>by
  simp only [dK,aC] at h ⊢
  cases hx:sD glob callW cx ops env s ord with
  | fail=>rw [hx] at h;exact absurd h.symm ho
  | _=>
   obtain ⟨n,hn⟩:=Nv hc hx (by simp)
   exact ⟨n,fun m hm=>by rw [hn m hm];rw [hx] at h;exact h⟩
 | .seq a b,env,s,o,h,ho=>by
  simp only [dK,aC] at h ⊢
  cases hx:aC glob callW cx ro a env s with
  | fail=>rw [hx] at h;exact absurd h.symm ho
  | norm env' s'=>
   rw [hx] at h
   obtain ⟨n,hn⟩:=l9 hc ro a _ _ _ hx (by simp)
   obtain ⟨n',hn'⟩:=l9 hc ro b _ _ _ h ho
   exact ⟨max n n',fun m hm=>by rw [hn m (by omega)];exact hn' m (by omega)⟩
  | _=>
   obtain ⟨n,hn⟩:=l9 hc ro a _ _ _ hx (by simp)
   exact ⟨n,fun m hm=>by rw [hn m hm];rw [hx] at h;exact h⟩
 | .cond c a b,env,s,o,h,ho=>by
  simp only [dK,aC] at h ⊢
  unfold aeT at h
  split at h
  ·rename_i x hx
   rw [hx]
   cases x with
   | true=>exact l9 hc ro a _ _ _ (by simpa using h) ho
   | false=>exact l9 hc ro b _ _ _ (by simpa using h) ho
  ·exact absurd h.symm ho
 | .block id b,env,s,o,h,ho=>by
  simp only [dK,aC] at h ⊢
  cases hx:aC glob callW cx ro b env s with
  | fail=>rw [hx] at h;exact absurd h.symm ho
  | _=>
   obtain ⟨n,hn⟩:=l9 hc ro b _ _ _ hx (by simp)
   exact ⟨n,fun m hm=>by rw [hn m hm];rw [hx] at h;exact h⟩
 | .loop keep b,env,s,o,h,ho=>by
  simp only [dK,aC] at h ⊢
  obtain ⟨N0,hN⟩:=GI h ho
  obtain ⟨n,hn⟩:=Ui (body:=fun m=>dK glob (call m) cx ro m b) (l9 hc ro b) N0 (hN N0 (Nat.le_refl _)) ho
  exact ⟨max n N0,fun m hm=>hn m (by omega) m (by omega)⟩
 | .range f ps asg body,env,s,o,h,ho=>by
  simp only [dK,aC] at h ⊢
  split at h
  ·exact absurd h.symm ho
  ·rename_i hro
   simp only [hro]
   unfold Lm at h
   split at h
   ·rename_i ff as cs hx
    rw [hx]
    simp only []
    cases hy:callW (.fn ff as cs) [.yl (s.length+1)] (s++[.dfr,.loop (uz env) ps asg body .ready]) cx with
    | fail=>rw [hy] at h;exact absurd h.symm ho
    | _=>
     obtain ⟨n,hn⟩:=hc _ _ _ _ _ hy (by simp)
     exact ⟨n,fun m hm=>by rw [hn m hm];rw [hy] at h;exact h⟩
   ·exact absurd h.symm ho
 | .label l,env,s,o,h,ho=>⟨0,fun m _=>by simpa [dK,aC] using h⟩
 | .goto l,env,s,o,h,ho=>⟨0,fun m _=>by simpa [dK,aC] using h⟩
 | .scope l keep a b,env,s,o,h,ho=>by
  simp only [dK,aC] at h ⊢
  cases hx:aC glob callW cx ro a env s with
  | fail=>rw [hx] at h;exact absurd h.symm ho
  | goto l' env' s'=>
   rw [hx] at h
   simp only [Out.jmp] at h
   split at h
   ·rename_i hl
    obtain ⟨n,hn⟩:=l9 hc ro a _ _ _ hx (by simp)
    obtain ⟨N0,hN⟩:=GI h ho
    obtain ⟨n',hn'⟩:=Qa (body:=fun m=>dK glob (call m) cx ro m b) (l9 hc ro b) N0 (hN N0 (Nat.le_refl _)) ho
    exact ⟨max n (max n' N0),fun m hm=>by rw [hn m (by omega)];simp only [hl,if_true];exact hn' m (by omega) m (by omega)⟩
   ·exact absurd h.symm ho
  | _=>
   obtain ⟨n,hn⟩:=l9 hc ro a _ _ _ hx (by simp)
   exact ⟨n,fun m hm=>by rw [hn m hm];rw [hx] at h;exact h⟩
theorem X7 (hc:Lim callW call) {fn:dw} {args:List AV} {s:St} {o:CO} (h:af glob callW fn args s cx=o) (ho:o≠.fail):
  ∃n,∀m,n≤m→wU glob (call m) m fn args s cx=o:=by
 unfold af at h
 unfold wU
 split at h
 ·rename_i hnp
  simp only [hnp,if_true]
  cases hx:aC glob callW ⟨if fn.pure=true then s.length else cx.lim,if fn.keep=true then cx.base else s.length⟩ fn.keep fn.code (E5 args 0) s with
  | fail=>rw [hx] at h;exact absurd h.symm ho
  | _=>
   obtain ⟨n,hn⟩:=l9 hc _ _ _ _ _ hx (by simp)
   exact ⟨n,fun m hm=>by rw [hn m hm];rw [hx] at h;exact h⟩
 ·exact absurd h.symm ho
theorem Ym (hc:Lim callW call) {l:Nat} {args:List AV} {s:St} {o:CO} (h:KY glob callW l args s cx=o) (ho:o≠.fail):
  ∃n,∀m,n≤m→Ae glob (call m) m l args s cx=o:=by
 unfold KY at h
 unfold Ae
 split at h
 ·rename_i env ps asg body hl
  rw [hl]
  simp only []
  split at h
  ·rename_i hcond
   simp only [hcond,and_self,if_true]
   cases hx:aC glob callW cx true asg (Fj env ps args) s with
   | norm env1 s1=>
    obtain ⟨n,hn⟩:=l9 hc true _ _ _ _ hx (by simp)
    rw [hx] at h
    unfold yD at h
    simp only [] at h
    split at h
    ·rename_i e1 p1 a1 b1 hl1
     cases hy:aC glob callW cx true body env1 (s1.set l (.loop e1 p1 a1 b1 .busy)) with
     | fail=>rw [hy] at h;exact absurd h.symm ho
     | _=>
      obtain ⟨n',hn'⟩:=l9 hc true _ _ _ _ hy (by simp)
      exact ⟨max n n',fun m hm=>by rw [hn m (by omega)];simp only [hl1];rw [hn' m (by omega)];rw [hy] at h;exact h⟩
    ·exact absurd h.symm ho
   | _=>rw [hx] at h;exact absurd h.symm ho
  ·exact absurd h.symm ho
 ·exact absurd h.symm ho
end
theorem QL {α β:Type} {f:α→Option β} {g:Nat→α→Option β}:∀(l:List α) {r:List β},(∀x∈l,∀y,f x=some y→∃n,∀m,n≤m→g m x=some y)→l.mapM f=some r→∃n,∀m,n≤m→l.mapM (g m)=some r
 | [],r,_,h=>⟨0,fun m _=>by simpa using h⟩
 | x::l,r,hf,h=>by
  simp only [List.mapM_cons,Option.bind_eq_bind,Option.pure_def] at h ⊢
  cases hx:f x with
  | none=>simp [hx] at h
  | some y=>
   cases hl:l.mapM f with
   | none=>simp [hx,hl] at h
   | some ys=>
    simp [hx,hl] at h
    subst h
    obtain ⟨n,hn⟩:=hf x (by simp) y hx
    obtain ⟨n',hn'⟩:=QL l (fun z hz=>hf z (by simp [hz])) hl
    exact ⟨max n n',fun m hm=>by rw [hn m (by omega),hn' m (by omega)];rfl⟩
theorem abM {callW:AV→List AV→St→Ctx→CO} {call:Nat→AV→List AV→St→Ctx→CO} (hc:Lim callW call) {g:Nat} {x y:AV} {r:Int} (h:Tm callW g x y=some r):
  ∃n,∀m,n≤m→Tm (call m) g x y=some r:=by
 unfold Tm at h ⊢
 cases hx:callW (.fn (.func g) [] []) [x,y] [] ⟨0,0⟩ with
 | fail=>rw [hx] at h;cases h
 | pan v s=>rw [hx] at h;cases h
 | ret v s=>
  obtain ⟨n,hn⟩:=hc _ _ _ _ _ hx (by simp)
  exact ⟨n,fun m hm=>by rw [hn m hm];rw [hx] at h;exact h⟩
theorem X4 {callW:AV→List AV→St→Ctx→CO} {call:Nat→AV→List AV→St→Ctx→CO} (hc:Lim callW call) {g:Nat} {es:List AV} {tab:List (List Int)} (h:MR callW g es=some tab):
  ∃n,∀m,n≤m→MR (call m) g es=some tab:=
 QL (g:=fun m x=>es.mapM fun y=>Tm (call m) g x y) es (fun _ _ _ hx=>QL (g:=fun m y=>Tm (call m) g _ y) es (fun _ _ _ hy=>abM hc hy) hx) h
theorem Oi {callW qcallW:AV→List AV→St→Ctx→CO} {call qcall:Nat→AV→List AV→St→Ctx→CO} {cx:Ctx} (hc:Lim callW call) (hq:Lim qcallW qcall) {k:HiK} {args:List AV} {s:St} {o:CO}
  (h:l7 callW qcallW k args s cx=o) (ho:o≠.fail):∃n,∀m,n≤m→l7 (call m) (qcall m) k args s cx=o:=by
 unfold l7 at h
 split at h
 ·rename_i r f as cs
  cases hx:callW (.fn (.func f) as cs) [] s cx with
  | ret r1 s1=>
   obtain ⟨n,hn⟩:=hc _ _ _ _ _ hx (by simp)
   exact ⟨n,fun m hm=>by simp only [l7,hn m hm];rw [hx] at h;exact h⟩
  | pan r1 s1=>
   obtain ⟨n,hn⟩:=hc _ _ _ _ _ hx (by simp)
   exact ⟨n,fun m hm=>by simp only [l7,hn m hm];rw [hx] at h;exact h⟩
  | fail=>rw [hx] at h;exact absurd h.symm ho
 ·exact ⟨0,fun m _=>by simpa [l7] using h⟩
 ·rename_i k0 l ver sz o m g
  split at h
  ·exact ⟨0,fun m _=>by simpa [l7] using h⟩
  ·rename_i n t sz' ver' cs hl
   split at h
   ·rename_i hcond
    cases hx:MR qcallW g (chunk sz (n+1) (cs.drop o)) with
    | none=>rw [hx] at h;exact absurd h.symm ho
    | some tab=>
     obtain ⟨n1,hn⟩:=X4 hq hx
     exact ⟨n1,fun m hm=>by simp only [l7,hl];rw [if_pos hcond,hn m hm];rw [hx] at h;exact h⟩
   ·exact absurd h.symm ho
  ·exact absurd h.symm ho
 ·exact absurd h.symm ho
noncomputable def ah (A:uP) (fv:AV) (args:List AV) (s:St) (cx:Ctx):CO:=OJ .fail fun n=>jJ A n fv args s cx
theorem Em (A:uP):Lim (ah A) (jJ A):=fun fv args s cx c h hc=>GI h hc
theorem MZ {A:uP} {f:Nat} {fn:dw} (hi:A.intr f=none) (hh:A.hi f=none) (hf:A.fns f=some fn) {as cs args:List AV} {s:St} {cx:Ctx} {o:CO} (ho:o≠.fail)
  (h:af A.glob (ah A) fn (as++args++cs) s cx=o):ah A (.fn (.func f) as cs) args s cx=o:=by
 obtain ⟨n,hn⟩:=X7 (Em A) h ho
 exact zG (n:=n+1) (fun m hm=>by obtain ⟨k,rfl⟩:∃k,m=k+1:=⟨m - 1,by omega⟩;simp only [jJ,hi,hh,hf];exact hn k (by omega))
theorem Ad {A:uP} {f:Nat} {k:HiK} (hi:A.intr f=none) (hf:A.hi f=some k) {as cs args:List AV} {s:St} {cx:Ctx} {o:CO} (ho:o≠.fail)
  (h:l7 (ah A) (ah A.quiet) k (as++args++cs) s cx=o):ah A (.fn (.func f) as cs) args s cx=o:=by
 obtain ⟨n,hn⟩:=Oi (Em A) (Em A.quiet) h ho
 exact zG (n:=n+1) (fun m hm=>by obtain ⟨k,rfl⟩:∃k,m=k+1:=⟨m - 1,by omega⟩;simp only [jJ,hi,hf];exact hn k (by omega))
theorem xX {A:uP} {f:Nat} {h:List AV→St→Option AV} (hi:A.intr f=some h) {as cs args:List AV} {s:St} {cx:Ctx} {r:AV} (hr:h (as++args++cs) s=some r):
  ah A (.fn (.func f) as cs) args s cx=.ret r s:=
 zG (n:=1) (fun m hm=>by obtain ⟨k,rfl⟩:∃k,m=k+1:=⟨m - 1,by omega⟩;simp only [jJ,hi,hr])
theorem UO {A:uP} {l:Nat} {args:List AV} {s:St} {cx:Ctx} {o:CO} (ho:o≠.fail) (h:KY A.glob (ah A) l args s cx=o):ah A (.yl l) args s cx=o:=by
 obtain ⟨n,hn⟩:=Ym (Em A) h ho
 exact zG (n:=n+1) (fun m hm=>by obtain ⟨k,rfl⟩:∃k,m=k+1:=⟨m - 1,by omega⟩;simp only [jJ];exact hn k (by omega))
theorem ZA {A:uP} {fv:AV} {args:List AV} {s s':St} {cx:Ctx} {r:AV} (h:ah A fv args s cx=.ret r s'):∃n,jJ A n fv args s cx=.ret r s':=by
 obtain ⟨n,hn⟩:=GI h (by simp)
 exact ⟨n,hn n (Nat.le_refl _)⟩
end Go.Ai
namespace Go.Ai
section
variable {glob:Nat→Option (List AV)} {call callW:AV→List AV→St→Ctx→CO} {cx:Ctx}
def Gt (call callW:AV→List AV→St→Ctx→CO):Prop:=∀fv args s cx c,call fv args s cx=c→c≠.fail→callW fv args s cx=c
theorem aaR (hc:Gt call callW) {ops:List aX} {ord:Option (List Nat×List Nat)} {env:Env} {s:St} {o:Out} (h:sD glob call cx ops env s ord=o) (ho:o≠.fail):
  sD glob callW cx ops env s ord=o:=by
 have:Lim call (fun _=>callW):=fun fv args s cx c h hne=>⟨0,fun _ _=>hc fv args s cx c h hne⟩
 obtain ⟨n,hn⟩:=Nv this h ho
 exact hn n (Nat.le_refl _)
theorem aad {body yD:Env→St→Out} {keep:List Nat} (hb:∀env s o,body env s=o→o≠.fail→yD env s=o):
  ∀(N:Nat) {env:Env} {s:St} {o:Out},xw body keep N env s=o→o≠.fail→eX yD keep env s=o
 | 0,env,s,o,h,ho=>absurd h.symm ho
 | N+1,env,s,o,h,ho=>by
  simp only [xw] at h
  rw [JU]
  cases hx:body (jY env keep) s with
  | fail=>rw [hx] at h;exact absurd h.symm ho
  | norm env' s'=>
   rw [hx] at h
   rw [hb _ _ _ hx (by simp)]
   exact aad hb N h ho
  | _=>rw [hb _ _ _ hx (by simp)];rw [hx] at h;exact h
theorem WV {body yD:Env→St→Out} {l:Nat} {keep:List Nat} (hb:∀env s o,body env s=o→o≠.fail→yD env s=o):
  ∀(N:Nat) {env:Env} {s:St} {o:Out},qW body l keep N env s=o→o≠.fail→Ah yD l keep env s=o
 | 0,env,s,o,h,ho=>absurd h.symm ho
 | N+1,env,s,o,h,ho=>by
  simp only [qW] at h
  rw [BZ]
  cases hx:body (jY env keep) s with
  | fail=>rw [hx] at h;exact absurd h.symm ho
  | goto l' env' s'=>
   rw [hx] at h
   rw [hb _ _ _ hx (by simp)]
   simp only [Out.jmp] at h ⊢
   split at h
   ·rename_i hl;simp only [hl,if_true];exact WV hb N h ho
   ·exact absurd h.symm ho
  | _=>rw [hb _ _ _ hx (by simp)];rw [hx] at h;exact h
theorem qE (hc:Gt call callW) (ro:Bool) (N:Nat):∀(c:aS) (env:Env) (s:St) (o:Out),dK glob call cx ro N c env s=o→o≠.fail→aC glob callW cx ro c env s=o
 | .skip,env,s,o,h,ho=>by simpa [dK,aC] using h
 | .ret,env,s,o,h,ho=>by simpa [dK,aC] using h
 | .exit id,env,s,o,h,ho=>by simpa [dK,aC] using h
 | .region ops ord keep,env,s,o,h,ho=>by
  simp only [dK,aC] at h ⊢
  cases hx:sD glob call cx ops env s ord with
  | fail=>rw [hx] at h;exact absurd h.symm ho
  | _=>rw [aaR hc hx (by simp)];rw [hx] at h;exact h
 | .seq a b,env,s,o,h,ho=>by
  simp only [dK,aC] at h ⊢
  cases hx:dK glob call cx ro N a env s with
  | fail=>rw [hx] at h;exact absurd h.symm ho
  | norm env' s'=>
   rw [hx] at h
   rw [qE hc ro N a _ _ _ hx (by simp)]
   exact qE hc ro N b _ _ _ h ho
  | _=>rw [qE hc ro N a _ _ _ hx (by simp)];rw [hx] at h;exact h
 | .cond c a b,env,s,o,h,ho=>by
  simp only [dK,aC] at h ⊢
  unfold aeT
  split at h
  ·rename_i hx;rw [hx];simpa using qE hc ro N a _ _ _ h ho
  ·rename_i hx;rw [hx];simpa using qE hc ro N b _ _ _ h ho
  ·exact absurd h.symm ho
 | .block id b,env,s,o,h,ho=>by
  simp only [dK,aC] at h ⊢
  cases hx:dK glob call cx ro N b env s with
  | fail=>rw [hx] at h;exact absurd h.symm ho
  | _=>rw [qE hc ro N b _ _ _ hx (by simp)];rw [hx] at h;exact h
 | .loop keep b,env,s,o,h,ho=>by
  simp only [dK,aC] at h ⊢
  exact aad (qE hc ro N b) N h ho
 | .range f ps asg body,env,s,o,h,ho=>by
  simp only [dK,aC] at h ⊢
  split at h
  ·exact absurd h.symm ho
  ·rename_i hro
   simp only [hro]
   unfold Lm
   split at h
   ·rename_i ff as cs hx
    rw [hx]
    cases hy:call (.fn ff as cs) [.yl (s.length+1)] (s++[.dfr,.loop (uz env) ps asg body .ready]) cx with
    | fail=>rw [hy] at h;exact absurd h.symm ho
    | _=>
     have:=hc _ _ _ _ _ hy (by simp)
     rw [hy] at h
     simpa [this] using h
   ·exact absurd h.symm ho
 | .label l,env,s,o,h,ho=>by simpa [dK,aC] using h
 | .goto l,env,s,o,h,ho=>by simpa [dK,aC] using h
 | .scope l keep a b,env,s,o,h,ho=>by
  simp only [dK,aC] at h ⊢
  cases hx:dK glob call cx ro N a env s with
  | fail=>rw [hx] at h;exact absurd h.symm ho
  | goto l' env' s'=>
   rw [hx] at h
   rw [qE hc ro N a _ _ _ hx (by simp)]
   simp only [Out.jmp] at h ⊢
   split at h
   ·rename_i hl;simp only [hl,if_true];exact WV (qE hc ro N b) N h ho
   ·exact absurd h.symm ho
  | _=>rw [qE hc ro N a _ _ _ hx (by simp)];rw [hx] at h;exact h
theorem abP (hc:Gt call callW) {N:Nat} {fn:dw} {args:List AV} {s:St} {o:CO} (h:wU glob call N fn args s cx=o) (ho:o≠.fail):af glob callW fn args s cx=o:=by
 unfold wU at h
 unfold af
 split at h
 ·rename_i hnp
  simp only [hnp,if_true]
  cases hx:dK glob call ⟨if fn.pure then s.length else cx.lim,if fn.keep then cx.base else s.length⟩ fn.keep N fn.code (E5 args 0) s with
  | fail=>rw [hx] at h;exact absurd h.symm ho
  | _=>rw [qE hc _ N _ _ _ _ hx (by simp)];rw [hx] at h;exact h
 ·exact absurd h.symm ho
theorem ab7 (hc:Gt call callW) {N l:Nat} {args:List AV} {s:St} {o:CO} (h:Ae glob call N l args s cx=o) (ho:o≠.fail):KY glob callW l args s cx=o:=by
 unfold Ae at h
 unfold KY
 split at h
 ·rename_i env ps asg body hl
  rw [hl]
  simp only []
  split at h
  ·rename_i hcond
   simp only [hcond,and_self,if_true]
   cases hx:dK glob call cx true N asg (Fj env ps args) s with
   | norm env1 s1=>
    rw [qE hc true N _ _ _ _ hx (by simp)]
    rw [hx] at h
    unfold yD
    simp only [] at h ⊢
    split at h
    ·rename_i e1 p1 a1 b1 hl1
     rw [hl1]
     simp only []
     cases hy:dK glob call cx true N body env1 (s1.set l (.loop e1 p1 a1 b1 .busy)) with
     | fail=>rw [hy] at h;exact absurd h.symm ho
     | _=>rw [qE hc true N _ _ _ _ hy (by simp)];rw [hy] at h;exact h
    ·exact absurd h.symm ho
   | _=>rw [hx] at h;exact absurd h.symm ho
  ·exact absurd h.symm ho
 ·exact absurd h.symm ho
end
theorem abO {call callW qcall qcallW:AV→List AV→St→Ctx→CO} {cx:Ctx} (hc:Gt call callW) (hq:Gt qcall qcallW) {k:HiK} {args:List AV} {s:St} {o:CO} (h:l7 call qcall k args s cx=o) (ho:o≠.fail):
  l7 callW qcallW k args s cx=o:=by
 have h1:Lim call (fun _=>callW):=fun fv args s cx c h hne=>⟨0,fun _ _=>hc fv args s cx c h hne⟩
 have h2:Lim qcall (fun _=>qcallW):=fun fv args s cx c h hne=>⟨0,fun _ _=>hq fv args s cx c h hne⟩
 obtain ⟨n,hn⟩:=Oi h1 h2 h ho
 exact hn n (Nat.le_refl _)
theorem MX:∀(n:Nat) (A:uP),Gt (jJ A n) (ah A)
 | 0,A=>fun fv args s cx c h hne=>by simp only [jJ] at h;exact absurd h.symm hne
 | n+1,A=>fun fv args s cx c h hne=>by
  have ih:=MX n A
  cases fv with
  | fn f as cs=>
   cases f with
   | func fid=>
    simp only [jJ] at h
    split at h
    ·rename_i hh hin
     split at h
     ·rename_i r hr;rw [←h];exact xX hin hr
     ·exact absurd h.symm hne
    ·rename_i hin
     split at h
     ·rename_i k hk;exact Ad hin hk hne (abO ih (MX n A.quiet) h hne)
     ·rename_i hk
      split at h
      ·rename_i fn hfn;exact MZ hin hk hfn hne (abP ih h hne)
      ·exact absurd h.symm hne
   | _=>simp only [jJ] at h;exact absurd h.symm hne
  | yl l=>simp only [jJ] at h;exact UO hne (ab7 ih h hne)
  | _=>simp only [jJ] at h;exact absurd h.symm hne
theorem Yj (A:uP) (n:Nat):Gt (jJ A n) (ah A):=MX n A
end Go.Ai
