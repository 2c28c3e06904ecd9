/-
 The interpreter in the limit: no fuel.
-/
import Derived.Test.YtdjjghikaijfpaaGreatDoorAiA1
set_option maxRecDepth 100000
set_option linter.unusedSimpArgs false
set_option linter.unusedVariables false
set_option linter.unusedSectionVars false
namespace Go.Ai
noncomputable def Qe {α:Type} (d:α) (h:Nat→α):α:=
 open Classical in if H:∃c,c≠d∧∃n,∀m,n≤m→h m=c then H.choose else d
theorem yK {α:Type} {d:α} {h:Nat→α} {c:α} {n:Nat} (hc:∀m,n≤m→h m=c):Qe d h=c:=by
 unfold Qe
 split
 ·rename_i H
  obtain ⟨_,n',hn'⟩:=H.choose_spec
  rw [←hn' (max n n') (Nat.le_max_right _ _),hc _ (Nat.le_max_left _ _)]
 ·rename_i H
  by_cases hd:c=d
  ·exact hd.symm
  ·exact absurd ⟨c,hd,n,hc⟩ H
theorem Jm {α:Type} {d:α} {h:Nat→α} {c:α} (hl:Qe d h=c) (hd:c≠d):∃n,∀m,n≤m→h m=c:=by
 unfold Qe at hl
 split at hl
 ·rename_i H
  obtain ⟨_,n',hn'⟩:=H.choose_spec
  exact ⟨n',fun m hm=>(hn' m hm).trans hl⟩
 ·exact absurd hl.symm hd
theorem Rz {α:Type} {d:α} {h g:Nat→α} (hs:∀n,h (n+1)=g n):Qe d h=Qe d g:=by
 by_cases hg:Qe d g=d
 ·rw [hg]
  by_cases hh:Qe d h=d
  ·exact hh
  ·obtain ⟨n,hn⟩:=Jm rfl hh
   have:=yK (d:=d) (h:=g) (c:=Qe d h) (n:=n) (fun m hm=>by rw [←hs];exact hn _ (by omega))
   rw [←this,hg]
 ·obtain ⟨n,hn⟩:=Jm rfl hg
  exact yK (n:=n+1) (fun m hm=>by obtain ⟨k,rfl⟩:∃k,m=k+1:=⟨m - 1,by omega⟩;rw [hs];exact hn k (by omega))
def Out.thn (o:Out) (f:Env→St→Out):Out:=
 match o with
 | .norm env s=>f env s
 | o=>o
def Out.blk (id:Nat) (o:Out):Out:=
 match o with
 | .exit id' env s=>if id'=id then .norm env s else .exit id' env s
 | o=>o
def aam (x:Option AV) (a b:Unit→Out):Out:=
 match x with
 | some (.b x)=>if x=true then a () else b ()
 | _=>.fail
noncomputable def AZ (body:Env→St→Out) (keep:List Nat) (env:Env) (s:St):Out:=Qe .fail (fun N=>uz body keep N env s)
theorem VB (body:Env→St→Out) (keep:List Nat) (env:Env) (s:St):AZ body keep env s=(body (jm env keep) s).thn (AZ body keep):=by
 unfold AZ
 cases hb:body (jm env keep) s with
 | norm env' s'=>exact Rz (fun n=>by simp [uz,hb])
 | _=>exact yK (n:=1) (fun m hm=>by obtain ⟨k,rfl⟩:∃k,m=k+1:=⟨m - 1,by omega⟩;simp [uz,hb,Out.thn])
noncomputable def NS (body:Env→St→Out) (l:Nat) (keep:List Nat) (env:Env) (s:St):Out:=Qe .fail (fun N=>lX body l keep N env s)
def Out.jmp (l:Nat) (o:Out) (f:Env→St→Out):Out:=
 match o with
 | .goto l' env s=>if l'=l then f env s else .fail
 | o=>o
theorem XB (body:Env→St→Out) (l:Nat) (keep:List Nat) (env:Env) (s:St):NS body l keep env s=(body (jm env keep) s).jmp l (NS body l keep):=by
 unfold NS
 cases hb:body (jm env keep) s with
 | goto l' env' s'=>
  by_cases hl:l'=l
  ·simp only [Out.jmp,hl,if_true]
   exact Rz (fun n=>by simp [lX,hb,hl])
  ·exact yK (n:=1) (fun m hm=>by obtain ⟨k,rfl⟩:∃k,m=k+1:=⟨m - 1,by omega⟩;simp [lX,hb,Out.jmp,hl])
 | _=>exact yK (n:=1) (fun m hm=>by obtain ⟨k,rfl⟩:∃k,m=k+1:=⟨m - 1,by omega⟩;simp [lX,hb,Out.jmp])
section
variable (glob:Nat→Option (List AV))
def UI (x:Option AV) (call:AV→List AV→St→Ctx→CO) (cx:Ctx) (ps:List Nat) (asg body:aj) (env:Env) (s:St):Out:=
 match x with
 | some (.fn ff as cs)=>match call (.fn ff as cs) [.yl (s.length+1)] (s++[.dfr,.loop (ql env) ps asg body .ready]) cx with
  | .ret _ s'=>QO env s' (s.length+1)
  | _=>.fail
 | _=>.fail
noncomputable def aC (call:AV→List AV→St→Ctx→CO) (cx:Ctx) (ro:Bool):aj→Env→St→Out
 | .skip,env,s=>.norm env s
 | .ret,env,s=>.ret env s
 | .exit id,env,s=>.exit id env s
 | .region ops ord keep,env,s=>(nC glob call cx ops env s ord).thn fun env s=>.norm (jm env keep) s
 | .seq a b,env,s=>(aC call cx ro a env s).thn (aC call cx ro b)
 | .cond c a b,env,s=>aam (rd glob env c) (fun _=>aC call cx ro a env s) (fun _=>aC call cx ro b env s)
 | .block id b,env,s=>(aC call cx ro b env s).blk id
 | .loop keep b,env,s=>AZ (aC call cx ro b) keep env s
 | .range f ps asg body,env,s=>if ro=true then .fail else UI (rd glob env f) call cx ps asg body env s
 | .label _,env,s=>.norm env s
 | .goto l,env,s=>.goto l env s
 | .scope l keep a b,env,s=>(aC call cx ro a env s).jmp l (NS (aC call cx ro b) l keep)
def endW (pure keep:Bool) (s:St) (res:List RV) (o:Out):CO:=
 match o with
 | .norm env s1 | .ret env s1=>match lJ glob env s1 res with
  | some rs=>finish pure keep s s1 (tH rs)
  | none=>.fail
 | .pan v s1=>(finish pure keep s s1 v).toPan
 | _=>.fail
noncomputable def eF (call:AV→List AV→St→Ctx→CO) (fn:ak) (args:List AV) (s:St) (cx:Ctx):CO:=
 if args.length=fn.np then
  endW glob fn.pure fn.keep s fn.res (aC glob call ⟨if fn.pure=true then s.length else cx.lim,if fn.keep=true then cx.base else s.length⟩ fn.keep fn.code (wu args 0) s)
 else .fail
noncomputable def Jd (callW:AV→List AV→St→Ctx→CO) (d:Jj) (args:List AV) (s:St) (cx:Ctx):CO:=
 if args.length=d.np then
  match iY glob callW ⟨cx.lim,s.length⟩ d.pre (wu args 0) s with
  | .norm wu s0=>match bM glob callW ⟨cx.lim,s.length⟩ d.mkc wu s0 with
   | .norm env1 s1=>match lk env1 d.ct,d.pins.mapM (placeOf env1) with
    | some (.v (.fn (.func f) [] caps)),some ls=>
     if f=d.clo∧NK caps ls=true then
      match aC glob callW ⟨cx.lim,s.length⟩ true d.code env1 s1 with
      | .norm env2 s2 | .ret env2 s2=>match lJ glob env2 s2 d.res with
       | some rs=>finish false false s s2 (tH rs)
       | none=>.fail
      | .pan v s2=>match d.hnd v with
       | some news=>if vH s.length s2 ls news=true then
         (match lJ glob (EY d.pins ls) (kC s2 ls news) d.res with
         | some rs=>finish false false s (kC s2 ls news) (tH rs)
         | none=>.fail) else .fail
       | none=>.fail
      | _=>.fail
     else .fail
    | _,_=>.fail
   | _=>.fail
  | _=>.fail
 else .fail
def ND (l:Nat) (o:Out):CO:=
 match o with
 | .norm _ s2=>rV s2 l .ready true
 | .ret _ s2=>rV s2 l .ret false
 | .exit id _ s2=>rV s2 l (.exit id) false
 | _=>.fail
noncomputable def xU (call:AV→List AV→St→Ctx→CO) (cx:Ctx) (body:aj) (l:Nat) (o:Out):CO:=
 match o with
 | .norm env1 s1=>match s1[l]? with
  | some (.loop e1 p1 a1 b1 .ready)=>ND l (aC glob call cx true body env1 (s1.set l (.loop e1 p1 a1 b1 .busy)))
  | _=>.fail
 | _=>.fail
noncomputable def Qr (call:AV→List AV→St→Ctx→CO) (l:Nat) (args:List AV) (s:St) (cx:Ctx):CO:=
 match s[l]? with
 | some (.loop env ps asg body .ready)=>
  if ps.length=args.length∧cx.lim≤l then
   xU glob call cx body l (aC glob call cx true asg (JY env ps args) s)
  else .fail
 | _=>.fail
end
section
variable {glob:Nat→Option (List AV)} {callW:AV→List AV→St→Ctx→CO} {call:Nat→AV→List AV→St→Ctx→CO} {cx:Ctx}
def Lim (callW:AV→List AV→St→Ctx→CO) (call:Nat→AV→List AV→St→Ctx→CO):Prop:=
 ∀fv args s cx c,callW fv args s cx=c→c≠.fail→∃n,∀m,n≤m→call m fv args s cx=c
theorem SQ (hc:Lim callW call) {env:Env} {s:St} {op:AOp} {o:RO} (h:aop glob callW cx env s op=o) (ho:o≠.fail):
  ∃n,∀m,n≤m→aop glob (call m) cx env s op=o:=by
 by_cases hch:∃d f as,op=.callh d f as
 ·obtain ⟨d,f,as,rfl⟩:=hch
  simp only [aop] at h ⊢
  split at h
  ·exact absurd h.symm ho
  ·split at h
   ·rename_i fv as' h1 h2
    cases hx:callW fv as' s cx with
    | fail=>rw [hx] at h;exact absurd h.symm ho
    | ret r s'=>
     obtain ⟨n,hn⟩:=hc _ _ _ _ _ hx (by simp)
     exact ⟨n,fun m hm=>by rw [hn m hm];rw [hx] at h;exact h⟩
    | pan r s'=>
     obtain ⟨n,hn⟩:=hc _ _ _ _ _ hx (by simp)
     exact ⟨n,fun m hm=>by rw [hn m hm];rw [hx] at h;exact h⟩
   ·exact absurd h.symm ho
 by_cases hcall:∃f as,op=.call f as∨op=.callp f as
 ·obtain ⟨f,as,hop⟩:=hcall
  have hcp:∀c:AV→List AV→St→Ctx→CO,aop glob c cx env s op=aop glob c cx env s (.call f as):=by rcases hop with rfl|rfl<;>exact fun _=>rfl
  simp only [hcp] at h ⊢
  clear hop hcp
  simp only [aop] at h ⊢
  split at h
  ·rename_i fv as' env' h1 h2
   cases hx:callW fv as' s cx with
   | fail=>rw [hx] at h;exact absurd h.symm ho
   | ret r s'=>
    obtain ⟨n,hn⟩:=hc _ _ _ _ _ hx (by simp)
    exact ⟨n,fun m hm=>by rw [hn m hm];rw [hx] at h;exact h⟩
   | pan r s'=>
    obtain ⟨n,hn⟩:=hc _ _ _ _ _ hx (by simp)
    exact ⟨n,fun m hm=>by rw [hn m hm];rw [hx] at h;exact h⟩
  ·exact absurd h.symm ho
 ·refine ⟨0,fun m _=>?_⟩
  rw [←h]
  cases op with
  | call f as=>exact absurd ⟨_,_,.inl rfl⟩ hcall
  | callp f as=>exact absurd ⟨_,_,.inr rfl⟩ hcall
  | callh d f as=>exact absurd ⟨_,_,_,rfl⟩ hch
  | len k x=>rcases k with _ | _ | _|k<;>rfl
  | _=>rfl
theorem xX (hc:Lim callW call) {env:Env} {s:St} {p:aA} {o:Out} (h:bM glob callW cx p env s=o) (ho:o≠.fail):
  ∃n,∀m,n≤m→bM glob (call m) cx p env s=o:=by
 unfold bM at h ⊢
 split at h
 ·exact absurd h.symm ho
 ·exact ⟨0,fun m _=>h⟩
 ·cases hx:aop glob callW cx env s p.op with
  | fail=>rw [hx] at h;exact absurd h.symm ho
  | ok e env' s'=>
   obtain ⟨n,hn⟩:=SQ hc hx (by simp)
   exact ⟨n,fun m hm=>by rw [hn m hm];rw [hx] at h;exact h⟩
  | pan v s'=>
   obtain ⟨n,hn⟩:=SQ hc hx (by simp)
   exact ⟨n,fun m hm=>by rw [hn m hm];rw [hx] at h;exact h⟩
theorem Cb (hc:Lim callW call):∀(ops:List aA) {env:Env} {s:St} {o:Out},iY glob callW cx ops env s=o→o≠.fail→
  ∃n,∀m,n≤m→iY glob (call m) cx ops env s=o
 | [],env,s,o,h,ho=>⟨0,fun m _=>h⟩
 | p::r,env,s,o,h,ho=>by
  simp only [iY] at h ⊢
  cases hx:bM glob callW cx p env s with
  | fail=>rw [hx] at h;exact absurd h.symm ho
  | norm env' s'=>
   rw [hx] at h
   obtain ⟨n,hn⟩:=xX hc hx (by simp)
   obtain ⟨n',hn'⟩:=Cb hc r h ho
   exact ⟨max n n',fun m hm=>by rw [hn m (by omega)];exact hn' m (by omega)⟩
  | _=>
   obtain ⟨n,hn⟩:=xX hc hx (by simp)
   exact ⟨n,fun m hm=>by rw [hn m hm];rw [hx] at h;exact h⟩
theorem XH (hc:Lim callW call) {env:Env} {s:St} {p:aA} {e:EV} (h:tJ glob callW p env s=some e):
  ∃n,∀m,n≤m→tJ glob (call m) p env s=some e:=by
 unfold tJ at h ⊢
 split at h
 ·cases h
 ·exact ⟨0,fun m _=>h⟩
 ·split at h
  ·rename_i hq
   simp only [hq,if_true]
   cases hx:aop glob callW ⟨s.length,s.length⟩ env s p.op with
   | fail=>rw [hx] at h;cases h
   | ok e env' s'=>
    obtain ⟨n,hn⟩:=SQ hc hx (by simp)
    exact ⟨n,fun m hm=>by rw [hn m hm];rw [hx] at h;exact h⟩
   | pan v s'=>rw [hx] at h;cases h
  ·cases h
theorem TY (hc:Lim callW call) {env:Env} {s:St} {p:aA} {o:Out} (h:fC glob callW cx p env s=o) (ho:o≠.fail):
  ∃n,∀m,n≤m→fC glob (call m) cx p env s=o:=by
 unfold fC at h ⊢
 split at h
 ·rename_i hq
  simp only [hq,if_true]
  unfold zW at h ⊢
  cases hx:tJ glob callW p env s with
  | none=>rw [hx] at h;exact absurd h.symm ho
  | some e=>
   obtain ⟨n,hn⟩:=XH hc hx
   exact ⟨n,fun m hm=>by rw [hn m hm];rw [hx] at h;exact h⟩
 ·rename_i hq
  simp only [hq]
  exact xX hc h ho
theorem zX (hc:Lim callW call) (aops:List aA):∀(l:List Nat) {env:Env} {s:St} {o:Out},fO glob callW cx aops l env s=o→o≠.fail→
  ∃n,∀m,n≤m→fO glob (call m) cx aops l env s=o
 | [],env,s,o,h,ho=>⟨0,fun m _=>h⟩
 | i::r,env,s,o,h,ho=>by
  simp only [fO] at h ⊢
  split at h
  ·exact absurd h.symm ho
  ·rename_i p hp
   cases hx:fC glob callW cx p env s with
   | fail=>rw [hx] at h;exact absurd h.symm ho
   | norm env' s'=>
    rw [hx] at h
    obtain ⟨n,hn⟩:=TY hc hx (by simp)
    obtain ⟨n',hn'⟩:=zX hc aops r h ho
    exact ⟨max n n',fun m hm=>by rw [hn m (by omega)];exact hn' m (by omega)⟩
   | _=>
    obtain ⟨n,hn⟩:=TY hc hx (by simp)
    exact ⟨n,fun m hm=>by rw [hn m hm];rw [hx] at h;exact h⟩
theorem Vt (hc:Lim callW call) {ops:List aA} {π:List Nat} {env:Env} {s:St} {o:Out} (h:AO glob callW cx ops π env s=o) (ho:o≠.fail):
  ∃n,∀m,n≤m→AO glob (call m) cx ops π env s=o:=by
 unfold AO at h ⊢
 split at h
 ·exact absurd h.symm ho
 ·rename_i c oc hpc
  split at h
  ·rename_i hall
   cases hx:fO glob callW cx ops (zq ops c oc false π) env s with
   | norm env1 s1=>
    rw [hx] at h
    simp only [] at h
    cases hy:bM glob callW cx oc env1 s1 with
    | pan v s2=>
     rw [hy] at h
     obtain ⟨n,hn⟩:=zX hc ops _ hx (by simp)
     obtain ⟨n',hn'⟩:=xX hc hy (by simp)
     refine ⟨max n n',fun m hm=>?_⟩
     rw [hn m (by omega)]
     simp only []
     rw [if_pos hall,hn' m (by omega)]
     exact h
    | _=>rw [hy] at h;exact absurd h.symm ho
   | _=>rw [hx] at h;exact absurd h.symm ho
  ·exact absurd h.symm ho
theorem OZ (hc:Lim callW call) {ops:List aA} {ord:Option (List Nat×List Nat)} {env:Env} {s:St} {o:Out} (h:nC glob callW cx ops env s ord=o) (ho:o≠.fail):
  ∃n,∀m,n≤m→nC glob (call m) cx ops env s ord=o:=by
 cases ord with
 | none=>exact Cb hc ops h ho
 | some p=>
  simp only [nC] at h ⊢
  cases hx:fO glob callW cx ops p.1 (DK env p.2) s with
  | fail=>rw [hx] at h;exact absurd h.symm ho
  | pan v s1=>
   rw [hx] at h
   obtain ⟨n,hn⟩:=zX hc ops p.1 hx (by simp)
   obtain ⟨n',hn'⟩:=Vt hc (h:AO glob callW cx ops p.1 (DK env p.2) s=o) ho
   exact ⟨max n n',fun m hm=>by rw [hn m (by omega)];exact hn' m (by omega)⟩
  | _=>
   obtain ⟨n,hn⟩:=zX hc ops p.1 hx (by simp)
   exact ⟨n,fun m hm=>by rw [hn m hm];rw [hx] at h;exact h⟩
theorem Ud {xU:Env→St→Out} {body:Nat→Env→St→Out} {keep:List Nat} (hb:∀env s o,xU env s=o→o≠.fail→∃n,∀m,n≤m→body m env s=o):
  ∀(N0:Nat) {env:Env} {s:St} {o:Out},uz xU keep N0 env s=o→o≠.fail→∃n,∀m,n≤m→∀N,N0≤N→uz (body m) keep N env s=o
 | 0,env,s,o,h,ho=>absurd h.symm ho
 | N0+1,env,s,o,h,ho=>by
  simp only [uz] at h
  cases hx:xU (jm env keep) s with
  | fail=>rw [hx] at h;exact absurd h.symm ho
  | norm env' s'=>
   rw [hx] at h
   obtain ⟨n,hn⟩:=hb _ _ _ hx (by simp)
   obtain ⟨n',hn'⟩:=Ud hb N0 h ho
   refine ⟨max n n',fun m hm N hN=>?_⟩
   obtain ⟨k,rfl⟩:∃k,N=k+1:=⟨N - 1,by omega⟩
   simp only [uz]
   rw [hn m (by omega)];exact hn' m (by omega) k (by omega)
  | _=>
   obtain ⟨n,hn⟩:=hb _ _ _ hx (by simp)
   refine ⟨n,fun m hm N hN=>?_⟩
   obtain ⟨k,rfl⟩:∃k,N=k+1:=⟨N - 1,by omega⟩
   simp only [uz]
   rw [hn m hm];rw [hx] at h;exact h
theorem QA {xU:Env→St→Out} {body:Nat→Env→St→Out} {l:Nat} {keep:List Nat} (hb:∀env s o,xU env s=o→o≠.fail→∃n,∀m,n≤m→body m env s=o):
  ∀(N0:Nat) {env:Env} {s:St} {o:Out},lX xU l keep N0 env s=o→o≠.fail→∃n,∀m,n≤m→∀N,N0≤N→lX (body m) l keep N env s=o
 | 0,env,s,o,h,ho=>absurd h.symm ho
 | N0+1,env,s,o,h,ho=>by
  simp only [lX] at h
  cases hx:xU (jm env keep) s with
  | fail=>rw [hx] at h;exact absurd h.symm ho
  | goto l' env' s'=>
   rw [hx] at h
   simp only [] at h
   split at h
   ·rename_i hl
    obtain ⟨n,hn⟩:=hb _ _ _ hx (by simp)
    obtain ⟨n',hn'⟩:=QA hb N0 h ho
    refine ⟨max n n',fun m hm N hN=>?_⟩
    obtain ⟨k,rfl⟩:∃k,N=k+1:=⟨N - 1,by omega⟩
    simp only [lX]
    rw [hn m (by omega)]
    simp only [hl,if_true]
    exact hn' m (by omega) k (by omega)
   ·exact absurd h.symm ho
  | _=>
   obtain ⟨n,hn⟩:=hb _ _ _ hx (by simp)
   refine ⟨n,fun m hm N hN=>?_⟩
   obtain ⟨k,rfl⟩:∃k,N=k+1:=⟨N - 1,by omega⟩
   simp only [lX]
   rw [hn m hm];rw [hx] at h;exact h
theorem iw (hc:Lim callW call) (ro:Bool):∀(c:aj) (env:Env) (s:St) (o:Out),aC glob callW cx ro c env s=o→o≠.fail→
  ∃n,∀m,n≤m→aN glob (call m) cx ro m c env s=o
 | .skip,env,s,o,h,ho=>⟨0,fun m _=>by simpa [aN,aC] using h⟩
 | .ret,env,s,o,h,ho=>⟨0,fun m _=>by simpa [aN,aC] using h⟩
 | .exit id,env,s,o,h,ho=>⟨0,fun m _=>by simpa [aN,aC] using h⟩
 | .region ops ord keep,env,s,o,h,ho=>by
  simp only [aN,aC] at h ⊢
  cases hx:nC glob callW cx ops env s ord with
  | fail=>rw [hx] at h;exact absurd h.symm ho
  | _=>
   obtain ⟨n,hn⟩:=OZ hc hx (by simp)
   exact ⟨n,fun m hm=>by rw [hn m hm];rw [hx] at h;exact h⟩
 | .seq a b,env,s,o,h,ho=>by
  simp only [aN,aC] at h ⊢
  cases hx:aC glob callW cx ro a env s with
  | fail=>rw [hx] at h;exact absurd h.symm ho
  | norm env' s'=>
   rw [hx] at h
   obtain ⟨n,hn⟩:=iw hc ro a _ _ _ hx (by simp)
   obtain ⟨n',hn'⟩:=iw hc ro b _ _ _ h ho
   exact ⟨max n n',fun m hm=>by rw [hn m (by omega)];exact hn' m (by omega)⟩
  | _=>
   obtain ⟨n,hn⟩:=iw hc ro a _ _ _ hx (by simp)
   exact ⟨n,fun m hm=>by rw [hn m hm];rw [hx] at h;exact h⟩
 | .cond c a b,env,s,o,h,ho=>by
  simp only [aN,aC] at h ⊢
  unfold aam at h
  split at h
  ·rename_i x hx
   rw [hx]
   cases x with
   | true=>exact iw hc ro a _ _ _ (by simpa using h) ho
   | false=>exact iw hc ro b _ _ _ (by simpa using h) ho
  ·exact absurd h.symm ho
 | .block id b,env,s,o,h,ho=>by
  simp only [aN,aC] at h ⊢
  cases hx:aC glob callW cx ro b env s with
  | fail=>rw [hx] at h;exact absurd h.symm ho
  | _=>
   obtain ⟨n,hn⟩:=iw hc ro b _ _ _ hx (by simp)
   exact ⟨n,fun m hm=>by rw [hn m hm];rw [hx] at h;exact h⟩
 | .loop keep b,env,s,o,h,ho=>by
  simp only [aN,aC] at h ⊢
  obtain ⟨N0,hN⟩:=Jm h ho
  obtain ⟨n,hn⟩:=Ud (body:=fun m=>aN glob (call m) cx ro m b) (iw hc ro b) N0 (hN N0 (Nat.le_refl _)) ho
  exact ⟨max n N0,fun m hm=>hn m (by omega) m (by omega)⟩
 | .range f ps asg body,env,s,o,h,ho=>by
  simp only [aN,aC] at h ⊢
  split at h
  ·exact absurd h.symm ho
  ·rename_i hro
   simp only [hro]
   unfold UI at h
   split at h
   ·rename_i ff as cs hx
    rw [hx]
    simp only []
    cases hy:callW (.fn ff as cs) [.yl (s.length+1)] (s++[.dfr,.loop (ql env) ps asg body .ready]) cx with
    | fail=>rw [hy] at h;exact absurd h.symm ho
    | _=>
     obtain ⟨n,hn⟩:=hc _ _ _ _ _ hy (by simp)
     exact ⟨n,fun m hm=>by rw [hn m hm];rw [hy] at h;exact h⟩
   ·exact absurd h.symm ho
 | .label l,env,s,o,h,ho=>⟨0,fun m _=>by simpa [aN,aC] using h⟩
 | .goto l,env,s,o,h,ho=>⟨0,fun m _=>by simpa [aN,aC] using h⟩
 | .scope l keep a b,env,s,o,h,ho=>by
  simp only [aN,aC] at h ⊢
  cases hx:aC glob callW cx ro a env s with
  | fail=>rw [hx] at h;exact absurd h.symm ho
  | goto l' env' s'=>
   rw [hx] at h
   simp only [Out.jmp] at h
   split at h
   ·rename_i hl
    obtain ⟨n,hn⟩:=iw hc ro a _ _ _ hx (by simp)
    obtain ⟨N0,hN⟩:=Jm h ho
    obtain ⟨n',hn'⟩:=QA (body:=fun m=>aN glob (call m) cx ro m b) (iw hc ro b) N0 (hN N0 (Nat.le_refl _)) ho
    exact ⟨max n (max n' N0),fun m hm=>by rw [hn m (by omega)];simp only [hl,if_true];exact hn' m (by omega) m (by omega)⟩
   ·exact absurd h.symm ho
  | _=>
   obtain ⟨n,hn⟩:=iw hc ro a _ _ _ hx (by simp)
   exact ⟨n,fun m hm=>by rw [hn m hm];rw [hx] at h;exact h⟩
theorem VR (hc:Lim callW call) {fn:ak} {args:List AV} {s:St} {o:CO} (h:eF glob callW fn args s cx=o) (ho:o≠.fail):
  ∃n,∀m,n≤m→uf glob (call m) m fn args s cx=o:=by
 unfold eF at h
 unfold uf
 split at h
 ·rename_i hnp
  simp only [hnp,if_true]
  cases hx:aC glob callW ⟨if fn.pure=true then s.length else cx.lim,if fn.keep=true then cx.base else s.length⟩ fn.keep fn.code (wu args 0) s with
  | fail=>rw [hx] at h;exact absurd h.symm ho
  | _=>
   obtain ⟨n,hn⟩:=iw hc _ _ _ _ _ hx (by simp)
   exact ⟨n,fun m hm=>by rw [hn m hm];rw [hx] at h;exact h⟩
 ·exact absurd h.symm ho
theorem U1 (hc:Lim callW call) {d:Jj} {args:List AV} {s:St} {o:CO} (h:Jd glob callW d args s cx=o) (ho:o≠.fail):
  ∃n,∀m,n≤m→pO glob (call m) m d args s cx=o:=by
 unfold Jd at h
 unfold pO
 split at h
 ·rename_i hnp
  simp only [hnp,if_true]
  cases hx:iY glob callW ⟨cx.lim,s.length⟩ d.pre (wu args 0) s with
  | norm e0 s0=>
   obtain ⟨n0,hn0⟩:=Cb hc _ hx (by simp)
   rw [hx] at h
   simp only [] at h
   cases hy:bM glob callW ⟨cx.lim,s.length⟩ d.mkc e0 s0 with
   | norm e1 s1=>
    obtain ⟨n1,hn1⟩:=xX hc hy (by simp)
    rw [hy] at h
    simp only [] at h
    split at h
    ·rename_i f caps ls hl hp
     split at h
     ·rename_i hcond
      cases hz:aC glob callW ⟨cx.lim,s.length⟩ true d.code e1 s1 with
      | fail=>rw [hz] at h;exact absurd h.symm ho
      | _=>
       obtain ⟨n,hn⟩:=iw hc _ _ _ _ _ hz (by simp)
       refine ⟨max n (max n0 n1),fun m hm=>?_⟩
       rw [hn0 m (by omega)]
       simp only []
       rw [hn1 m (by omega)]
       simp only [hl,hp]
       rw [if_pos hcond,hn m (by omega)]
       rw [hz] at h;exact h
     ·exact absurd h.symm ho
    ·exact absurd h.symm ho
   | _=>rw [hy] at h;exact absurd h.symm ho
  | _=>rw [hx] at h;exact absurd h.symm ho
 ·exact absurd h.symm ho
theorem V7 (hc:Lim callW call) {l:Nat} {args:List AV} {s:St} {o:CO} (h:Qr glob callW l args s cx=o) (ho:o≠.fail):
  ∃n,∀m,n≤m→AB glob (call m) m l args s cx=o:=by
 unfold Qr at h
 unfold AB
 split at h
 ·rename_i env ps asg body hl
  rw [hl]
  simp only []
  split at h
  ·rename_i hcond
   simp only [hcond,and_self,if_true]
   cases hx:aC glob callW cx true asg (JY env ps args) s with
   | norm env1 s1=>
    obtain ⟨n,hn⟩:=iw hc true _ _ _ _ hx (by simp)
    rw [hx] at h
    unfold xU at h
    simp only [] at h
    split at h
    ·rename_i e1 p1 a1 b1 hl1
     cases hy:aC glob callW cx true body env1 (s1.set l (.loop e1 p1 a1 b1 .busy)) with
     | fail=>rw [hy] at h;exact absurd h.symm ho
     | _=>
      obtain ⟨n',hn'⟩:=iw hc true _ _ _ _ hy (by simp)
      exact ⟨max n n',fun m hm=>by rw [hn m (by omega)];simp only [hl1];rw [hn' m (by omega)];rw [hy] at h;exact h⟩
    ·exact absurd h.symm ho
   | _=>rw [hx] at h;exact absurd h.symm ho
  ·exact absurd h.symm ho
 ·exact absurd h.symm ho
end
theorem Rw {α β:Type} {f:α→Option β} {g:Nat→α→Option β}:∀(l:List α) {r:List β},(∀x∈l,∀y,f x=some y→∃n,∀m,n≤m→g m x=some y)→l.mapM f=some r→∃n,∀m,n≤m→l.mapM (g m)=some r
 | [],r,_,h=>⟨0,fun m _=>by simpa using h⟩
 | x::l,r,hf,h=>by
  simp only [List.mapM_cons,Option.bind_eq_bind,Option.pure_def] at h ⊢
  cases hx:f x with
  | none=>simp [hx] at h
  | some y=>
   cases hl:l.mapM f with
   | none=>simp [hx,hl] at h
   | some ys=>
    simp [hx,hl] at h
    subst h
    obtain ⟨n,hn⟩:=hf x (by simp) y hx
    obtain ⟨n',hn'⟩:=Rw l (fun z hz=>hf z (by simp [hz])) hl
    exact ⟨max n n',fun m hm=>by rw [hn m (by omega),hn' m (by omega)];rfl⟩
theorem YA {callW:AV→List AV→St→Ctx→CO} {call:Nat→AV→List AV→St→Ctx→CO} (hc:Lim callW call) {g:Nat} {x y:AV} {r:Int} (h:YB callW g x y=some r):
  ∃n,∀m,n≤m→YB (call m) g x y=some r:=by
 unfold YB at h ⊢
 cases hx:callW (.fn (.func g) [] []) [x,y] [] ⟨0,0⟩ with
 | fail=>rw [hx] at h;cases h
 | pan v s=>rw [hx] at h;cases h
 | ret v s=>
  obtain ⟨n,hn⟩:=hc _ _ _ _ _ hx (by simp)
  exact ⟨n,fun m hm=>by rw [hn m hm];rw [hx] at h;exact h⟩
theorem VP {callW:AV→List AV→St→Ctx→CO} {call:Nat→AV→List AV→St→Ctx→CO} (hc:Lim callW call) {g:Nat} {es:List AV} {tab:List (List Int)} (h:UZ callW g es=some tab):
  ∃n,∀m,n≤m→UZ (call m) g es=some tab:=
 Rw (g:=fun m x=>es.mapM fun y=>YB (call m) g x y) es (fun _ _ _ hx=>Rw (g:=fun m y=>YB (call m) g _ y) es (fun _ _ _ hy=>YA hc hy) hx) h
theorem Pv {callW qcallW:AV→List AV→St→Ctx→CO} {call qcall:Nat→AV→List AV→St→Ctx→CO} {cx:Ctx} (hc:Lim callW call) (hq:Lim qcallW qcall) {k:HiK} {args:List AV} {s:St} {o:CO}
  (h:jw callW qcallW k args s cx=o) (ho:o≠.fail):∃n,∀m,n≤m→jw (call m) (qcall m) k args s cx=o:=by
 unfold jw at h
 split at h
 ·rename_i r f as cs
  cases hx:callW (.fn (.func f) as cs) [] s cx with
  | ret r1 s1=>
   obtain ⟨n,hn⟩:=hc _ _ _ _ _ hx (by simp)
   exact ⟨n,fun m hm=>by simp only [jw,hn m hm];rw [hx] at h;exact h⟩
  | pan r1 s1=>
   obtain ⟨n,hn⟩:=hc _ _ _ _ _ hx (by simp)
   exact ⟨n,fun m hm=>by simp only [jw,hn m hm];rw [hx] at h;exact h⟩
  | fail=>rw [hx] at h;exact absurd h.symm ho
 ·exact ⟨0,fun m _=>by simpa [jw] using h⟩
 ·exact ⟨0,fun m _=>by simpa [jw] using h⟩
 ·rename_i k0 l ver sz o m g
  split at h
  ·exact ⟨0,fun m _=>by simpa [jw] using h⟩
  ·rename_i n t sz' ver' cs hl
   split at h
   ·rename_i hcond
    cases hx:UZ qcallW g (chunk sz (n+1) (cs.drop o)) with
    | none=>rw [hx] at h;exact absurd h.symm ho
    | some tab=>
     obtain ⟨n1,hn⟩:=VP hq hx
     exact ⟨n1,fun m hm=>by simp only [jw,hl];rw [if_pos hcond,hn m hm];rw [hx] at h;exact h⟩
   ·exact absurd h.symm ho
  ·exact absurd h.symm ho
 ·exact ⟨0,fun m _=>by simpa [jw] using h⟩
 ·exact ⟨0,fun m _=>by simp only [jw];exact h⟩
 ·rename_i f t z e es
  cases hx:callW (.fn (.func f) [] []) [.pt s.length 0] (s++[.cells [.sl (e::es)]]) cx with
  | ret r1 s1=>
   obtain ⟨n,hn⟩:=hc _ _ _ _ _ hx (by simp)
   exact ⟨n,fun m hm=>by simp only [jw,hn m hm];rw [hx] at h;exact h⟩
  | pan r1 s1=>
   obtain ⟨n,hn⟩:=hc _ _ _ _ _ hx (by simp)
   exact ⟨n,fun m hm=>by simp only [jw,hn m hm];rw [hx] at h;exact h⟩
  | fail=>rw [hx] at h;exact absurd h.symm ho
 ·exact absurd h.symm ho
noncomputable def dX (A:qV) (fv:AV) (args:List AV) (s:St) (cx:Ctx):CO:=Qe .fail fun n=>fB A n fv args s cx
theorem BD (A:qV):Lim (dX A) (fB A):=fun fv args s cx c h hc=>Jm h hc
theorem Uw {A:qV} {f:Nat} {fn:ak} (hi:A.intr f=none) (hh:A.hi f=none) (hd:A.dfr f=none) (hf:A.fns f=some fn) {as cs args:List AV} {s:St} {cx:Ctx} {o:CO} (ho:o≠.fail)
  (h:eF A.glob (dX A) fn (as++args++cs) s cx=o):dX A (.fn (.func f) as cs) args s cx=o:=by
 obtain ⟨n,hn⟩:=VR (BD A) h ho
 exact yK (n:=n+1) (fun m hm=>by obtain ⟨k,rfl⟩:∃k,m=k+1:=⟨m - 1,by omega⟩;simp only [fB,hi,hh,hd,hf];exact hn k (by omega))
theorem Xe {A:qV} {f:Nat} {d:Jj} (hi:A.intr f=none) (hh:A.hi f=none) (hf:A.dfr f=some d) {as cs args:List AV} {s:St} {cx:Ctx} {o:CO} (ho:o≠.fail)
  (h:Jd A.glob (dX A) d (as++args++cs) s cx=o):dX A (.fn (.func f) as cs) args s cx=o:=by
 obtain ⟨n,hn⟩:=U1 (BD A) h ho
 exact yK (n:=n+1) (fun m hm=>by obtain ⟨k,rfl⟩:∃k,m=k+1:=⟨m - 1,by omega⟩;simp only [fB,hi,hh,hf];exact hn k (by omega))
theorem YJ {A:qV} {f:Nat} {k:HiK} (hi:A.intr f=none) (hf:A.hi f=some k) {as cs args:List AV} {s:St} {cx:Ctx} {o:CO} (ho:o≠.fail)
  (h:jw (dX A) (dX A.quiet) k (as++args++cs) s cx=o):dX A (.fn (.func f) as cs) args s cx=o:=by
 obtain ⟨n,hn⟩:=Pv (BD A) (BD A.quiet) h ho
 exact yK (n:=n+1) (fun m hm=>by obtain ⟨k,rfl⟩:∃k,m=k+1:=⟨m - 1,by omega⟩;simp only [fB,hi,hf];exact hn k (by omega))
theorem U5 {A:qV} {f:Nat} {h:List AV→St→Option AV} (hi:A.intr f=some h) {as cs args:List AV} {s:St} {cx:Ctx} {r:AV} (hr:h (as++args++cs) s=some r):
  dX A (.fn (.func f) as cs) args s cx=.ret r s:=
 yK (n:=1) (fun m hm=>by obtain ⟨k,rfl⟩:∃k,m=k+1:=⟨m - 1,by omega⟩;simp only [fB,hi,hr])
theorem YI {A:qV} {l:Nat} {args:List AV} {s:St} {cx:Ctx} {o:CO} (ho:o≠.fail) (h:Qr A.glob (dX A) l args s cx=o):dX A (.yl l) args s cx=o:=by
 obtain ⟨n,hn⟩:=V7 (BD A) h ho
 exact yK (n:=n+1) (fun m hm=>by obtain ⟨k,rfl⟩:∃k,m=k+1:=⟨m - 1,by omega⟩;simp only [fB];exact hn k (by omega))
theorem Xd {A:qV} {fv:AV} {args:List AV} {s s':St} {cx:Ctx} {r:AV} (h:dX A fv args s cx=.ret r s'):∃n,fB A n fv args s cx=.ret r s':=by
 obtain ⟨n,hn⟩:=Jm h (by simp)
 exact ⟨n,hn n (Nat.le_refl _)⟩
end Go.Ai
namespace Go.Ai
section
variable {glob:Nat→Option (List AV)} {call callW:AV→List AV→St→Ctx→CO} {cx:Ctx}
def F9 (call callW:AV→List AV→St→Ctx→CO):Prop:=∀fv args s cx c,call fv args s cx=c→c≠.fail→callW fv args s cx=c
theorem XD (hc:F9 call callW) {ops:List aA} {ord:Option (List Nat×List Nat)} {env:Env} {s:St} {o:Out} (h:nC glob call cx ops env s ord=o) (ho:o≠.fail):
  nC glob callW cx ops env s ord=o:=by
 have:Lim call (fun _=>callW):=fun fv args s cx c h hne=>⟨0,fun _ _=>hc fv args s cx c h hne⟩
 obtain ⟨n,hn⟩:=OZ this h ho
 exact hn n (Nat.le_refl _)
theorem Xn {body xU:Env→St→Out} {keep:List Nat} (hb:∀env s o,body env s=o→o≠.fail→xU env s=o):
  ∀(N:Nat) {env:Env} {s:St} {o:Out},uz body keep N env s=o→o≠.fail→AZ xU keep env s=o
 | 0,env,s,o,h,ho=>absurd h.symm ho
 | N+1,env,s,o,h,ho=>by
  simp only [uz] at h
  rw [VB]
  cases hx:body (jm env keep) s with
  | fail=>rw [hx] at h;exact absurd h.symm ho
  | norm env' s'=>
   rw [hx] at h
   rw [hb _ _ _ hx (by simp)]
   exact Xn hb N h ho
  | _=>rw [hb _ _ _ hx (by simp)];rw [hx] at h;exact h
theorem Vf {body xU:Env→St→Out} {l:Nat} {keep:List Nat} (hb:∀env s o,body env s=o→o≠.fail→xU env s=o):
  ∀(N:Nat) {env:Env} {s:St} {o:Out},lX body l keep N env s=o→o≠.fail→NS xU l keep env s=o
 | 0,env,s,o,h,ho=>absurd h.symm ho
 | N+1,env,s,o,h,ho=>by
  simp only [lX] at h
  rw [XB]
  cases hx:body (jm env keep) s with
  | fail=>rw [hx] at h;exact absurd h.symm ho
  | goto l' env' s'=>
   rw [hx] at h
   rw [hb _ _ _ hx (by simp)]
   simp only [Out.jmp] at h ⊢
   split at h
   ·rename_i hl;simp only [hl,if_true];exact Vf hb N h ho
   ·exact absurd h.symm ho
  | _=>rw [hb _ _ _ hx (by simp)];rw [hx] at h;exact h
theorem kR (hc:F9 call callW) (ro:Bool) (N:Nat):∀(c:aj) (env:Env) (s:St) (o:Out),aN glob call cx ro N c env s=o→o≠.fail→aC glob callW cx ro c env s=o
 | .skip,env,s,o,h,ho=>by simpa [aN,aC] using h
 | .ret,env,s,o,h,ho=>by simpa [aN,aC] using h
 | .exit id,env,s,o,h,ho=>by simpa [aN,aC] using h
 | .region ops ord keep,env,s,o,h,ho=>by
  simp only [aN,aC] at h ⊢
  cases hx:nC glob call cx ops env s ord with
  | fail=>rw [hx] at h;exact absurd h.symm ho
  | _=>rw [XD hc hx (by simp)];rw [hx] at h;exact h
 | .seq a b,env,s,o,h,ho=>by
  simp only [aN,aC] at h ⊢
  cases hx:aN glob call cx ro N a env s with
  | fail=>rw [hx] at h;exact absurd h.symm ho
  | norm env' s'=>
   rw [hx] at h
   rw [kR hc ro N a _ _ _ hx (by simp)]
   exact kR hc ro N b _ _ _ h ho
  | _=>rw [kR hc ro N a _ _ _ hx (by simp)];rw [hx] at h;exact h
 | .cond c a b,env,s,o,h,ho=>by
  simp only [aN,aC] at h ⊢
  unfold aam
  split at h
  ·rename_i hx;rw [hx];simpa using kR hc ro N a _ _ _ h ho
  ·rename_i hx;rw [hx];simpa using kR hc ro N b _ _ _ h ho
  ·exact absurd h.symm ho
 | .block id b,env,s,o,h,ho=>by
  simp only [aN,aC] at h ⊢
  cases hx:aN glob call cx ro N b env s with
  | fail=>rw [hx] at h;exact absurd h.symm ho
  | _=>rw [kR hc ro N b _ _ _ hx (by simp)];rw [hx] at h;exact h
 | .loop keep b,env,s,o,h,ho=>by
  simp only [aN,aC] at h ⊢
  exact Xn (kR hc ro N b) N h ho
 | .range f ps asg body,env,s,o,h,ho=>by
  simp only [aN,aC] at h ⊢
  split at h
  ·exact absurd h.symm ho
  ·rename_i hro
   simp only [hro]
   unfold UI
   split at h
   ·rename_i ff as cs hx
    rw [hx]
    cases hy:call (.fn ff as cs) [.yl (s.length+1)] (s++[.dfr,.loop (ql env) ps asg body .ready]) cx with
    | fail=>rw [hy] at h;exact absurd h.symm ho
    | _=>
     have:=hc _ _ _ _ _ hy (by simp)
     rw [hy] at h
     simpa [this] using h
   ·exact absurd h.symm ho
 | .label l,env,s,o,h,ho=>by simpa [aN,aC] using h
 | .goto l,env,s,o,h,ho=>by simpa [aN,aC] using h
 | .scope l keep a b,env,s,o,h,ho=>by
  simp only [aN,aC] at h ⊢
  cases hx:aN glob call cx ro N a env s with
  | fail=>rw [hx] at h;exact absurd h.symm ho
  | goto l' env' s'=>
   rw [hx] at h
   rw [kR hc ro N a _ _ _ hx (by simp)]
   simp only [Out.jmp] at h ⊢
   split at h
   ·rename_i hl;simp only [hl,if_true];exact Vf (kR hc ro N b) N h ho
   ·exact absurd h.symm ho
  | _=>rw [kR hc ro N a _ _ _ hx (by simp)];rw [hx] at h;exact h
theorem YE (hc:F9 call callW) {N:Nat} {fn:ak} {args:List AV} {s:St} {o:CO} (h:uf glob call N fn args s cx=o) (ho:o≠.fail):eF glob callW fn args s cx=o:=by
 unfold uf at h
 unfold eF
 split at h
 ·rename_i hnp
  simp only [hnp,if_true]
  cases hx:aN glob call ⟨if fn.pure then s.length else cx.lim,if fn.keep then cx.base else s.length⟩ fn.keep N fn.code (wu args 0) s with
  | fail=>rw [hx] at h;exact absurd h.symm ho
  | _=>rw [kR hc _ N _ _ _ _ hx (by simp)];rw [hx] at h;exact h
 ·exact absurd h.symm ho
theorem Xb (hc:F9 call callW) {N:Nat} {d:Jj} {args:List AV} {s:St} {o:CO} (h:pO glob call N d args s cx=o) (ho:o≠.fail):Jd glob callW d args s cx=o:=by
 have h1:Lim call (fun _=>callW):=fun fv args s cx c h hne=>⟨0,fun _ _=>hc fv args s cx c h hne⟩
 unfold pO at h
 unfold Jd
 split at h
 ·rename_i hnp
  simp only [hnp,if_true]
  cases hx:iY glob call ⟨cx.lim,s.length⟩ d.pre (wu args 0) s with
  | norm e0 s0=>
   obtain ⟨n0,hn0⟩:=Cb h1 _ hx (by simp)
   rw [hx] at h
   rw [hn0 n0 (Nat.le_refl _)]
   simp only [] at h ⊢
   cases hy:bM glob call ⟨cx.lim,s.length⟩ d.mkc e0 s0 with
   | norm e1 s1=>
    obtain ⟨n1,hn1⟩:=xX h1 hy (by simp)
    rw [hy] at h
    rw [hn1 n1 (Nat.le_refl _)]
    simp only [] at h ⊢
    split at h
    ·rename_i f caps ls hl hp
     simp only [hl,hp]
     split at h
     ·rename_i hcond
      rw [if_pos hcond]
      cases hz:aN glob call ⟨cx.lim,s.length⟩ true N d.code e1 s1 with
      | fail=>rw [hz] at h;exact absurd h.symm ho
      | _=>rw [kR hc _ N _ _ _ _ hz (by simp)];rw [hz] at h;exact h
     ·exact absurd h.symm ho
    ·exact absurd h.symm ho
   | _=>rw [hy] at h;exact absurd h.symm ho
  | _=>rw [hx] at h;exact absurd h.symm ho
 ·exact absurd h.symm ho
theorem YK (hc:F9 call callW) {N l:Nat} {args:List AV} {s:St} {o:CO} (h:AB glob call N l args s cx=o) (ho:o≠.fail):Qr glob callW l args s cx=o:=by
 unfold AB at h
 unfold Qr
 split at h
 ·rename_i env ps asg body hl
  rw [hl]
  simp only []
  split at h
  ·rename_i hcond
   simp only [hcond,and_self,if_true]
   cases hx:aN glob call cx true N asg (JY env ps args) s with
   | norm env1 s1=>
    rw [kR hc true N _ _ _ _ hx (by simp)]
    rw [hx] at h
    unfold xU
    simp only [] at h ⊢
    split at h
    ·rename_i e1 p1 a1 b1 hl1
     rw [hl1]
     simp only []
     cases hy:aN glob call cx true N body env1 (s1.set l (.loop e1 p1 a1 b1 .busy)) with
     | fail=>rw [hy] at h;exact absurd h.symm ho
     | _=>rw [kR hc true N _ _ _ _ hy (by simp)];rw [hy] at h;exact h
    ·exact absurd h.symm ho
   | _=>rw [hx] at h;exact absurd h.symm ho
  ·exact absurd h.symm ho
 ·exact absurd h.symm ho
end
theorem YD {call callW qcall qcallW:AV→List AV→St→Ctx→CO} {cx:Ctx} (hc:F9 call callW) (hq:F9 qcall qcallW) {k:HiK} {args:List AV} {s:St} {o:CO} (h:jw call qcall k args s cx=o) (ho:o≠.fail):
  jw callW qcallW k args s cx=o:=by
 have h1:Lim call (fun _=>callW):=fun fv args s cx c h hne=>⟨0,fun _ _=>hc fv args s cx c h hne⟩
 have h2:Lim qcall (fun _=>qcallW):=fun fv args s cx c h hne=>⟨0,fun _ _=>hq fv args s cx c h hne⟩
 obtain ⟨n,hn⟩:=Pv h1 h2 h ho
 exact hn n (Nat.le_refl _)
theorem OT:∀(n:Nat) (A:qV),F9 (fB A n) (dX A)
 | 0,A=>fun fv args s cx c h hne=>by simp only [fB] at h;exact absurd h.symm hne
 | n+1,A=>fun fv args s cx c h hne=>by
  have ih:=OT n A
  cases fv with
  | fn f as cs=>
   cases f with
   | func fid=>
    simp only [fB] at h
    split at h
    ·rename_i hh hin
     split at h
     ·rename_i r hr;rw [←h];exact U5 hin hr
     ·exact absurd h.symm hne
    ·rename_i hin
     split at h
     ·rename_i k hk;exact YJ hin hk hne (YD ih (OT n A.quiet) h hne)
     ·rename_i hk
      split at h
      ·rename_i d hd;exact Xe hin hk hd hne (Xb ih h hne)
      ·rename_i hd
       split at h
       ·rename_i fn hfn;exact Uw hin hk hd hfn hne (YE ih h hne)
       ·exact absurd h.symm hne
   | _=>simp only [fB] at h;exact absurd h.symm hne
  | yl l=>simp only [fB] at h;exact YI hne (YK ih h hne)
  | _=>simp only [fB] at h;exact absurd h.symm hne
theorem ZO (A:qV) (n:Nat):F9 (fB A n) (dX A):=OT n A
end Go.Ai
