/-
 The interpreter in the limit: no fuel.
-/
import Derived.Test.YtcofenimejmoeaaGreatDoorAiA1
set_option maxRecDepth 100000
set_option linter.unusedSimpArgs false
set_option linter.unusedVariables false
set_option linter.unusedSectionVars false
namespace Go.Ai
noncomputable def Nz {α:Type} (d:α) (h:Nat→α):α:=
 open Classical in if H:∃c,c≠d∧∃n,∀m,n≤m→h m=c then H.choose else d
theorem xH {α:Type} {d:α} {h:Nat→α} {c:α} {n:Nat} (hc:∀m,n≤m→h m=c):Nz d h=c:=by
 unfold Nz
 split
 ·rename_i H
  obtain ⟨_,n',hn'⟩:=H.choose_spec
  rw [←hn' (max n n') (Nat.le_max_right _ _),hc _ (Nat.le_max_left _ _)]
 ·rename_i H
  by_cases hd:c=d
  ·exact hd.symm
  ·exact absurd ⟨c,hd,n,hc⟩ H
theorem FP {α:Type} {d:α} {h:Nat→α} {c:α} (hl:Nz d h=c) (hd:c≠d):∃n,∀m,n≤m→h m=c:=by
 unfold Nz at hl
 split at hl
 ·rename_i H
  obtain ⟨_,n',hn'⟩:=H.choose_spec
  exact ⟨n',fun m hm=>(hn' m hm).trans hl⟩
 ·exact absurd hl.symm hd
theorem Po {α:Type} {d:α} {h g:Nat→α} (hs:∀n,h (n+1)=g n):Nz d h=Nz d g:=by
 by_cases hg:Nz d g=d
 ·rw [hg]
  by_cases hh:Nz d h=d
  ·exact hh
  ·obtain ⟨n,hn⟩:=FP rfl hh
   have:=xH (d:=d) (h:=g) (c:=Nz d h) (n:=n) (fun m hm=>by rw [←hs];exact hn _ (by omega))
   rw [←this,hg]
 ·obtain ⟨n,hn⟩:=FP rfl hg
  exact xH (n:=n+1) (fun m hm=>by obtain ⟨k,rfl⟩:∃k,m=k+1:=⟨m - 1,by omega⟩;rw [hs];exact hn k (by omega))
def Out.thn (o:Out) (f:Env→St→Out):Out:=
 match o with
 | .norm env s=>f env s
 | o=>o
def Out.blk (id:Nat) (o:Out):Out:=
 match o with
 | .exit id' env s=>if id'=id then .norm env s else .exit id' env s
 | o=>o
def acv (x:Option AV) (a b:Unit→Out):Out:=
 match x with
 | some (.b x)=>if x=true then a () else b ()
 | _=>.fail
noncomputable def eX (body:Env→St→Out) (keep:List Nat) (env:Env) (s:St):Out:=Nz .fail (fun N=>uJ body keep N env s)
theorem VD (body:Env→St→Out) (keep:List Nat) (env:Env) (s:St):eX body keep env s=(body (jT env keep) s).thn (eX body keep):=by
 unfold eX
 cases hb:body (jT env keep) s with
 | norm env' s'=>exact Po (fun n=>by simp [uJ,hb])
 | _=>exact xH (n:=1) (fun m hm=>by obtain ⟨k,rfl⟩:∃k,m=k+1:=⟨m - 1,by omega⟩;simp [uJ,hb,Out.thn])
noncomputable def J8 (body:Env→St→Out) (l:Nat) (keep:List Nat) (env:Env) (s:St):Out:=Nz .fail (fun N=>ny body l keep N env s)
def Out.jmp (l:Nat) (o:Out) (f:Env→St→Out):Out:=
 match o with
 | .goto l' env s=>if l'=l then f env s else .fail
 | o=>o
theorem Yx (body:Env→St→Out) (l:Nat) (keep:List Nat) (env:Env) (s:St):J8 body l keep env s=(body (jT env keep) s).jmp l (J8 body l keep):=by
 unfold J8
 cases hb:body (jT env keep) s with
 | goto l' env' s'=>
  by_cases hl:l'=l
  ·simp only [Out.jmp,hl,if_true]
   exact Po (fun n=>by simp [ny,hb,hl])
  ·exact xH (n:=1) (fun m hm=>by obtain ⟨k,rfl⟩:∃k,m=k+1:=⟨m - 1,by omega⟩;simp [ny,hb,Out.jmp,hl])
 | _=>exact xH (n:=1) (fun m hm=>by obtain ⟨k,rfl⟩:∃k,m=k+1:=⟨m - 1,by omega⟩;simp [ny,hb,Out.jmp])
section
variable (glob:Nat→Option (List AV))
def Ep (x:Option AV) (call:AV→List AV→St→Ctx→CO) (cx:Ctx) (ps:List Nat) (asg body:aQ) (env:Env) (s:St):Out:=
 match x with
 | some (.fn ff as cs)=>match call (.fn ff as cs) [.yl (s.length+1)] (s++[.dfr,.loop (oC env) ps asg body .ready]) cx with
  | .ret _ s'=>CX env s' (s.length+1)
  | _=>.fail
 | _=>.fail
noncomputable def au (call:AV→List AV→St→Ctx→CO) (cx:Ctx) (ro:Bool):aQ→Env→St→Out
 | .skip,env,s=>.norm env s
 | .ret,env,s=>.ret env s
 | .exit id,env,s=>.exit id env s
 | .region ops ord keep,env,s=>(ou glob call cx ops env s ord).thn fun env s=>.norm (jT env keep) s
 | .seq a b,env,s=>(au call cx ro a env s).thn (au call cx ro b)
 | .cond c a b,env,s=>acv (rd glob env c) (fun _=>au call cx ro a env s) (fun _=>au call cx ro b env s)
 | .block id b,env,s=>(au call cx ro b env s).blk id
 | .loop keep b,env,s=>eX (au call cx ro b) keep env s
 | .range f ps asg body,env,s=>if ro=true then .fail else Ep (rd glob env f) call cx ps asg body env s
 | .label _,env,s=>.norm env s
 | .goto l,env,s=>.goto l env s
 | .scope l keep a b,env,s=>(au call cx ro a env s).jmp l (J8 (au call cx ro b) l keep)
def endW (pure keep:Bool) (s:St) (res:List RV) (o:Out):CO:=
 match o with
 | .norm env s1 | .ret env s1=>match kV glob env s1 res with
  | some rs=>finish pure keep s s1 (pY rs)
  | none=>.fail
 | .pan v s1=>(finish pure keep s s1 v).toPan
 | _=>.fail
noncomputable def af (call:AV→List AV→St→Ctx→CO) (fn:aW) (args:List AV) (s:St) (cx:Ctx):CO:=
 if args.length=fn.np then
  endW glob fn.pure fn.keep s fn.res (au glob call ⟨if fn.pure=true then s.length else cx.lim,if fn.keep=true then cx.base else s.length⟩ fn.keep fn.code (vS args 0) s)
 else .fail
noncomputable def ab5 (callW:AV→List AV→St→Ctx→CO) (cx:Ctx) (m:Option aQ) (env:Env) (s:St):Out:=
 match m with
 | none=>.norm env s
 | some c=>au glob callW cx true c env s
noncomputable def Fe (callW:AV→List AV→St→Ctx→CO) (d:FD) (args:List AV) (s:St) (cx:Ctx):CO:=
 if args.length=d.np then
  match jH glob callW ⟨cx.lim,s.length⟩ d.pre (vS args 0) s with
  | .norm envm sm=>match ab5 glob callW ⟨cx.lim,s.length⟩ d.mid envm sm with
   | .ret env2 s2=>(match kV glob env2 s2 d.res with
    | some rs=>finish false false s s2 (pY rs)
    | none=>.fail)
   | .norm vS s0=>(match dJ glob callW ⟨cx.lim,s.length⟩ d.mkc vS s0 with
    | .norm env1 s1=>match lk env1 d.ct,d.pins.mapM (placeOf env1) with
     | some (.v (.fn (.func f) [] caps)),some ls=>
      if f=d.clo∧JQ caps ls=true then
       match au glob callW ⟨cx.lim,s.length⟩ true d.code env1 s1 with
       | .norm env2 s2 | .ret env2 s2=>match kV glob env2 s2 d.res with
        | some rs=>finish false false s s2 (pY rs)
        | none=>.fail
       | .pan v s2=>match d.hnd v with
        | some news=>if uX s.length s2 ls news=true then
          (match kV glob (CW d.pins ls) (lG s2 ls news) d.res with
          | some rs=>finish false false s (lG s2 ls news) (pY rs)
          | none=>.fail) else .fail
        | none=>.fail
       | _=>.fail
      else .fail
     | _,_=>.fail
    | _=>.fail)
   | _=>.fail
  | _=>.fail
 else .fail
def FU (l:Nat) (o:Out):CO:=
 match o with
 | .norm _ s2=>oJ s2 l .ready true
 | .ret _ s2=>oJ s2 l .ret false
 | .exit id _ s2=>oJ s2 l (.exit id) false
 | _=>.fail
noncomputable def vV (call:AV→List AV→St→Ctx→CO) (cx:Ctx) (body:aQ) (l:Nat) (o:Out):CO:=
 match o with
 | .norm env1 s1=>match s1[l]? with
  | some (.loop e1 p1 a1 b1 .ready)=>FU l (au glob call cx true body env1 (s1.set l (.loop e1 p1 a1 b1 .busy)))
  | _=>.fail
 | _=>.fail
noncomputable def Ho (call:AV→List AV→St→Ctx→CO) (l:Nat) (args:List AV) (s:St) (cx:Ctx):CO:=
 match s[l]? with
 | some (.loop env ps asg body .ready)=>
  if ps.length=args.length∧cx.lim≤l then
   vV glob call cx body l (au glob call cx true asg (BF env ps args) s)
  else .fail
 | _=>.fail
end
section
variable {glob:Nat→Option (List AV)} {callW:AV→List AV→St→Ctx→CO} {call:Nat→AV→List AV→St→Ctx→CO} {cx:Ctx}
def Lim (callW:AV→List AV→St→Ctx→CO) (call:Nat→AV→List AV→St→Ctx→CO):Prop:=
 ∀fv args s cx c,callW fv args s cx=c→c≠.fail→∃n,∀m,n≤m→call m fv args s cx=c
theorem QC (hc:Lim callW call) {env:Env} {s:St} {op:AOp} {o:RO} (h:aop glob callW cx env s op=o) (ho:o≠.fail):
  ∃n,∀m,n≤m→aop glob (call m) cx env s op=o:=by
 by_cases hch:∃d f as k,op=.callh d f as k
 ·obtain ⟨d,f,as,k,rfl⟩:=hch
  simp only [aop] at h ⊢
  split at h
  ·exact absurd h.symm ho
  ·split at h
   ·rename_i fv as' h1 h2
    cases hx:callW fv as' s cx with
    | fail=>rw [hx] at h;exact absurd h.symm ho
    | ret r s'=>
     obtain ⟨n,hn⟩:=hc _ _ _ _ _ hx (by simp)
     exact ⟨n,fun m hm=>by rw [hn m hm];rw [hx] at h;exact h⟩
    | pan r s'=>
     obtain ⟨n,hn⟩:=hc _ _ _ _ _ hx (by simp)
     exact ⟨n,fun m hm=>by rw [hn m hm];rw [hx] at h;exact h⟩
   ·exact absurd h.symm ho
 by_cases hcall:∃f as,op=.call f as∨op=.callp f as
 ·obtain ⟨f,as,hop⟩:=hcall
  have hcp:∀c:AV→List AV→St→Ctx→CO,aop glob c cx env s op=aop glob c cx env s (.call f as):=by rcases hop with rfl|rfl<;>exact fun _=>rfl
  simp only [hcp] at h ⊢
  clear hop hcp
  simp only [aop] at h ⊢
  split at h
  ·rename_i fv as' env' h1 h2
   cases hx:callW fv as' s cx with
   | fail=>rw [hx] at h;exact absurd h.symm ho
   | ret r s'=>
    obtain ⟨n,hn⟩:=hc _ _ _ _ _ hx (by simp)
    exact ⟨n,fun m hm=>by rw [hn m hm];rw [hx] at h;exact h⟩
   | pan r s'=>
    obtain ⟨n,hn⟩:=hc _ _ _ _ _ hx (by simp)
    exact ⟨n,fun m hm=>by rw [hn m hm];rw [hx] at h;exact h⟩
  ·exact absurd h.symm ho
 ·refine ⟨0,fun m _=>?_⟩
  rw [←h]
  cases op with
  | call f as=>exact absurd ⟨_,_,.inl rfl⟩ hcall
  | callp f as=>exact absurd ⟨_,_,.inr rfl⟩ hcall
  | callh d f as k=>exact absurd ⟨_,_,_,_,rfl⟩ hch
  | len k x=>rcases k with _ | _ | _|k<;>rfl
  | _=>rfl
theorem wW (hc:Lim callW call) {env:Env} {s:St} {p:aC} {o:Out} (h:dJ glob callW cx p env s=o) (ho:o≠.fail):
  ∃n,∀m,n≤m→dJ glob (call m) cx p env s=o:=by
 unfold dJ at h ⊢
 split at h
 ·exact absurd h.symm ho
 ·exact ⟨0,fun m _=>h⟩
 ·cases hx:aop glob callW cx env s p.op with
  | fail=>rw [hx] at h;exact absurd h.symm ho
  | ok e env' s'=>
   obtain ⟨n,hn⟩:=QC hc hx (by simp)
   exact ⟨n,fun m hm=>by rw [hn m hm];rw [hx] at h;exact h⟩
  | pan v s'=>
   obtain ⟨n,hn⟩:=QC hc hx (by simp)
   exact ⟨n,fun m hm=>by rw [hn m hm];rw [hx] at h;exact h⟩
theorem Ar (hc:Lim callW call):∀(ops:List aC) {env:Env} {s:St} {o:Out},jH glob callW cx ops env s=o→o≠.fail→
  ∃n,∀m,n≤m→jH glob (call m) cx ops env s=o
 | [],env,s,o,h,ho=>⟨0,fun m _=>h⟩
 | p::r,env,s,o,h,ho=>by
  simp only [jH] at h ⊢
  cases hx:dJ glob callW cx p env s with
  | fail=>rw [hx] at h;exact absurd h.symm ho
  | norm env' s'=>
   rw [hx] at h
   obtain ⟨n,hn⟩:=wW hc hx (by simp)
   obtain ⟨n',hn'⟩:=Ar hc r h ho
   exact ⟨max n n',fun m hm=>by rw [hn m (by omega)];exact hn' m (by omega)⟩
  | _=>
   obtain ⟨n,hn⟩:=wW hc hx (by simp)
   exact ⟨n,fun m hm=>by rw [hn m hm];rw [hx] at h;exact h⟩
theorem YC (hc:Lim callW call) {env:Env} {s:St} {p:aC} {e:EV} (h:qL glob callW p env s=some e):
  ∃n,∀m,n≤m→qL glob (call m) p env s=some e:=by
 unfold qL at h ⊢
 split at h
 ·cases h
 ·exact ⟨0,fun m _=>h⟩
 ·split at h
  ·rename_i hq
   simp only [hq,if_true]
   cases hx:aop glob callW ⟨s.length,s.length⟩ env s p.op with
   | fail=>rw [hx] at h;cases h
   | ok e env' s'=>
    obtain ⟨n,hn⟩:=QC hc hx (by simp)
    exact ⟨n,fun m hm=>by rw [hn m hm];rw [hx] at h;exact h⟩
   | pan v s'=>rw [hx] at h;cases h
  ·cases h
theorem SA (hc:Lim callW call) {env:Env} {s:St} {p:aC} {o:Out} (h:fE glob callW cx p env s=o) (ho:o≠.fail):
  ∃n,∀m,n≤m→fE glob (call m) cx p env s=o:=by
 unfold fE at h ⊢
 split at h
 ·rename_i hq
  simp only [hq,if_true]
  unfold yM at h ⊢
  cases hx:qL glob callW p env s with
  | none=>rw [hx] at h;exact absurd h.symm ho
  | some e=>
   obtain ⟨n,hn⟩:=YC hc hx
   exact ⟨n,fun m hm=>by rw [hn m hm];rw [hx] at h;exact h⟩
 ·rename_i hq
  simp only [hq]
  exact wW hc h ho
theorem yN (hc:Lim callW call) (aops:List aC):∀(l:List Nat) {env:Env} {s:St} {o:Out},gY glob callW cx aops l env s=o→o≠.fail→
  ∃n,∀m,n≤m→gY glob (call m) cx aops l env s=o
 | [],env,s,o,h,ho=>⟨0,fun m _=>h⟩
 | i::r,env,s,o,h,ho=>by
  simp only [gY] at h ⊢
  split at h
  ·exact absurd h.symm ho
  ·rename_i p hp
   cases hx:fE glob callW cx p env s with
   | fail=>rw [hx] at h;exact absurd h.symm ho
   | norm env' s'=>
    rw [hx] at h
    obtain ⟨n,hn⟩:=SA hc hx (by simp)
    obtain ⟨n',hn'⟩:=yN hc aops r h ho
    exact ⟨max n n',fun m hm=>by rw [hn m (by omega)];exact hn' m (by omega)⟩
   | _=>
    obtain ⟨n,hn⟩:=SA hc hx (by simp)
    exact ⟨n,fun m hm=>by rw [hn m hm];rw [hx] at h;exact h⟩
theorem Vl (hc:Lim callW call) {ops:List aC} {π:List Nat} {env:Env} {s:St} {o:Out} (h:zo glob callW cx ops π env s=o) (ho:o≠.fail):
  ∃n,∀m,n≤m→zo glob (call m) cx ops π env s=o:=by
 unfold zo at h ⊢
 split at h
 ·exact absurd h.symm ho
 ·rename_i c oc hpc
  split at h
  ·rename_i hall
   cases hx:gY glob callW cx ops (yx ops c oc false π) env s with
   | norm env1 s1=>
    rw [hx] at h
    simp only [] at h
    cases hy:dJ glob callW cx oc env1 s1 with
    | pan v s2=>
     rw [hy] at h
     obtain ⟨n,hn⟩:=yN hc ops _ hx (by simp)
     obtain ⟨n',hn'⟩:=wW hc hy (by simp)
     refine ⟨max n n',fun m hm=>?_⟩
     rw [hn m (by omega)]
     simp only []
     rw [if_pos hall,hn' m (by omega)]
     exact h
    | _=>rw [hy] at h;exact absurd h.symm ho
   | _=>rw [hx] at h;exact absurd h.symm ho
  ·exact absurd h.symm ho
theorem LH (hc:Lim callW call) {ops:List aC} {ord:Option (List Nat×List Nat)} {env:Env} {s:St} {o:Out} (h:ou glob callW cx ops env s ord=o) (ho:o≠.fail):
  ∃n,∀m,n≤m→ou glob (call m) cx ops env s ord=o:=by
 cases ord with
 | none=>exact Ar hc ops h ho
 | some p=>
  simp only [ou] at h ⊢
  cases hx:gY glob callW cx ops p.1 (BB env p.2) s with
  | fail=>rw [hx] at h;exact absurd h.symm ho
  | pan v s1=>
   rw [hx] at h
   obtain ⟨n,hn⟩:=yN hc ops p.1 hx (by simp)
   obtain ⟨n',hn'⟩:=Vl hc (h:zo glob callW cx ops p.1 (BB env p.2) s=o) ho
   exact ⟨max n n',fun m hm=>by rw [hn m (by omega)];exact hn' m (by omega)⟩
  | _=>
   obtain ⟨n,hn⟩:=yN hc ops p.1 hx (by simp)
   exact ⟨n,fun m hm=>by rw [hn m hm];rw [hx] at h;exact h⟩
theorem SS {vV:Env→St→Out} {body:Nat→Env→St→Out} {keep:List Nat} (hb:∀env s o,vV env s=o→o≠.fail→∃n,∀m,n≤m→body m env s=o):
  ∀(N0:Nat) {env:Env} {s:St} {o:Out},uJ vV keep N0 env s=o→o≠.fail→∃n,∀m,n≤m→∀N,N0≤N→uJ (body m) keep N env s=o
 | 0,env,s,o,h,ho=>absurd h.symm ho
 | N0+1,env,s,o,h,ho=>by
  simp only [uJ] at h
  cases hx:vV (jT env keep) s with
  | fail=>rw [hx] at h;exact absurd h.symm ho
  | norm env' s'=>
   rw [hx] at h
   obtain ⟨n,hn⟩:=hb _ _ _ hx (by simp)
   obtain ⟨n',hn'⟩:=SS hb N0 h ho
   refine ⟨max n n',fun m hm N hN=>?_⟩
   obtain ⟨k,rfl⟩:∃k,N=k+1:=⟨N - 1,by omega⟩
   simp only [uJ]
   rw [hn m (by omega)];exact hn' m (by omega) k (by omega)
  | _=>
   obtain ⟨n,hn⟩:=hb _ _ _ hx (by simp)
   refine ⟨n,fun m hm N hN=>?_⟩
   obtain ⟨k,rfl⟩:∃k,N=k+1:=⟨N - 1,by omega⟩
   simp only [uJ]
   rw [hn m hm];rw [hx] at h;exact h
theorem Ol {vV:Env→St→Out} {body:Nat→Env→St→Out} {l:Nat} {keep:List Nat} (hb:∀env s o,vV env s=o→o≠.fail→∃n,∀m,n≤m→body m env s=o):
  ∀(N0:Nat) {env:Env} {s:St} {o:Out},ny vV l keep N0 env s=o→o≠.fail→∃n,∀m,n≤m→∀N,N0≤N→ny (body m) l keep N env s=o
 | 0,env,s,o,h,ho=>absurd h.symm ho
 | N0+1,env,s,o,h,ho=>by
  simp only [ny] at h
  cases hx:vV (jT env keep) s with
  | fail=>rw [hx] at h;exact absurd h.symm ho
  | goto l' env' s'=>
   rw [hx] at h
   simp only [] at h
   split at h
   ·rename_i hl
    obtain ⟨n,hn⟩:=hb _ _ _ hx (by simp)
    obtain ⟨n',hn'⟩:=Ol hb N0 h ho
    refine ⟨max n n',fun m hm N hN=>?_⟩
    obtain ⟨k,rfl⟩:∃k,N=k+1:=⟨N - 1,by omega⟩
    simp only [ny]
    rw [hn m (by omega)]
    simp only [hl,if_true]
    exact hn' m (by omega) k (by omega)
   ·exact absurd h.symm ho
  | _=>
   obtain ⟨n,hn⟩:=hb _ _ _ hx (by simp)
   refine ⟨n,fun m hm N hN=>?_⟩
   obtain ⟨k,rfl⟩:∃k,N=k+1:=⟨N - 1,by omega⟩
   simp only [ny]
   rw [hn m hm];rw [hx] at h;exact h
theorem iL (hc:Lim callW call) (ro:Bool):∀(c:aQ) (env:Env) (s:St) (o:Out),au glob callW cx ro c env s=o→o≠.fail→
  ∃n,∀m,n≤m→bg glob (call m) cx ro m c env s=o
 | .skip,env,s,o,h,ho=>⟨0,fun m _=>by simpa [bg,au] using h⟩
 | .ret,env,s,o,h,ho=>⟨0,fun m _=>by simpa [bg,au] using h⟩
 | .exit id,env,s,o,h,ho=>⟨0,fun m _=>by simpa [bg,au] using h⟩
 | .region ops ord keep,env,s,o,h,ho=>by
  simp only [bg,au] at h ⊢
  cases hx:ou glob callW cx ops env s ord with
  | fail=>rw [hx] at h;exact absurd h.symm ho
  | _=>
   obtain ⟨n,hn⟩:=LH hc hx (by simp)
   exact ⟨n,fun m hm=>by rw [hn m hm];rw [hx] at h;exact h⟩
 | .seq a b,env,s,o,h,ho=>by
  simp only [bg,au] at h ⊢
  cases hx:au glob callW cx ro a env s with
  | fail=>rw [hx] at h;exact absurd h.symm ho
  | norm env' s'=>
   rw [hx] at h
   obtain ⟨n,hn⟩:=iL hc ro a _ _ _ hx (by simp)
   obtain ⟨n',hn'⟩:=iL hc ro b _ _ _ h ho
   exact ⟨max n n',fun m hm=>by rw [hn m (by omega)];exact hn' m (by omega)⟩
  | _=>
   obtain ⟨n,hn⟩:=iL hc ro a _ _ _ hx (by simp)
   exact ⟨n,fun m hm=>by rw [hn m hm];rw [hx] at h;exact h⟩
 | .cond c a b,env,s,o,h,ho=>by
  simp only [bg,au] at h ⊢
  unfold acv at h
  split at h
  ·rename_i x hx
   rw [hx]
   cases x with
   | true=>exact iL hc ro a _ _ _ (by simpa using h) ho
   | false=>exact iL hc ro b _ _ _ (by simpa using h) ho
  ·exact absurd h.symm ho
 | .block id b,env,s,o,h,ho=>by
  simp only [bg,au] at h ⊢
  cases hx:au glob callW cx ro b env s with
  | fail=>rw [hx] at h;exact absurd h.symm ho
  | _=>
   obtain ⟨n,hn⟩:=iL hc ro b _ _ _ hx (by simp)
   exact ⟨n,fun m hm=>by rw [hn m hm];rw [hx] at h;exact h⟩
 | .loop keep b,env,s,o,h,ho=>by
  simp only [bg,au] at h ⊢
  obtain ⟨N0,hN⟩:=FP h ho
  obtain ⟨n,hn⟩:=SS (body:=fun m=>bg glob (call m) cx ro m b) (iL hc ro b) N0 (hN N0 (Nat.le_refl _)) ho
  exact ⟨max n N0,fun m hm=>hn m (by omega) m (by omega)⟩
 | .range f ps asg body,env,s,o,h,ho=>by
  simp only [bg,au] at h ⊢
  split at h
  ·exact absurd h.symm ho
  ·rename_i hro
   simp only [hro]
   unfold Ep at h
   split at h
   ·rename_i ff as cs hx
    rw [hx]
    simp only []
    cases hy:callW (.fn ff as cs) [.yl (s.length+1)] (s++[.dfr,.loop (oC env) ps asg body .ready]) cx with
    | fail=>rw [hy] at h;exact absurd h.symm ho
    | _=>
     obtain ⟨n,hn⟩:=hc _ _ _ _ _ hy (by simp)
     exact ⟨n,fun m hm=>by rw [hn m hm];rw [hy] at h;exact h⟩
   ·exact absurd h.symm ho
 | .label l,env,s,o,h,ho=>⟨0,fun m _=>by simpa [bg,au] using h⟩
 | .goto l,env,s,o,h,ho=>⟨0,fun m _=>by simpa [bg,au] using h⟩
 | .scope l keep a b,env,s,o,h,ho=>by
  simp only [bg,au] at h ⊢
  cases hx:au glob callW cx ro a env s with
  | fail=>rw [hx] at h;exact absurd h.symm ho
  | goto l' env' s'=>
   rw [hx] at h
   simp only [Out.jmp] at h
   split at h
   ·rename_i hl
    obtain ⟨n,hn⟩:=iL hc ro a _ _ _ hx (by simp)
    obtain ⟨N0,hN⟩:=FP h ho
    obtain ⟨n',hn'⟩:=Ol (body:=fun m=>bg glob (call m) cx ro m b) (iL hc ro b) N0 (hN N0 (Nat.le_refl _)) ho
    exact ⟨max n (max n' N0),fun m hm=>by rw [hn m (by omega)];simp only [hl,if_true];exact hn' m (by omega) m (by omega)⟩
   ·exact absurd h.symm ho
  | _=>
   obtain ⟨n,hn⟩:=iL hc ro a _ _ _ hx (by simp)
   exact ⟨n,fun m hm=>by rw [hn m hm];rw [hx] at h;exact h⟩
theorem V8 (hc:Lim callW call) {fn:aW} {args:List AV} {s:St} {o:CO} (h:af glob callW fn args s cx=o) (ho:o≠.fail):
  ∃n,∀m,n≤m→uF glob (call m) m fn args s cx=o:=by
 unfold af at h
 unfold uF
 split at h
 ·rename_i hnp
  simp only [hnp,if_true]
  cases hx:au glob callW ⟨if fn.pure=true then s.length else cx.lim,if fn.keep=true then cx.base else s.length⟩ fn.keep fn.code (vS args 0) s with
  | fail=>rw [hx] at h;exact absurd h.symm ho
  | _=>
   obtain ⟨n,hn⟩:=iL hc _ _ _ _ _ hx (by simp)
   exact ⟨n,fun m hm=>by rw [hn m hm];rw [hx] at h;exact h⟩
 ·exact absurd h.symm ho
theorem Vu (hc:Lim callW call) {m:Option aQ} {env:Env} {s:St} {o:Out} (h:ab5 glob callW cx m env s=o) (ho:o≠.fail):
  ∃n,∀k,n≤k→Bg glob (call k) cx k m env s=o:=by
 cases m with
 | none=>exact ⟨0,fun _ _=>h⟩
 | some c=>exact iL hc _ _ _ _ _ h ho
theorem UJ (hc:Lim callW call) {d:FD} {args:List AV} {s:St} {o:CO} (h:Fe glob callW d args s cx=o) (ho:o≠.fail):
  ∃n,∀m,n≤m→qE glob (call m) m d args s cx=o:=by
 unfold Fe at h
 unfold qE
 split at h
 ·rename_i hnp
  simp only [hnp,if_true]
  cases hxm:jH glob callW ⟨cx.lim,s.length⟩ d.pre (vS args 0) s with
  | norm em sm=>
   obtain ⟨nm,hnm⟩:=Ar hc _ hxm (by simp)
   rw [hxm] at h
   simp only [] at h
   cases hx:ab5 glob callW ⟨cx.lim,s.length⟩ d.mid em sm with
   | ret e2 s2=>
    obtain ⟨n0,hn0⟩:=Vu hc hx (by simp)
    rw [hx] at h
    refine ⟨max nm n0,fun m hm=>?_⟩
    rw [hnm m (by omega)]
    simp only []
    rw [hn0 m (by omega)]
    exact h
   | norm e0 s0=>
    obtain ⟨n0,hn0⟩:=Vu hc hx (by simp)
    rw [hx] at h
    simp only [] at h
    cases hy:dJ glob callW ⟨cx.lim,s.length⟩ d.mkc e0 s0 with
    | norm e1 s1=>
     obtain ⟨n1,hn1⟩:=wW hc hy (by simp)
     rw [hy] at h
     simp only [] at h
     split at h
     ·rename_i f caps ls hl hp
      split at h
      ·rename_i hcond
       cases hz:au glob callW ⟨cx.lim,s.length⟩ true d.code e1 s1 with
       | fail=>rw [hz] at h;exact absurd h.symm ho
       | _=>
        obtain ⟨n,hn⟩:=iL hc _ _ _ _ _ hz (by simp)
        refine ⟨max nm (max n (max n0 n1)),fun m hm=>?_⟩
        rw [hnm m (by omega)]
        simp only []
        rw [hn0 m (by omega)]
        simp only []
        rw [hn1 m (by omega)]
        simp only [hl,hp]
        rw [if_pos hcond,hn m (by omega)]
        rw [hz] at h;exact h
      ·exact absurd h.symm ho
     ·exact absurd h.symm ho
    | _=>rw [hy] at h;exact absurd h.symm ho
   | _=>rw [hx] at h;exact absurd h.symm ho
  | _=>rw [hxm] at h;exact absurd h.symm ho
 ·exact absurd h.symm ho
theorem WG (hc:Lim callW call) {l:Nat} {args:List AV} {s:St} {o:CO} (h:Ho glob callW l args s cx=o) (ho:o≠.fail):
  ∃n,∀m,n≤m→zh glob (call m) m l args s cx=o:=by
 unfold Ho at h
 unfold zh
 split at h
 ·rename_i env ps asg body hl
  rw [hl]
  simp only []
  split at h
  ·rename_i hcond
   simp only [hcond,and_self,if_true]
   cases hx:au glob callW cx true asg (BF env ps args) s with
   | norm env1 s1=>
    obtain ⟨n,hn⟩:=iL hc true _ _ _ _ hx (by simp)
    rw [hx] at h
    unfold vV at h
    simp only [] at h
    split at h
    ·rename_i e1 p1 a1 b1 hl1
     cases hy:au glob callW cx true body env1 (s1.set l (.loop e1 p1 a1 b1 .busy)) with
     | fail=>rw [hy] at h;exact absurd h.symm ho
     | _=>
      obtain ⟨n',hn'⟩:=iL hc true _ _ _ _ hy (by simp)
      exact ⟨max n n',fun m hm=>by rw [hn m (by omega)];simp only [hl1];rw [hn' m (by omega)];rw [hy] at h;exact h⟩
    ·exact absurd h.symm ho
   | _=>rw [hx] at h;exact absurd h.symm ho
  ·exact absurd h.symm ho
 ·exact absurd h.symm ho
end
theorem Pm {α β:Type} {f:α→Option β} {g:Nat→α→Option β}:∀(l:List α) {r:List β},(∀x∈l,∀y,f x=some y→∃n,∀m,n≤m→g m x=some y)→l.mapM f=some r→∃n,∀m,n≤m→l.mapM (g m)=some r
 | [],r,_,h=>⟨0,fun m _=>by simpa using h⟩
 | x::l,r,hf,h=>by
  simp only [List.mapM_cons,Option.bind_eq_bind,Option.pure_def] at h ⊢
  cases hx:f x with
  | none=>simp [hx] at h
  | some y=>
   cases hl:l.mapM f with
   | none=>simp [hx,hl] at h
   | some ys=>
    simp [hx,hl] at h
    subst h
    obtain ⟨n,hn⟩:=hf x (by simp) y hx
    obtain ⟨n',hn'⟩:=Pm l (fun z hz=>hf z (by simp [hz])) hl
    exact ⟨max n n',fun m hm=>by rw [hn m (by omega),hn' m (by omega)];rfl⟩
theorem Zu {callW:AV→List AV→St→Ctx→CO} {call:Nat→AV→List AV→St→Ctx→CO} (hc:Lim callW call) {g:Nat} {x y:AV} {r:Int} (h:Zv callW g x y=some r):
  ∃n,∀m,n≤m→Zv (call m) g x y=some r:=by
 unfold Zv at h ⊢
 cases hx:callW (.fn (.func g) [] []) [x,y] [] ⟨0,0⟩ with
 | fail=>rw [hx] at h;cases h
 | pan v s=>rw [hx] at h;cases h
 | ret v s=>
  obtain ⟨n,hn⟩:=hc _ _ _ _ _ hx (by simp)
  exact ⟨n,fun m hm=>by rw [hn m hm];rw [hx] at h;exact h⟩
theorem V6 {callW:AV→List AV→St→Ctx→CO} {call:Nat→AV→List AV→St→Ctx→CO} (hc:Lim callW call) {g:Nat} {es:List AV} {tab:List (List Int)} (h:UH callW g es=some tab):
  ∃n,∀m,n≤m→UH (call m) g es=some tab:=
 Pm (g:=fun m x=>es.mapM fun y=>Zv (call m) g x y) es (fun _ _ _ hx=>Pm (g:=fun m y=>Zv (call m) g _ y) es (fun _ _ _ hy=>Zu hc hy) hx) h
theorem MN {callW qcallW:AV→List AV→St→Ctx→CO} {call qcall:Nat→AV→List AV→St→Ctx→CO} {cx:Ctx} (hc:Lim callW call) (hq:Lim qcallW qcall) {k:HiK} {args:List AV} {s:St} {o:CO}
  (h:jr callW qcallW k args s cx=o) (ho:o≠.fail):∃n,∀m,n≤m→jr (call m) (qcall m) k args s cx=o:=by
 unfold jr at h
 split at h
 ·rename_i r f as cs
  cases hx:callW (.fn (.func f) as cs) [] s cx with
  | ret r1 s1=>
   obtain ⟨n,hn⟩:=hc _ _ _ _ _ hx (by simp)
   exact ⟨n,fun m hm=>by simp only [jr,hn m hm];rw [hx] at h;exact h⟩
  | pan r1 s1=>
   obtain ⟨n,hn⟩:=hc _ _ _ _ _ hx (by simp)
   exact ⟨n,fun m hm=>by simp only [jr,hn m hm];rw [hx] at h;exact h⟩
  | fail=>rw [hx] at h;exact absurd h.symm ho
 ·exact ⟨0,fun m _=>by simpa [jr] using h⟩
 ·exact ⟨0,fun m _=>by simpa [jr] using h⟩
 ·rename_i k0 l ver sz o m g
  split at h
  ·exact ⟨0,fun m _=>by simpa [jr] using h⟩
  ·rename_i n t sz' ver' cs hl
   split at h
   ·rename_i hcond
    cases hx:UH qcallW g (chunk sz (n+1) (cs.drop o)) with
    | none=>rw [hx] at h;exact absurd h.symm ho
    | some tab=>
     obtain ⟨n1,hn⟩:=V6 hq hx
     exact ⟨n1,fun m hm=>by simp only [jr,hl];rw [if_pos hcond,hn m hm];rw [hx] at h;exact h⟩
   ·exact absurd h.symm ho
  ·exact absurd h.symm ho
 ·exact ⟨0,fun m _=>by simpa [jr] using h⟩
 ·exact ⟨0,fun m _=>by simp only [jr];exact h⟩
 ·rename_i f t z e es
  cases hx:callW (.fn (.func f) [] []) [.pt s.length 0] (s++[.cells [.sl (e::es)]]) cx with
  | ret r1 s1=>
   obtain ⟨n,hn⟩:=hc _ _ _ _ _ hx (by simp)
   exact ⟨n,fun m hm=>by simp only [jr,hn m hm];rw [hx] at h;exact h⟩
  | pan r1 s1=>
   obtain ⟨n,hn⟩:=hc _ _ _ _ _ hx (by simp)
   exact ⟨n,fun m hm=>by simp only [jr,hn m hm];rw [hx] at h;exact h⟩
  | fail=>rw [hx] at h;exact absurd h.symm ho
 ·exact absurd h.symm ho
noncomputable def ai (A:qY) (fv:AV) (args:List AV) (s:St) (cx:Ctx):CO:=Nz .fail fun n=>gU A n fv args s cx
theorem zX (A:qY):Lim (ai A) (gU A):=fun fv args s cx c h hc=>FP h hc
theorem TN {A:qY} {f:Nat} {fn:aW} (hi:A.intr f=none) (hh:A.hi f=none) (hd:A.dfr f=none) (hf:A.fns f=some fn) {as cs args:List AV} {s:St} {cx:Ctx} {o:CO} (ho:o≠.fail)
  (h:af A.glob (ai A) fn (as++args++cs) s cx=o):ai A (.fn (.func f) as cs) args s cx=o:=by
 obtain ⟨n,hn⟩:=V8 (zX A) h ho
 exact xH (n:=n+1) (fun m hm=>by obtain ⟨k,rfl⟩:∃k,m=k+1:=⟨m - 1,by omega⟩;simp only [gU,hi,hh,hd,hf];exact hn k (by omega))
theorem XM {A:qY} {f:Nat} {d:FD} (hi:A.intr f=none) (hh:A.hi f=none) (hf:A.dfr f=some d) {as cs args:List AV} {s:St} {cx:Ctx} {o:CO} (ho:o≠.fail)
  (h:Fe A.glob (ai A) d (as++args++cs) s cx=o):ai A (.fn (.func f) as cs) args s cx=o:=by
 obtain ⟨n,hn⟩:=UJ (zX A) h ho
 exact xH (n:=n+1) (fun m hm=>by obtain ⟨k,rfl⟩:∃k,m=k+1:=⟨m - 1,by omega⟩;simp only [gU,hi,hh,hf];exact hn k (by omega))
theorem Lm {A:qY} {f:Nat} {k:HiK} (hi:A.intr f=none) (hf:A.hi f=some k) {as cs args:List AV} {s:St} {cx:Ctx} {o:CO} (ho:o≠.fail)
  (h:jr (ai A) (ai A.quiet) k (as++args++cs) s cx=o):ai A (.fn (.func f) as cs) args s cx=o:=by
 obtain ⟨n,hn⟩:=MN (zX A) (zX A.quiet) h ho
 exact xH (n:=n+1) (fun m hm=>by obtain ⟨k,rfl⟩:∃k,m=k+1:=⟨m - 1,by omega⟩;simp only [gU,hi,hf];exact hn k (by omega))
theorem rU {A:qY} {f:Nat} {h:List AV→St→Option AV} (hi:A.intr f=some h) {as cs args:List AV} {s:St} {cx:Ctx} {r:AV} (hr:h (as++args++cs) s=some r):
  ai A (.fn (.func f) as cs) args s cx=.ret r s:=
 xH (n:=1) (fun m hm=>by obtain ⟨k,rfl⟩:∃k,m=k+1:=⟨m - 1,by omega⟩;simp only [gU,hi,hr])
theorem Ll {A:qY} {l:Nat} {args:List AV} {s:St} {cx:Ctx} {o:CO} (ho:o≠.fail) (h:Ho A.glob (ai A) l args s cx=o):ai A (.yl l) args s cx=o:=by
 obtain ⟨n,hn⟩:=WG (zX A) h ho
 exact xH (n:=n+1) (fun m hm=>by obtain ⟨k,rfl⟩:∃k,m=k+1:=⟨m - 1,by omega⟩;simp only [gU];exact hn k (by omega))
theorem XL {A:qY} {fv:AV} {args:List AV} {s s':St} {cx:Ctx} {r:AV} (h:ai A fv args s cx=.ret r s'):∃n,gU A n fv args s cx=.ret r s':=by
 obtain ⟨n,hn⟩:=FP h (by simp)
 exact ⟨n,hn n (Nat.le_refl _)⟩
end Go.Ai
namespace Go.Ai
section
variable {glob:Nat→Option (List AV)} {call callW:AV→List AV→St→Ctx→CO} {cx:Ctx}
def Bz (call callW:AV→List AV→St→Ctx→CO):Prop:=∀fv args s cx c,call fv args s cx=c→c≠.fail→callW fv args s cx=c
theorem Yy (hc:Bz call callW) {ops:List aC} {ord:Option (List Nat×List Nat)} {env:Env} {s:St} {o:Out} (h:ou glob call cx ops env s ord=o) (ho:o≠.fail):
  ou glob callW cx ops env s ord=o:=by
 have:Lim call (fun _=>callW):=fun fv args s cx c h hne=>⟨0,fun _ _=>hc fv args s cx c h hne⟩
 obtain ⟨n,hn⟩:=LH this h ho
 exact hn n (Nat.le_refl _)
theorem X7 {body vV:Env→St→Out} {keep:List Nat} (hb:∀env s o,body env s=o→o≠.fail→vV env s=o):
  ∀(N:Nat) {env:Env} {s:St} {o:Out},uJ body keep N env s=o→o≠.fail→eX vV keep env s=o
 | 0,env,s,o,h,ho=>absurd h.symm ho
 | N+1,env,s,o,h,ho=>by
  simp only [uJ] at h
  rw [VD]
  cases hx:body (jT env keep) s with
  | fail=>rw [hx] at h;exact absurd h.symm ho
  | norm env' s'=>
   rw [hx] at h
   rw [hb _ _ _ hx (by simp)]
   exact X7 hb N h ho
  | _=>rw [hb _ _ _ hx (by simp)];rw [hx] at h;exact h
theorem U9 {body vV:Env→St→Out} {l:Nat} {keep:List Nat} (hb:∀env s o,body env s=o→o≠.fail→vV env s=o):
  ∀(N:Nat) {env:Env} {s:St} {o:Out},ny body l keep N env s=o→o≠.fail→J8 vV l keep env s=o
 | 0,env,s,o,h,ho=>absurd h.symm ho
 | N+1,env,s,o,h,ho=>by
  simp only [ny] at h
  rw [Yx]
  cases hx:body (jT env keep) s with
  | fail=>rw [hx] at h;exact absurd h.symm ho
  | goto l' env' s'=>
   rw [hx] at h
   rw [hb _ _ _ hx (by simp)]
   simp only [Out.jmp] at h ⊢
   split at h
   ·rename_i hl;simp only [hl,if_true];exact U9 hb N h ho
   ·exact absurd h.symm ho
  | _=>rw [hb _ _ _ hx (by simp)];rw [hx] at h;exact h
theorem lg (hc:Bz call callW) (ro:Bool) (N:Nat):∀(c:aQ) (env:Env) (s:St) (o:Out),bg glob call cx ro N c env s=o→o≠.fail→au glob callW cx ro c env s=o
 | .skip,env,s,o,h,ho=>by simpa [bg,au] using h
 | .ret,env,s,o,h,ho=>by simpa [bg,au] using h
 | .exit id,env,s,o,h,ho=>by simpa [bg,au] using h
 | .region ops ord keep,env,s,o,h,ho=>by
  simp only [bg,au] at h ⊢
  cases hx:ou glob call cx ops env s ord with
  | fail=>rw [hx] at h;exact absurd h.symm ho
  | _=>rw [Yy hc hx (by simp)];rw [hx] at h;exact h
 | .seq a b,env,s,o,h,ho=>by
  simp only [bg,au] at h ⊢
  cases hx:bg glob call cx ro N a env s with
  | fail=>rw [hx] at h;exact absurd h.symm ho
  | norm env' s'=>
   rw [hx] at h
   rw [lg hc ro N a _ _ _ hx (by simp)]
   exact lg hc ro N b _ _ _ h ho
  | _=>rw [lg hc ro N a _ _ _ hx (by simp)];rw [hx] at h;exact h
 | .cond c a b,env,s,o,h,ho=>by
  simp only [bg,au] at h ⊢
  unfold acv
  split at h
  ·rename_i hx;rw [hx];simpa using lg hc ro N a _ _ _ h ho
  ·rename_i hx;rw [hx];simpa using lg hc ro N b _ _ _ h ho
  ·exact absurd h.symm ho
 | .block id b,env,s,o,h,ho=>by
  simp only [bg,au] at h ⊢
  cases hx:bg glob call cx ro N b env s with
  | fail=>rw [hx] at h;exact absurd h.symm ho
  | _=>rw [lg hc ro N b _ _ _ hx (by simp)];rw [hx] at h;exact h
 | .loop keep b,env,s,o,h,ho=>by
  simp only [bg,au] at h ⊢
  exact X7 (lg hc ro N b) N h ho
 | .range f ps asg body,env,s,o,h,ho=>by
  simp only [bg,au] at h ⊢
  split at h
  ·exact absurd h.symm ho
  ·rename_i hro
   simp only [hro]
   unfold Ep
   split at h
   ·rename_i ff as cs hx
    rw [hx]
    cases hy:call (.fn ff as cs) [.yl (s.length+1)] (s++[.dfr,.loop (oC env) ps asg body .ready]) cx with
    | fail=>rw [hy] at h;exact absurd h.symm ho
    | _=>
     have:=hc _ _ _ _ _ hy (by simp)
     rw [hy] at h
     simpa [this] using h
   ·exact absurd h.symm ho
 | .label l,env,s,o,h,ho=>by simpa [bg,au] using h
 | .goto l,env,s,o,h,ho=>by simpa [bg,au] using h
 | .scope l keep a b,env,s,o,h,ho=>by
  simp only [bg,au] at h ⊢
  cases hx:bg glob call cx ro N a env s with
  | fail=>rw [hx] at h;exact absurd h.symm ho
  | goto l' env' s'=>
   rw [hx] at h
   rw [lg hc ro N a _ _ _ hx (by simp)]
   simp only [Out.jmp] at h ⊢
   split at h
   ·rename_i hl;simp only [hl,if_true];exact U9 (lg hc ro N b) N h ho
   ·exact absurd h.symm ho
  | _=>rw [lg hc ro N a _ _ _ hx (by simp)];rw [hx] at h;exact h
theorem Zz (hc:Bz call callW) {N:Nat} {fn:aW} {args:List AV} {s:St} {o:CO} (h:uF glob call N fn args s cx=o) (ho:o≠.fail):af glob callW fn args s cx=o:=by
 unfold uF at h
 unfold af
 split at h
 ·rename_i hnp
  simp only [hnp,if_true]
  cases hx:bg glob call ⟨if fn.pure then s.length else cx.lim,if fn.keep then cx.base else s.length⟩ fn.keep N fn.code (vS args 0) s with
  | fail=>rw [hx] at h;exact absurd h.symm ho
  | _=>rw [lg hc _ N _ _ _ _ hx (by simp)];rw [hx] at h;exact h
 ·exact absurd h.symm ho
theorem aas (hc:Bz call callW) {N:Nat} {m:Option aQ} {env:Env} {s:St} {o:Out} (h:Bg glob call cx N m env s=o) (ho:o≠.fail):ab5 glob callW cx m env s=o:=by
 cases m with
 | none=>exact h
 | some c=>exact lg hc _ N _ _ _ _ h ho
theorem XG (hc:Bz call callW) {N:Nat} {d:FD} {args:List AV} {s:St} {o:CO} (h:qE glob call N d args s cx=o) (ho:o≠.fail):Fe glob callW d args s cx=o:=by
 have h1:Lim call (fun _=>callW):=fun fv args s cx c h hne=>⟨0,fun _ _=>hc fv args s cx c h hne⟩
 unfold qE at h
 unfold Fe
 split at h
 ·rename_i hnp
  simp only [hnp,if_true]
  cases hxm:jH glob call ⟨cx.lim,s.length⟩ d.pre (vS args 0) s with
  | norm em sm=>
   obtain ⟨nm,hnm⟩:=Ar h1 _ hxm (by simp)
   rw [hxm] at h
   rw [hnm nm (Nat.le_refl _)]
   simp only [] at h ⊢
   cases hx:Bg glob call ⟨cx.lim,s.length⟩ N d.mid em sm with
   | ret e2 s2=>rw [aas hc hx (by simp)];rw [hx] at h;exact h
   | norm e0 s0=>
    rw [aas hc hx (by simp)]
    rw [hx] at h
    simp only [] at h ⊢
    cases hy:dJ glob call ⟨cx.lim,s.length⟩ d.mkc e0 s0 with
    | norm e1 s1=>
     obtain ⟨n1,hn1⟩:=wW h1 hy (by simp)
     rw [hy] at h
     rw [hn1 n1 (Nat.le_refl _)]
     simp only [] at h ⊢
     split at h
     ·rename_i f caps ls hl hp
      simp only [hl,hp]
      split at h
      ·rename_i hcond
       rw [if_pos hcond]
       cases hz:bg glob call ⟨cx.lim,s.length⟩ true N d.code e1 s1 with
       | fail=>rw [hz] at h;exact absurd h.symm ho
       | _=>rw [lg hc _ N _ _ _ _ hz (by simp)];rw [hz] at h;exact h
      ·exact absurd h.symm ho
     ·exact absurd h.symm ho
    | _=>rw [hy] at h;exact absurd h.symm ho
   | _=>rw [hx] at h;exact absurd h.symm ho
  | _=>rw [hxm] at h;exact absurd h.symm ho
 ·exact absurd h.symm ho
theorem ZJ (hc:Bz call callW) {N l:Nat} {args:List AV} {s:St} {o:CO} (h:zh glob call N l args s cx=o) (ho:o≠.fail):Ho glob callW l args s cx=o:=by
 unfold zh at h
 unfold Ho
 split at h
 ·rename_i env ps asg body hl
  rw [hl]
  simp only []
  split at h
  ·rename_i hcond
   simp only [hcond,and_self,if_true]
   cases hx:bg glob call cx true N asg (BF env ps args) s with
   | norm env1 s1=>
    rw [lg hc true N _ _ _ _ hx (by simp)]
    rw [hx] at h
    unfold vV
    simp only [] at h ⊢
    split at h
    ·rename_i e1 p1 a1 b1 hl1
     rw [hl1]
     simp only []
     cases hy:bg glob call cx true N body env1 (s1.set l (.loop e1 p1 a1 b1 .busy)) with
     | fail=>rw [hy] at h;exact absurd h.symm ho
     | _=>rw [lg hc true N _ _ _ _ hy (by simp)];rw [hy] at h;exact h
    ·exact absurd h.symm ho
   | _=>rw [hx] at h;exact absurd h.symm ho
  ·exact absurd h.symm ho
 ·exact absurd h.symm ho
end
theorem Zy {call callW qcall qcallW:AV→List AV→St→Ctx→CO} {cx:Ctx} (hc:Bz call callW) (hq:Bz qcall qcallW) {k:HiK} {args:List AV} {s:St} {o:CO} (h:jr call qcall k args s cx=o) (ho:o≠.fail):
  jr callW qcallW k args s cx=o:=by
 have h1:Lim call (fun _=>callW):=fun fv args s cx c h hne=>⟨0,fun _ _=>hc fv args s cx c h hne⟩
 have h2:Lim qcall (fun _=>qcallW):=fun fv args s cx c h hne=>⟨0,fun _ _=>hq fv args s cx c h hne⟩
 obtain ⟨n,hn⟩:=MN h1 h2 h ho
 exact hn n (Nat.le_refl _)
theorem Lj:∀(n:Nat) (A:qY),Bz (gU A n) (ai A)
 | 0,A=>fun fv args s cx c h hne=>by simp only [gU] at h;exact absurd h.symm hne
 | n+1,A=>fun fv args s cx c h hne=>by
  have ih:=Lj n A
  cases fv with
  | fn f as cs=>
   cases f with
   | func fid=>
    simp only [gU] at h
    split at h
    ·rename_i hh hin
     split at h
     ·rename_i r hr;rw [←h];exact rU hin hr
     ·exact absurd h.symm hne
    ·rename_i hin
     split at h
     ·rename_i k hk;exact Lm hin hk hne (Zy ih (Lj n A.quiet) h hne)
     ·rename_i hk
      split at h
      ·rename_i d hd;exact XM hin hk hd hne (XG ih h hne)
      ·rename_i hd
       split at h
       ·rename_i fn hfn;exact TN hin hk hd hfn hne (Zz ih h hne)
       ·exact absurd h.symm hne
   | _=>simp only [gU] at h;exact absurd h.symm hne
  | yl l=>simp only [gU] at h;exact Ll hne (ZJ ih h hne)
  | _=>simp only [gU] at h;exact absurd h.symm hne
theorem abe (A:qY) (n:Nat):Bz (gU A n) (ai A):=Lj n A
end Go.Ai
