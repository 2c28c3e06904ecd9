/-
 The interpreter in the limit: no fuel.
-/
import Derived.Test.YtdjjghikaijfpaaGreatDoorAiA1
set_option maxRecDepth 100000
set_option linter.unusedSimpArgs false
set_option linter.unusedVariables false
set_option linter.unusedSectionVars false
namespace Go.Ai
noncomputable def QM {α:Type} (d:α) (h:Nat→α):α:=
 open Classical in if H:∃c,c≠d∧∃n,∀m,n≤m→h m=c then H.choose else d
theorem y8 {α:Type} {d:α} {h:Nat→α} {c:α} {n:Nat} (hc:∀m,n≤m→h m=c):QM d h=c:=by
 unfold QM
 split
 ·rename_i H
  obtain ⟨_,n',hn'⟩:=H.choose_spec
  rw [←hn' (max n n') (Nat.le_max_right _ _),hc _ (Nat.le_max_left _ _)]
 ·rename_i H
  by_cases hd:c=d
  ·exact hd.symm
  ·exact absurd ⟨c,hd,n,hc⟩ H
theorem Jf {α:Type} {d:α} {h:Nat→α} {c:α} (hl:QM d h=c) (hd:c≠d):∃n,∀m,n≤m→h m=c:=by
 unfold QM at hl
 split at hl
 ·rename_i H
  obtain ⟨_,n',hn'⟩:=H.choose_spec
  exact ⟨n',fun m hm=>(hn' m hm).trans hl⟩
 ·exact absurd hl.symm hd
theorem Ud {α:Type} {d:α} {h g:Nat→α} (hs:∀n,h (n+1)=g n):QM d h=QM d g:=by
 by_cases hg:QM d g=d
 ·rw [hg]
  by_cases hh:QM d h=d
  ·exact hh
  ·obtain ⟨n,hn⟩:=Jf rfl hh
   have:=y8 (d:=d) (h:=g) (c:=QM d h) (n:=n) (fun m hm=>by rw [←hs];exact hn _ (by omega))
   rw [←this,hg]
 ·obtain ⟨n,hn⟩:=Jf rfl hg
  exact y8 (n:=n+1) (fun m hm=>by obtain ⟨k,rfl⟩:∃k,m=k+1:=⟨m - 1,by omega⟩;rw [hs];exact hn k (by omega))
def Out.thn (o:Out) (f:Env→St→Out):Out:=
 match o with
 | .norm env s=>f env s
 | o=>o
def Out.blk (id:Nat) (o:Out):Out:=
 match o with
 | .exit id' env s=>if id'=id then .norm env s else .exit id' env s
 | o=>o
def agK (x:Option AV) (a b:Unit→Out):Out:=
 match x with
 | some (.b x)=>if x=true then a () else b ()
 | _=>.fail
noncomputable def bF (body:Env→St→Out) (keep:List Nat) (env:Env) (s:St):Out:=QM .fail (fun N=>wS body keep N env s)
theorem D8 (body:Env→St→Out) (keep:List Nat) (env:Env) (s:St):bF body keep env s=(body (fJ env keep) s).thn (bF body keep):=by
 unfold bF
 cases hb:body (fJ env keep) s with
 | norm env' s'=>exact Ud (fun n=>by simp [wS,hb])
 | _=>exact y8 (n:=1) (fun m hm=>by obtain ⟨k,rfl⟩:∃k,m=k+1:=⟨m - 1,by omega⟩;simp [wS,hb,Out.thn])
noncomputable def Bh (body:Env→St→Out) (l:Nat) (keep:List Nat) (env:Env) (s:St):Out:=QM .fail (fun N=>qj body l keep N env s)
def Out.jmp (l:Nat) (o:Out) (f:Env→St→Out):Out:=
 match o with
 | .goto l' env s=>if l'=l then f env s else .fail
 | o=>o
theorem DC (body:Env→St→Out) (l:Nat) (keep:List Nat) (env:Env) (s:St):Bh body l keep env s=(body (fJ env keep) s).jmp l (Bh body l keep):=by
 unfold Bh
 cases hb:body (fJ env keep) s with
 | goto l' env' s'=>
  by_cases hl:l'=l
  ·simp only [Out.jmp,hl,if_true]
   exact Ud (fun n=>by simp [qj,hb,hl])
  ·exact y8 (n:=1) (fun m hm=>by obtain ⟨k,rfl⟩:∃k,m=k+1:=⟨m - 1,by omega⟩;simp [qj,hb,Out.jmp,hl])
 | _=>exact y8 (n:=1) (fun m hm=>by obtain ⟨k,rfl⟩:∃k,m=k+1:=⟨m - 1,by omega⟩;simp [qj,hb,Out.jmp])
section
variable (glob:Nat→Option (List AV))
def Oh (x:Option AV) (call:AV→List AV→St→Ctx→CO) (cx:Ctx) (ps:List Nat) (asg body:aC) (env:Env) (s:St):Out:=
 match x with
 | some (.fn ff as cs)=>match call (.fn ff as cs) [.yl (s.length+1)] (s++[.dfr,.loop (tX env) ps asg body .ready]) cx with
  | .ret _ s'=>KH env s' (s.length+1)
  | _=>.fail
 | _=>.fail
noncomputable def ay (call:AV→List AV→St→Ctx→CO) (cx:Ctx) (ro:Bool):aC→Env→St→Out
 | .skip,env,s=>.norm env s
 | .ret,env,s=>.ret env s
 | .exit id,env,s=>.exit id env s
 | .region ops ord keep,env,s=>(qW glob call cx ops env s ord).thn fun env s=>.norm (fJ env keep) s
 | .seq a b,env,s=>(ay call cx ro a env s).thn (ay call cx ro b)
 | .cond c a b,env,s=>agK (rd glob env c) (fun _=>ay call cx ro a env s) (fun _=>ay call cx ro b env s)
 | .block id b,env,s=>(ay call cx ro b env s).blk id
 | .loop keep b,env,s=>bF (ay call cx ro b) keep env s
 | .range f ps asg body,env,s=>if ro=true then .fail else Oh (rd glob env f) call cx ps asg body env s
 | .label _,env,s=>.norm env s
 | .goto l,env,s=>.goto l env s
 | .scope l keep a b,env,s=>(ay call cx ro a env s).jmp l (Bh (ay call cx ro b) l keep)
def endW (pure keep:Bool) (s:St) (res:List RV) (o:Out):CO:=
 match o with
 | .norm env s1 | .ret env s1=>match pV glob env s1 res with
  | some rs=>finish pure keep s s1 (vZ rs)
  | none=>.fail
 | .pan v s1=>(finish pure keep s s1 v).toPan
 | _=>.fail
noncomputable def af (call:AV→List AV→St→Ctx→CO) (fn:aO) (args:List AV) (s:St) (cx:Ctx):CO:=
 if args.length=fn.np then
  endW glob fn.pure fn.keep s fn.res (ay glob call ⟨if fn.pure=true then s.length else cx.lim,if fn.keep=true then cx.base else s.length⟩ fn.keep fn.code (xP args 0) s)
 else .fail
noncomputable def IJ (callW:AV→List AV→St→Ctx→CO) (d:I9) (args:List AV) (s:St) (cx:Ctx):CO:=
 if args.length=d.np then
  match lm glob callW ⟨cx.lim,s.length⟩ d.pre (xP args 0) s with
  | .norm xP s0=>match dQ glob callW ⟨cx.lim,s.length⟩ d.mkc xP s0 with
   | .norm env1 s1=>match lk env1 d.ct,d.pins.mapM (placeOf env1) with
    | some (.v (.fn (.func f) [] caps)),some ls=>
     if f=d.clo∧NC caps ls=true then
      match ay glob callW ⟨cx.lim,s.length⟩ true d.code env1 s1 with
      | .norm env2 s2 | .ret env2 s2=>match pV glob env2 s2 d.res with
       | some rs=>finish false false s s2 (vZ rs)
       | none=>.fail
      | .pan v s2=>match d.hnd v with
       | some news=>if xu s.length s2 ls news=true then
         (match pV glob (EO d.pins ls) (oq s2 ls news) d.res with
         | some rs=>finish false false s (oq s2 ls news) (vZ rs)
         | none=>.fail) else .fail
       | none=>.fail
      | _=>.fail
     else .fail
    | _,_=>.fail
   | _=>.fail
  | _=>.fail
 else .fail
def Nh (l:Nat) (o:Out):CO:=
 match o with
 | .norm _ s2=>sK s2 l .ready true
 | .ret _ s2=>sK s2 l .ret false
 | .exit id _ s2=>sK s2 l (.exit id) false
 | _=>.fail
noncomputable def yD (call:AV→List AV→St→Ctx→CO) (cx:Ctx) (body:aC) (l:Nat) (o:Out):CO:=
 match o with
 | .norm env1 s1=>match s1[l]? with
  | some (.loop e1 p1 a1 b1 .ready)=>Nh l (ay glob call cx true body env1 (s1.set l (.loop e1 p1 a1 b1 .busy)))
  | _=>.fail
 | _=>.fail
noncomputable def NV (call:AV→List AV→St→Ctx→CO) (l:Nat) (args:List AV) (s:St) (cx:Ctx):CO:=
 match s[l]? with
 | some (.loop env ps asg body .ready)=>
  if ps.length=args.length∧cx.lim≤l then
   yD glob call cx body l (ay glob call cx true asg (GR env ps args) s)
  else .fail
 | _=>.fail
end
section
variable {glob:Nat→Option (List AV)} {callW:AV→List AV→St→Ctx→CO} {call:Nat→AV→List AV→St→Ctx→CO} {cx:Ctx}
def Lim (callW:AV→List AV→St→Ctx→CO) (call:Nat→AV→List AV→St→Ctx→CO):Prop:=
 ∀fv args s cx c,callW fv args s cx=c→c≠.fail→∃n,∀m,n≤m→call m fv args s cx=c
theorem Ve (hc:Lim callW call) {env:Env} {s:St} {op:AOp} {o:RO} (h:aop glob callW cx env s op=o) (ho:o≠.fail):
  ∃n,∀m,n≤m→aop glob (call m) cx env s op=o:=by
 by_cases hch:∃d f as,op=.callh d f as
 ·obtain ⟨d,f,as,rfl⟩:=hch
  simp only [aop] at h ⊢
  split at h
  ·exact absurd h.symm ho
  ·split at h
   ·rename_i fv as' h1 h2
    cases hx:callW fv as' s cx with
    | fail=>rw [hx] at h;exact absurd h.symm ho
    | ret r s'=>
     obtain ⟨n,hn⟩:=hc _ _ _ _ _ hx (by simp)
     exact ⟨n,fun m hm=>by rw [hn m hm];rw [hx] at h;exact h⟩
    | pan r s'=>
     obtain ⟨n,hn⟩:=hc _ _ _ _ _ hx (by simp)
     exact ⟨n,fun m hm=>by rw [hn m hm];rw [hx] at h;exact h⟩
   ·exact absurd h.symm ho
 by_cases hcall:∃f as,op=.call f as∨op=.callp f as
 ·obtain ⟨f,as,hop⟩:=hcall
  have hcp:∀c:AV→List AV→St→Ctx→CO,aop glob c cx env s op=aop glob c cx env s (.call f as):=by rcases hop with rfl|rfl<;>exact fun _=>rfl
  simp only [hcp] at h ⊢
  clear hop hcp
  simp only [aop] at h ⊢
  split at h
  ·rename_i fv as' env' h1 h2
   cases hx:callW fv as' s cx with
   | fail=>rw [hx] at h;exact absurd h.symm ho
   | ret r s'=>
    obtain ⟨n,hn⟩:=hc _ _ _ _ _ hx (by simp)
    exact ⟨n,fun m hm=>by rw [hn m hm];rw [hx] at h;exact h⟩
   | pan r s'=>
    obtain ⟨n,hn⟩:=hc _ _ _ _ _ hx (by simp)
    exact ⟨n,fun m hm=>by rw [hn m hm];rw [hx] at h;exact h⟩
  ·exact absurd h.symm ho
 ·refine ⟨0,fun m _=>?_⟩
  rw [←h]
  cases op with
  | call f as=>exact absurd ⟨_,_,.inl rfl⟩ hcall
  | callp f as=>exact absurd ⟨_,_,.inr rfl⟩ hcall
  | callh d f as=>exact absurd ⟨_,_,_,rfl⟩ hch
  | len k x=>rcases k with _ | _ | _|k<;>rfl
  | _=>rfl
theorem yH (hc:Lim callW call) {env:Env} {s:St} {p:aG} {o:Out} (h:dQ glob callW cx p env s=o) (ho:o≠.fail):
  ∃n,∀m,n≤m→dQ glob (call m) cx p env s=o:=by
 unfold dQ at h ⊢
 split at h
 ·exact absurd h.symm ho
 ·exact ⟨0,fun m _=>h⟩
 ·cases hx:aop glob callW cx env s p.op with
  | fail=>rw [hx] at h;exact absurd h.symm ho
  | ok e env' s'=>
   obtain ⟨n,hn⟩:=Ve hc hx (by simp)
   exact ⟨n,fun m hm=>by rw [hn m hm];rw [hx] at h;exact h⟩
  | pan v s'=>
   obtain ⟨n,hn⟩:=Ve hc hx (by simp)
   exact ⟨n,fun m hm=>by rw [hn m hm];rw [hx] at h;exact h⟩
theorem CQ (hc:Lim callW call):∀(ops:List aG) {env:Env} {s:St} {o:Out},lm glob callW cx ops env s=o→o≠.fail→
  ∃n,∀m,n≤m→lm glob (call m) cx ops env s=o
 | [],env,s,o,h,ho=>⟨0,fun m _=>h⟩
 | p::r,env,s,o,h,ho=>by
  simp only [lm] at h ⊢
  cases hx:dQ glob callW cx p env s with
  | fail=>rw [hx] at h;exact absurd h.symm ho
  | norm env' s'=>
   rw [hx] at h
   obtain ⟨n,hn⟩:=yH hc hx (by simp)
   obtain ⟨n',hn'⟩:=CQ hc r h ho
   exact ⟨max n n',fun m hm=>by rw [hn m (by omega)];exact hn' m (by omega)⟩
  | _=>
   obtain ⟨n,hn⟩:=yH hc hx (by simp)
   exact ⟨n,fun m hm=>by rw [hn m hm];rw [hx] at h;exact h⟩
theorem acr (hc:Lim callW call) {env:Env} {s:St} {p:aG} {e:EV} (h:wz glob callW p env s=some e):
  ∃n,∀m,n≤m→wz glob (call m) p env s=some e:=by
 unfold wz at h ⊢
 split at h
 ·cases h
 ·exact ⟨0,fun m _=>h⟩
 ·split at h
  ·rename_i hq
   simp only [hq,if_true]
   cases hx:aop glob callW ⟨s.length,s.length⟩ env s p.op with
   | fail=>rw [hx] at h;cases h
   | ok e env' s'=>
    obtain ⟨n,hn⟩:=Ve hc hx (by simp)
    exact ⟨n,fun m hm=>by rw [hn m hm];rw [hx] at h;exact h⟩
   | pan v s'=>rw [hx] at h;cases h
  ·cases h
theorem V4 (hc:Lim callW call) {env:Env} {s:St} {p:aG} {o:Out} (h:iD glob callW cx p env s=o) (ho:o≠.fail):
  ∃n,∀m,n≤m→iD glob (call m) cx p env s=o:=by
 unfold iD at h ⊢
 split at h
 ·rename_i hq
  simp only [hq,if_true]
  unfold Ah at h ⊢
  cases hx:wz glob callW p env s with
  | none=>rw [hx] at h;exact absurd h.symm ho
  | some e=>
   obtain ⟨n,hn⟩:=acr hc hx
   exact ⟨n,fun m hm=>by rw [hn m hm];rw [hx] at h;exact h⟩
 ·rename_i hq
  simp only [hq]
  exact yH hc h ho
theorem Aj (hc:Lim callW call) (aops:List aG):∀(l:List Nat) {env:Env} {s:St} {o:Out},iC glob callW cx aops l env s=o→o≠.fail→
  ∃n,∀m,n≤m→iC glob (call m) cx aops l env s=o
 | [],env,s,o,h,ho=>⟨0,fun m _=>h⟩
 | i::r,env,s,o,h,ho=>by
  simp only [iC] at h ⊢
  split at h
  ·exact absurd h.symm ho
  ·rename_i p hp
   cases hx:iD glob callW cx p env s with
   | fail=>rw [hx] at h;exact absurd h.symm ho
   | norm env' s'=>
    rw [hx] at h
    obtain ⟨n,hn⟩:=V4 hc hx (by simp)
    obtain ⟨n',hn'⟩:=Aj hc aops r h ho
    exact ⟨max n n',fun m hm=>by rw [hn m (by omega)];exact hn' m (by omega)⟩
   | _=>
    obtain ⟨n,hn⟩:=V4 hc hx (by simp)
    exact ⟨n,fun m hm=>by rw [hn m hm];rw [hx] at h;exact h⟩
theorem YH (hc:Lim callW call) {ops:List aG} {π:List Nat} {env:Env} {s:St} {o:Out} (h:yK glob callW cx ops π env s=o) (ho:o≠.fail):
  ∃n,∀m,n≤m→yK glob (call m) cx ops π env s=o:=by
 unfold yK at h ⊢
 split at h
 ·exact absurd h.symm ho
 ·rename_i c oc hpc
  split at h
  ·rename_i hall
   cases hx:iC glob callW cx ops (yL ops c oc false π) env s with
   | norm env1 s1=>
    rw [hx] at h
    simp only [] at h
    cases hy:dQ glob callW cx oc env1 s1 with
    | pan v s2=>
     rw [hy] at h
     obtain ⟨n,hn⟩:=Aj hc ops _ hx (by simp)
     obtain ⟨n',hn'⟩:=yH hc hy (by simp)
     refine ⟨max n n',fun m hm=>?_⟩
     rw [hn m (by omega)]
     simp only []
     rw [if_pos hall,hn' m (by omega)]
     exact h
    | _=>rw [hy] at h;exact absurd h.symm ho
   | _=>rw [hx] at h;exact absurd h.symm ho
  ·exact absurd h.symm ho
theorem PI (hc:Lim callW call) {ops:List aG} {ord:Option (List Nat×List Nat)} {env:Env} {s:St} {o:Out} (h:qW glob callW cx ops env s ord=o) (ho:o≠.fail):
  ∃n,∀m,n≤m→qW glob (call m) cx ops env s ord=o:=by
 cases ord with
 | none=>exact CQ hc ops h ho
 | some p=>
  simp only [qW] at h ⊢
  cases hx:iC glob callW cx ops p.1 (Dz env p.2) s with
  | fail=>rw [hx] at h;exact absurd h.symm ho
  | pan v s1=>
   rw [hx] at h
   obtain ⟨n,hn⟩:=Aj hc ops p.1 hx (by simp)
   obtain ⟨n',hn'⟩:=YH hc (h:yK glob callW cx ops p.1 (Dz env p.2) s=o) ho
   exact ⟨max n n',fun m hm=>by rw [hn m (by omega)];exact hn' m (by omega)⟩
  | _=>
   obtain ⟨n,hn⟩:=Aj hc ops p.1 hx (by simp)
   exact ⟨n,fun m hm=>by rw [hn m hm];rw [hx] at h;exact h⟩
theorem Wp {yD:Env→St→Out} {body:Nat→Env→St→Out} {keep:List Nat} (hb:∀env s o,yD env s=o→o≠.fail→∃n,∀m,n≤m→body m env s=o):
  ∀(N0:Nat) {env:Env} {s:St} {o:Out},wS yD keep N0 env s=o→o≠.fail→∃n,∀m,n≤m→∀N,N0≤N→wS (body m) keep N env s=o
 | 0,env,s,o,h,ho=>absurd h.symm ho
 | N0+1,env,s,o,h,ho=>by
  simp only [wS] at h
  cases hx:yD (fJ env keep) s with
  | fail=>rw [hx] at h;exact absurd h.symm ho
  | norm env' s'=>
   rw [hx] at h
   obtain ⟨n,hn⟩:=hb _ _ _ hx (by simp)
   obtain ⟨n',hn'⟩:=Wp hb N0 h ho
   refine ⟨max n n',fun m hm N hN=>?_⟩
   obtain ⟨k,rfl⟩:∃k,N=k+1:=⟨N - 1,by omega⟩
   simp only [wS]
   rw [hn m (by omega)];exact hn' m (by omega) k (by omega)
  | _=>
   obtain ⟨n,hn⟩:=hb _ _ _ hx (by simp)
   refine ⟨n,fun m hm N hN=>?_⟩
   obtain ⟨k,rfl⟩:∃k,N=k+1:=⟨N - 1,by omega⟩
   simp only [wS]
   rw [hn m hm];rw [hx] at h;exact h
theorem Sv {yD:Env→St→Out} {body:Nat→Env→St→Out} {l:Nat} {keep:List Nat} (hb:∀env s o,yD env s=o→o≠.fail→∃n,∀m,n≤m→body m env s=o):
  ∀(N0:Nat) {env:Env} {s:St} {o:Out},qj yD l keep N0 env s=o→o≠.fail→∃n,∀m,n≤m→∀N,N0≤N→qj (body m) l keep N env s=o
 | 0,env,s,o,h,ho=>absurd h.symm ho
 | N0+1,env,s,o,h,ho=>by
  simp only [qj] at h
  cases hx:yD (fJ env keep) s with
  | fail=>rw [hx] at h;exact absurd h.symm ho
  | goto l' env' s'=>
   rw [hx] at h
   simp only [] at h
   split at h
   ·rename_i hl
    obtain ⟨n,hn⟩:=hb _ _ _ hx (by simp)
    obtain ⟨n',hn'⟩:=Sv hb N0 h ho
    refine ⟨max n n',fun m hm N hN=>?_⟩
    obtain ⟨k,rfl⟩:∃k,N=k+1:=⟨N - 1,by omega⟩
    simp only [qj]
    rw [hn m (by omega)]
    simp only [hl,if_true]
    exact hn' m (by omega) k (by omega)
   ·exact absurd h.symm ho
  | _=>
   obtain ⟨n,hn⟩:=hb _ _ _ hx (by simp)
   refine ⟨n,fun m hm N hN=>?_⟩
   obtain ⟨k,rfl⟩:∃k,N=k+1:=⟨N - 1,by omega⟩
   simp only [qj]
   rw [hn m hm];rw [hx] at h;exact h
theorem jF (hc:Lim callW call) (ro:Bool):∀(c:aC) (env:Env) (s:St) (o:Out),ay glob callW cx ro c env s=o→o≠.fail→
  ∃n,∀m,n≤m→aX glob (call m) cx ro m c env s=o
 | .skip,env,s,o,h,ho=>⟨0,fun m _=>by simpa [aX,ay] using h⟩
 | .ret,env,s,o,h,ho=>⟨0,fun m _=>by simpa [aX,ay] using h⟩
 | .exit id,env,s,o,h,ho=>⟨0,fun m _=>by simpa [aX,ay] using h⟩
 | .region ops ord keep,env,s,o,h,ho=>by
  simp only [aX,ay] at h ⊢
  cases hx:qW glob callW cx ops env s ord with
  | fail=>rw [hx] at h;exact absurd h.symm ho
  | _=>
   obtain ⟨n,hn⟩:=PI hc hx (by simp)
   exact ⟨n,fun m hm=>by rw [hn m hm];rw [hx] at h;exact h⟩
 | .seq a b,env,s,o,h,ho=>by
  simp only [aX,ay] at h ⊢
  cases hx:ay glob callW cx ro a env s with
  | fail=>rw [hx] at h;exact absurd h.symm ho
  | norm env' s'=>
   rw [hx] at h
   obtain ⟨n,hn⟩:=jF hc ro a _ _ _ hx (by simp)
   obtain ⟨n',hn'⟩:=jF hc ro b _ _ _ h ho
   exact ⟨max n n',fun m hm=>by rw [hn m (by omega)];exact hn' m (by omega)⟩
  | _=>
   obtain ⟨n,hn⟩:=jF hc ro a _ _ _ hx (by simp)
   exact ⟨n,fun m hm=>by rw [hn m hm];rw [hx] at h;exact h⟩
 | .cond c a b,env,s,o,h,ho=>by
  simp only [aX,ay] at h ⊢
  unfold agK at h
  split at h
  ·rename_i x hx
   rw [hx]
   cases x with
   | true=>exact jF hc ro a _ _ _ (by simpa using h) ho
   | false=>exact jF hc ro b _ _ _ (by simpa using h) ho
  ·exact absurd h.symm ho
 | .block id b,env,s,o,h,ho=>by
  simp only [aX,ay] at h ⊢
  cases hx:ay glob callW cx ro b env s with
  | fail=>rw [hx] at h;exact absurd h.symm ho
  | _=>
   obtain ⟨n,hn⟩:=jF hc ro b _ _ _ hx (by simp)
   exact ⟨n,fun m hm=>by rw [hn m hm];rw [hx] at h;exact h⟩
 | .loop keep b,env,s,o,h,ho=>by
  simp only [aX,ay] at h ⊢
  obtain ⟨N0,hN⟩:=Jf h ho
  obtain ⟨n,hn⟩:=Wp (body:=fun m=>aX glob (call m) cx ro m b) (jF hc ro b) N0 (hN N0 (Nat.le_refl _)) ho
  exact ⟨max n N0,fun m hm=>hn m (by omega) m (by omega)⟩
 | .range f ps asg body,env,s,o,h,ho=>by
  simp only [aX,ay] at h ⊢
  split at h
  ·exact absurd h.symm ho
  ·rename_i hro
   simp only [hro]
   unfold Oh at h
   split at h
   ·rename_i ff as cs hx
    rw [hx]
    simp only []
    cases hy:callW (.fn ff as cs) [.yl (s.length+1)] (s++[.dfr,.loop (tX env) ps asg body .ready]) cx with
    | fail=>rw [hy] at h;exact absurd h.symm ho
    | _=>
     obtain ⟨n,hn⟩:=hc _ _ _ _ _ hy (by simp)
     exact ⟨n,fun m hm=>by rw [hn m hm];rw [hy] at h;exact h⟩
   ·exact absurd h.symm ho
 | .label l,env,s,o,h,ho=>⟨0,fun m _=>by simpa [aX,ay] using h⟩
 | .goto l,env,s,o,h,ho=>⟨0,fun m _=>by simpa [aX,ay] using h⟩
 | .scope l keep a b,env,s,o,h,ho=>by
  simp only [aX,ay] at h ⊢
  cases hx:ay glob callW cx ro a env s with
  | fail=>rw [hx] at h;exact absurd h.symm ho
  | goto l' env' s'=>
   rw [hx] at h
   simp only [Out.jmp] at h
   split at h
   ·rename_i hl
    obtain ⟨n,hn⟩:=jF hc ro a _ _ _ hx (by simp)
    obtain ⟨N0,hN⟩:=Jf h ho
    obtain ⟨n',hn'⟩:=Sv (body:=fun m=>aX glob (call m) cx ro m b) (jF hc ro b) N0 (hN N0 (Nat.le_refl _)) ho
    exact ⟨max n (max n' N0),fun m hm=>by rw [hn m (by omega)];simp only [hl,if_true];exact hn' m (by omega) m (by omega)⟩
   ·exact absurd h.symm ho
  | _=>
   obtain ⟨n,hn⟩:=jF hc ro a _ _ _ hx (by simp)
   exact ⟨n,fun m hm=>by rw [hn m hm];rw [hx] at h;exact h⟩
theorem Zw (hc:Lim callW call) {fn:aO} {args:List AV} {s:St} {o:CO} (h:af glob callW fn args s cx=o) (ho:o≠.fail):
  ∃n,∀m,n≤m→wK glob (call m) m fn args s cx=o:=by
 unfold af at h
 unfold wK
 split at h
 ·rename_i hnp
  simp only [hnp,if_true]
  cases hx:ay glob callW ⟨if fn.pure=true then s.length else cx.lim,if fn.keep=true then cx.base else s.length⟩ fn.keep fn.code (xP args 0) s with
  | fail=>rw [hx] at h;exact absurd h.symm ho
  | _=>
   obtain ⟨n,hn⟩:=jF hc _ _ _ _ _ hx (by simp)
   exact ⟨n,fun m hm=>by rw [hn m hm];rw [hx] at h;exact h⟩
 ·exact absurd h.symm ho
theorem X3 (hc:Lim callW call) {d:I9} {args:List AV} {s:St} {o:CO} (h:IJ glob callW d args s cx=o) (ho:o≠.fail):
  ∃n,∀m,n≤m→sW glob (call m) m d args s cx=o:=by
 unfold IJ at h
 unfold sW
 split at h
 ·rename_i hnp
  simp only [hnp,if_true]
  cases hx:lm glob callW ⟨cx.lim,s.length⟩ d.pre (xP args 0) s with
  | norm e0 s0=>
   obtain ⟨n0,hn0⟩:=CQ hc _ hx (by simp)
   rw [hx] at h
   simp only [] at h
   cases hy:dQ glob callW ⟨cx.lim,s.length⟩ d.mkc e0 s0 with
   | norm e1 s1=>
    obtain ⟨n1,hn1⟩:=yH hc hy (by simp)
    rw [hy] at h
    simp only [] at h
    split at h
    ·rename_i f caps ls hl hp
     split at h
     ·rename_i hcond
      cases hz:ay glob callW ⟨cx.lim,s.length⟩ true d.code e1 s1 with
      | fail=>rw [hz] at h;exact absurd h.symm ho
      | _=>
       obtain ⟨n,hn⟩:=jF hc _ _ _ _ _ hz (by simp)
       refine ⟨max n (max n0 n1),fun m hm=>?_⟩
       rw [hn0 m (by omega)]
       simp only []
       rw [hn1 m (by omega)]
       simp only [hl,hp]
       rw [if_pos hcond,hn m (by omega)]
       rw [hz] at h;exact h
     ·exact absurd h.symm ho
    ·exact absurd h.symm ho
   | _=>rw [hy] at h;exact absurd h.symm ho
  | _=>rw [hx] at h;exact absurd h.symm ho
 ·exact absurd h.symm ho
theorem Z4 (hc:Lim callW call) {l:Nat} {args:List AV} {s:St} {o:CO} (h:NV glob callW l args s cx=o) (ho:o≠.fail):
  ∃n,∀m,n≤m→A8 glob (call m) m l args s cx=o:=by
 unfold NV at h
 unfold A8
 split at h
 ·rename_i env ps asg body hl
  rw [hl]
  simp only []
  split at h
  ·rename_i hcond
   simp only [hcond,and_self,if_true]
   cases hx:ay glob callW cx true asg (GR env ps args) s with
   | norm env1 s1=>
    obtain ⟨n,hn⟩:=jF hc true _ _ _ _ hx (by simp)
    rw [hx] at h
    unfold yD at h
    simp only [] at h
    split at h
    ·rename_i e1 p1 a1 b1 hl1
     cases hy:ay glob callW cx true body env1 (s1.set l (.loop e1 p1 a1 b1 .busy)) with
     | fail=>rw [hy] at h;exact absurd h.symm ho
     | _=>
      obtain ⟨n',hn'⟩:=jF hc true _ _ _ _ hy (by simp)
      exact ⟨max n n',fun m hm=>by rw [hn m (by omega)];simp only [hl1];rw [hn' m (by omega)];rw [hy] at h;exact h⟩
    ·exact absurd h.symm ho
   | _=>rw [hx] at h;exact absurd h.symm ho
  ·exact absurd h.symm ho
 ·exact absurd h.symm ho
end
theorem Ua {α β:Type} {f:α→Option β} {g:Nat→α→Option β}:∀(l:List α) {r:List β},(∀x∈l,∀y,f x=some y→∃n,∀m,n≤m→g m x=some y)→l.mapM f=some r→∃n,∀m,n≤m→l.mapM (g m)=some r
 | [],r,_,h=>⟨0,fun m _=>by simpa using h⟩
 | x::l,r,hf,h=>by
  simp only [List.mapM_cons,Option.bind_eq_bind,Option.pure_def] at h ⊢
  cases hx:f x with
  | none=>simp [hx] at h
  | some y=>
   cases hl:l.mapM f with
   | none=>simp [hx,hl] at h
   | some ys=>
    simp [hx,hl] at h
    subst h
    obtain ⟨n,hn⟩:=hf x (by simp) y hx
    obtain ⟨n',hn'⟩:=Ua l (fun z hz=>hf z (by simp [hz])) hl
    exact ⟨max n n',fun m hm=>by rw [hn m (by omega),hn' m (by omega)];rfl⟩
theorem adw {callW:AV→List AV→St→Ctx→CO} {call:Nat→AV→List AV→St→Ctx→CO} (hc:Lim callW call) {g:Nat} {x y:AV} {r:Int} (h:adx callW g x y=some r):
  ∃n,∀m,n≤m→adx (call m) g x y=some r:=by
 unfold adx at h ⊢
 cases hx:callW (.fn (.func g) [] []) [x,y] [] ⟨0,0⟩ with
 | fail=>rw [hx] at h;cases h
 | pan v s=>rw [hx] at h;cases h
 | ret v s=>
  obtain ⟨n,hn⟩:=hc _ _ _ _ _ hx (by simp)
  exact ⟨n,fun m hm=>by rw [hn m hm];rw [hx] at h;exact h⟩
theorem Zt {callW:AV→List AV→St→Ctx→CO} {call:Nat→AV→List AV→St→Ctx→CO} (hc:Lim callW call) {g:Nat} {es:List AV} {tab:List (List Int)} (h:XW callW g es=some tab):
  ∃n,∀m,n≤m→XW (call m) g es=some tab:=
 Ua (g:=fun m x=>es.mapM fun y=>adx (call m) g x y) es (fun _ _ _ hx=>Ua (g:=fun m y=>adx (call m) g _ y) es (fun _ _ _ hy=>adw hc hy) hx) h
theorem Qn {callW qcallW:AV→List AV→St→Ctx→CO} {call qcall:Nat→AV→List AV→St→Ctx→CO} {cx:Ctx} (hc:Lim callW call) (hq:Lim qcallW qcall) {k:HiK} {args:List AV} {s:St} {o:CO}
  (h:jy callW qcallW k args s cx=o) (ho:o≠.fail):∃n,∀m,n≤m→jy (call m) (qcall m) k args s cx=o:=by
 unfold jy at h
 split at h
 ·rename_i r f as cs
  cases hx:callW (.fn (.func f) as cs) [] s cx with
  | ret r1 s1=>
   obtain ⟨n,hn⟩:=hc _ _ _ _ _ hx (by simp)
   exact ⟨n,fun m hm=>by simp only [jy,hn m hm];rw [hx] at h;exact h⟩
  | pan r1 s1=>
   obtain ⟨n,hn⟩:=hc _ _ _ _ _ hx (by simp)
   exact ⟨n,fun m hm=>by simp only [jy,hn m hm];rw [hx] at h;exact h⟩
  | fail=>rw [hx] at h;exact absurd h.symm ho
 ·exact ⟨0,fun m _=>by simpa [jy] using h⟩
 ·exact ⟨0,fun m _=>by simpa [jy] using h⟩
 ·rename_i k0 l ver sz o m g
  split at h
  ·exact ⟨0,fun m _=>by simpa [jy] using h⟩
  ·rename_i n t sz' ver' cs hl
   split at h
   ·rename_i hcond
    cases hx:XW qcallW g (chunk sz (n+1) (cs.drop o)) with
    | none=>rw [hx] at h;exact absurd h.symm ho
    | some tab=>
     obtain ⟨n1,hn⟩:=Zt hq hx
     exact ⟨n1,fun m hm=>by simp only [jy,hl];rw [if_pos hcond,hn m hm];rw [hx] at h;exact h⟩
   ·exact absurd h.symm ho
  ·exact absurd h.symm ho
 ·exact ⟨0,fun m _=>by simpa [jy] using h⟩
 ·exact ⟨0,fun m _=>by simp only [jy];exact h⟩
 ·rename_i f t z e es
  cases hx:callW (.fn (.func f) [] []) [.pt s.length 0] (s++[.cells [.sl (e::es)]]) cx with
  | ret r1 s1=>
   obtain ⟨n,hn⟩:=hc _ _ _ _ _ hx (by simp)
   exact ⟨n,fun m hm=>by simp only [jy,hn m hm];rw [hx] at h;exact h⟩
  | pan r1 s1=>
   obtain ⟨n,hn⟩:=hc _ _ _ _ _ hx (by simp)
   exact ⟨n,fun m hm=>by simp only [jy,hn m hm];rw [hx] at h;exact h⟩
  | fail=>rw [hx] at h;exact absurd h.symm ho
 ·exact absurd h.symm ho
noncomputable def aj (A:uG) (fv:AV) (args:List AV) (s:St) (cx:Ctx):CO:=QM .fail fun n=>gZ A n fv args s cx
theorem BX (A:uG):Lim (aj A) (gZ A):=fun fv args s cx c h hc=>Jf h hc
theorem WX {A:uG} {f:Nat} {fn:aO} (hi:A.intr f=none) (hh:A.hi f=none) (hd:A.dfr f=none) (hf:A.fns f=some fn) {as cs args:List AV} {s:St} {cx:Ctx} {o:CO} (ho:o≠.fail)
  (h:af A.glob (aj A) fn (as++args++cs) s cx=o):aj A (.fn (.func f) as cs) args s cx=o:=by
 obtain ⟨n,hn⟩:=Zw (BX A) h ho
 exact y8 (n:=n+1) (fun m hm=>by obtain ⟨k,rfl⟩:∃k,m=k+1:=⟨m - 1,by omega⟩;simp only [gZ,hi,hh,hd,hf];exact hn k (by omega))
theorem aa5 {A:uG} {f:Nat} {d:I9} (hi:A.intr f=none) (hh:A.hi f=none) (hf:A.dfr f=some d) {as cs args:List AV} {s:St} {cx:Ctx} {o:CO} (ho:o≠.fail)
  (h:IJ A.glob (aj A) d (as++args++cs) s cx=o):aj A (.fn (.func f) as cs) args s cx=o:=by
 obtain ⟨n,hn⟩:=X3 (BX A) h ho
 exact y8 (n:=n+1) (fun m hm=>by obtain ⟨k,rfl⟩:∃k,m=k+1:=⟨m - 1,by omega⟩;simp only [gZ,hi,hh,hf];exact hn k (by omega))
theorem Eo {A:uG} {f:Nat} {k:HiK} (hi:A.intr f=none) (hf:A.hi f=some k) {as cs args:List AV} {s:St} {cx:Ctx} {o:CO} (ho:o≠.fail)
  (h:jy (aj A) (aj A.quiet) k (as++args++cs) s cx=o):aj A (.fn (.func f) as cs) args s cx=o:=by
 obtain ⟨n,hn⟩:=Qn (BX A) (BX A.quiet) h ho
 exact y8 (n:=n+1) (fun m hm=>by obtain ⟨k,rfl⟩:∃k,m=k+1:=⟨m - 1,by omega⟩;simp only [gZ,hi,hf];exact hn k (by omega))
theorem rE {A:uG} {f:Nat} {h:List AV→St→Option AV} (hi:A.intr f=some h) {as cs args:List AV} {s:St} {cx:Ctx} {r:AV} (hr:h (as++args++cs) s=some r):
  aj A (.fn (.func f) as cs) args s cx=.ret r s:=
 y8 (n:=1) (fun m hm=>by obtain ⟨k,rfl⟩:∃k,m=k+1:=⟨m - 1,by omega⟩;simp only [gZ,hi,hr])
theorem WW {A:uG} {l:Nat} {args:List AV} {s:St} {cx:Ctx} {o:CO} (ho:o≠.fail) (h:NV A.glob (aj A) l args s cx=o):aj A (.yl l) args s cx=o:=by
 obtain ⟨n,hn⟩:=Z4 (BX A) h ho
 exact y8 (n:=n+1) (fun m hm=>by obtain ⟨k,rfl⟩:∃k,m=k+1:=⟨m - 1,by omega⟩;simp only [gZ];exact hn k (by omega))
theorem aa4 {A:uG} {fv:AV} {args:List AV} {s s':St} {cx:Ctx} {r:AV} (h:aj A fv args s cx=.ret r s'):∃n,gZ A n fv args s cx=.ret r s':=by
 obtain ⟨n,hn⟩:=Jf h (by simp)
 exact ⟨n,hn n (Nat.le_refl _)⟩
end Go.Ai
namespace Go.Ai
section
variable {glob:Nat→Option (List AV)} {call callW:AV→List AV→St→Ctx→CO} {cx:Ctx}
def FT (call callW:AV→List AV→St→Ctx→CO):Prop:=∀fv args s cx c,call fv args s cx=c→c≠.fail→callW fv args s cx=c
theorem acj (hc:FT call callW) {ops:List aG} {ord:Option (List Nat×List Nat)} {env:Env} {s:St} {o:Out} (h:qW glob call cx ops env s ord=o) (ho:o≠.fail):
  qW glob callW cx ops env s ord=o:=by
 have:Lim call (fun _=>callW):=fun fv args s cx c h hne=>⟨0,fun _ _=>hc fv args s cx c h hne⟩
 obtain ⟨n,hn⟩:=PI this h ho
 exact hn n (Nat.le_refl _)
theorem abu {body yD:Env→St→Out} {keep:List Nat} (hb:∀env s o,body env s=o→o≠.fail→yD env s=o):
  ∀(N:Nat) {env:Env} {s:St} {o:Out},wS body keep N env s=o→o≠.fail→bF yD keep env s=o
 | 0,env,s,o,h,ho=>absurd h.symm ho
 | N+1,env,s,o,h,ho=>by
  simp only [wS] at h
  rw [D8]
  cases hx:body (fJ env keep) s with
  | fail=>rw [hx] at h;exact absurd h.symm ho
  | norm env' s'=>
   rw [hx] at h
   rw [hb _ _ _ hx (by simp)]
   exact abu hb N h ho
  | _=>rw [hb _ _ _ hx (by simp)];rw [hx] at h;exact h
theorem Yr {body yD:Env→St→Out} {l:Nat} {keep:List Nat} (hb:∀env s o,body env s=o→o≠.fail→yD env s=o):
  ∀(N:Nat) {env:Env} {s:St} {o:Out},qj body l keep N env s=o→o≠.fail→Bh yD l keep env s=o
 | 0,env,s,o,h,ho=>absurd h.symm ho
 | N+1,env,s,o,h,ho=>by
  simp only [qj] at h
  rw [DC]
  cases hx:body (fJ env keep) s with
  | fail=>rw [hx] at h;exact absurd h.symm ho
  | goto l' env' s'=>
   rw [hx] at h
   rw [hb _ _ _ hx (by simp)]
   simp only [Out.jmp] at h ⊢
   split at h
   ·rename_i hl;simp only [hl,if_true];exact Yr hb N h ho
   ·exact absurd h.symm ho
  | _=>rw [hb _ _ _ hx (by simp)];rw [hx] at h;exact h
theorem nN (hc:FT call callW) (ro:Bool) (N:Nat):∀(c:aC) (env:Env) (s:St) (o:Out),aX glob call cx ro N c env s=o→o≠.fail→ay glob callW cx ro c env s=o
 | .skip,env,s,o,h,ho=>by simpa [aX,ay] using h
 | .ret,env,s,o,h,ho=>by simpa [aX,ay] using h
 | .exit id,env,s,o,h,ho=>by simpa [aX,ay] using h
 | .region ops ord keep,env,s,o,h,ho=>by
  simp only [aX,ay] at h ⊢
  cases hx:qW glob call cx ops env s ord with
  | fail=>rw [hx] at h;exact absurd h.symm ho
  | _=>rw [acj hc hx (by simp)];rw [hx] at h;exact h
 | .seq a b,env,s,o,h,ho=>by
  simp only [aX,ay] at h ⊢
  cases hx:aX glob call cx ro N a env s with
  | fail=>rw [hx] at h;exact absurd h.symm ho
  | norm env' s'=>
   rw [hx] at h
   rw [nN hc ro N a _ _ _ hx (by simp)]
   exact nN hc ro N b _ _ _ h ho
  | _=>rw [nN hc ro N a _ _ _ hx (by simp)];rw [hx] at h;exact h
 | .cond c a b,env,s,o,h,ho=>by
  simp only [aX,ay] at h ⊢
  unfold agK
  split at h
  ·rename_i hx;rw [hx];simpa using nN hc ro N a _ _ _ h ho
  ·rename_i hx;rw [hx];simpa using nN hc ro N b _ _ _ h ho
  ·exact absurd h.symm ho
 | .block id b,env,s,o,h,ho=>by
  simp only [aX,ay] at h ⊢
  cases hx:aX glob call cx ro N b env s with
  | fail=>rw [hx] at h;exact absurd h.symm ho
  | _=>rw [nN hc ro N b _ _ _ hx (by simp)];rw [hx] at h;exact h
 | .loop keep b,env,s,o,h,ho=>by
  simp only [aX,ay] at h ⊢
  exact abu (nN hc ro N b) N h ho
 | .range f ps asg body,env,s,o,h,ho=>by
  simp only [aX,ay] at h ⊢
  split at h
  ·exact absurd h.symm ho
  ·rename_i hro
   simp only [hro]
   unfold Oh
   split at h
   ·rename_i ff as cs hx
    rw [hx]
    cases hy:call (.fn ff as cs) [.yl (s.length+1)] (s++[.dfr,.loop (tX env) ps asg body .ready]) cx with
    | fail=>rw [hy] at h;exact absurd h.symm ho
    | _=>
     have:=hc _ _ _ _ _ hy (by simp)
     rw [hy] at h
     simpa [this] using h
   ·exact absurd h.symm ho
 | .label l,env,s,o,h,ho=>by simpa [aX,ay] using h
 | .goto l,env,s,o,h,ho=>by simpa [aX,ay] using h
 | .scope l keep a b,env,s,o,h,ho=>by
  simp only [aX,ay] at h ⊢
  cases hx:aX glob call cx ro N a env s with
  | fail=>rw [hx] at h;exact absurd h.symm ho
  | goto l' env' s'=>
   rw [hx] at h
   rw [nN hc ro N a _ _ _ hx (by simp)]
   simp only [Out.jmp] at h ⊢
   split at h
   ·rename_i hl;simp only [hl,if_true];exact Yr (nN hc ro N b) N h ho
   ·exact absurd h.symm ho
  | _=>rw [nN hc ro N a _ _ _ hx (by simp)];rw [hx] at h;exact h
theorem adD (hc:FT call callW) {N:Nat} {fn:aO} {args:List AV} {s:St} {o:CO} (h:wK glob call N fn args s cx=o) (ho:o≠.fail):af glob callW fn args s cx=o:=by
 unfold wK at h
 unfold af
 split at h
 ·rename_i hnp
  simp only [hnp,if_true]
  cases hx:aX glob call ⟨if fn.pure then s.length else cx.lim,if fn.keep then cx.base else s.length⟩ fn.keep N fn.code (xP args 0) s with
  | fail=>rw [hx] at h;exact absurd h.symm ho
  | _=>rw [nN hc _ N _ _ _ _ hx (by simp)];rw [hx] at h;exact h
 ·exact absurd h.symm ho
theorem aaX (hc:FT call callW) {N:Nat} {d:I9} {args:List AV} {s:St} {o:CO} (h:sW glob call N d args s cx=o) (ho:o≠.fail):IJ glob callW d args s cx=o:=by
 have h1:Lim call (fun _=>callW):=fun fv args s cx c h hne=>⟨0,fun _ _=>hc fv args s cx c h hne⟩
 unfold sW at h
 unfold IJ
 split at h
 ·rename_i hnp
  simp only [hnp,if_true]
  cases hx:lm glob call ⟨cx.lim,s.length⟩ d.pre (xP args 0) s with
  | norm e0 s0=>
   obtain ⟨n0,hn0⟩:=CQ h1 _ hx (by simp)
   rw [hx] at h
   rw [hn0 n0 (Nat.le_refl _)]
   simp only [] at h ⊢
   cases hy:dQ glob call ⟨cx.lim,s.length⟩ d.mkc e0 s0 with
   | norm e1 s1=>
    obtain ⟨n1,hn1⟩:=yH h1 hy (by simp)
    rw [hy] at h
    rw [hn1 n1 (Nat.le_refl _)]
    simp only [] at h ⊢
    split at h
    ·rename_i f caps ls hl hp
     simp only [hl,hp]
     split at h
     ·rename_i hcond
      rw [if_pos hcond]
      cases hz:aX glob call ⟨cx.lim,s.length⟩ true N d.code e1 s1 with
      | fail=>rw [hz] at h;exact absurd h.symm ho
      | _=>rw [nN hc _ N _ _ _ _ hz (by simp)];rw [hz] at h;exact h
     ·exact absurd h.symm ho
    ·exact absurd h.symm ho
   | _=>rw [hy] at h;exact absurd h.symm ho
  | _=>rw [hx] at h;exact absurd h.symm ho
 ·exact absurd h.symm ho
theorem adQ (hc:FT call callW) {N l:Nat} {args:List AV} {s:St} {o:CO} (h:A8 glob call N l args s cx=o) (ho:o≠.fail):NV glob callW l args s cx=o:=by
 unfold A8 at h
 unfold NV
 split at h
 ·rename_i env ps asg body hl
  rw [hl]
  simp only []
  split at h
  ·rename_i hcond
   simp only [hcond,and_self,if_true]
   cases hx:aX glob call cx true N asg (GR env ps args) s with
   | norm env1 s1=>
    rw [nN hc true N _ _ _ _ hx (by simp)]
    rw [hx] at h
    unfold yD
    simp only [] at h ⊢
    split at h
    ·rename_i e1 p1 a1 b1 hl1
     rw [hl1]
     simp only []
     cases hy:aX glob call cx true N body env1 (s1.set l (.loop e1 p1 a1 b1 .busy)) with
     | fail=>rw [hy] at h;exact absurd h.symm ho
     | _=>rw [nN hc true N _ _ _ _ hy (by simp)];rw [hy] at h;exact h
    ·exact absurd h.symm ho
   | _=>rw [hx] at h;exact absurd h.symm ho
  ·exact absurd h.symm ho
 ·exact absurd h.symm ho
end
theorem adC {call callW qcall qcallW:AV→List AV→St→Ctx→CO} {cx:Ctx} (hc:FT call callW) (hq:FT qcall qcallW) {k:HiK} {args:List AV} {s:St} {o:CO} (h:jy call qcall k args s cx=o) (ho:o≠.fail):
  jy callW qcallW k args s cx=o:=by
 have h1:Lim call (fun _=>callW):=fun fv args s cx c h hne=>⟨0,fun _ _=>hc fv args s cx c h hne⟩
 have h2:Lim qcall (fun _=>qcallW):=fun fv args s cx c h hne=>⟨0,fun _ _=>hq fv args s cx c h hne⟩
 obtain ⟨n,hn⟩:=Qn h1 h2 h ho
 exact hn n (Nat.le_refl _)
theorem Po:∀(n:Nat) (A:uG),FT (gZ A n) (aj A)
 | 0,A=>fun fv args s cx c h hne=>by simp only [gZ] at h;exact absurd h.symm hne
 | n+1,A=>fun fv args s cx c h hne=>by
  have ih:=Po n A
  cases fv with
  | fn f as cs=>
   cases f with
   | func fid=>
    simp only [gZ] at h
    split at h
    ·rename_i hh hin
     split at h
     ·rename_i r hr;rw [←h];exact rE hin hr
     ·exact absurd h.symm hne
    ·rename_i hin
     split at h
     ·rename_i k hk;exact Eo hin hk hne (adC ih (Po n A.quiet) h hne)
     ·rename_i hk
      split at h
      ·rename_i d hd;exact aa5 hin hk hd hne (aaX ih h hne)
      ·rename_i hd
       split at h
       ·rename_i fn hfn;exact WX hin hk hd hfn hne (adD ih h hne)
       ·exact absurd h.symm hne
   | _=>simp only [gZ] at h;exact absurd h.symm hne
  | yl l=>simp only [gZ] at h;exact WW hne (adQ ih h hne)
  | _=>simp only [gZ] at h;exact absurd h.symm hne
theorem ZX (A:uG) (n:Nat):FT (gZ A n) (aj A):=Po n A
end Go.Ai
