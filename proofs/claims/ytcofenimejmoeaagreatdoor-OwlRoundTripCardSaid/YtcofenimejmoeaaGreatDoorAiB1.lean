/-
 The interpreter in the limit: no fuel.
-/
import Derived.Test.YtcofenimejmoeaaGreatDoorAiA1
set_option maxRecDepth 100000
set_option linter.unusedSimpArgs false
set_option linter.unusedVariables false
set_option linter.unusedSectionVars false
namespace Go.Ai
noncomputable def O5 {α:Type} (d:α) (h:Nat→α):α:=
 open Classical in if H:∃c,c≠d∧∃n,∀m,n≤m→h m=c then H.choose else d
theorem y8 {α:Type} {d:α} {h:Nat→α} {c:α} {n:Nat} (hc:∀m,n≤m→h m=c):O5 d h=c:=by
 unfold O5;split
 ·rename_i H;obtain ⟨_,n',hn'⟩:=H.choose_spec;rw [←hn' (max n n') (Nat.le_max_right _ _),hc _ (Nat.le_max_left _ _)]
 ·rename_i H;by_cases hd:c=d
  ·exact hd.symm
  ·exact absurd ⟨c,hd,n,hc⟩ H
theorem GX {α:Type} {d:α} {h:Nat→α} {c:α} (hl:O5 d h=c) (hd:c≠d):∃n,∀m,n≤m→h m=c:=by
 unfold O5 at hl
 split at hl
 ·rename_i H;obtain ⟨_,n',hn'⟩:=H.choose_spec;exact ⟨n',fun m hm=>(hn' m hm).trans hl⟩
 ·exact absurd hl.symm hd
theorem QX {α:Type} {d:α} {h g:Nat→α} (hs:∀n,h (n+1)=g n):O5 d h=O5 d g:=by
 by_cases hg:O5 d g=d
 ·rw [hg];by_cases hh:O5 d h=d
  ·exact hh
  ·obtain ⟨n,hn⟩:=GX rfl hh
   have:=y8 (d:=d) (h:=g) (c:=O5 d h) (n:=n) (fun m hm=>by rw [←hs];exact hn _ (by omega))
   rw [←this,hg]
 ·obtain ⟨n,hn⟩:=GX rfl hg;exact y8 (n:=n+1) (fun m hm=>by obtain ⟨k,rfl⟩:∃k,m=k+1:=⟨m - 1,by omega⟩;rw [hs];exact hn k (by omega))
def Out.thn (o:Out) (f:Env→St→Out):Out:=
 match o with
 | .norm env s=>f env s
 | o=>o
def Out.blk (id:Nat) (o:Out):Out:=
 match o with
 | .exit id' env s=>if id'=id then .norm env s else .exit id' env s
 | o=>o
def agq (x:Option AV) (a b:Unit→Out):Out:=
 match x with
 | some (.b x)=>if x=true then a () else b ()
 | _=>.fail
noncomputable def gQ (body:Env→St→Out) (keep:List Nat) (env:Env) (s:St):Out:=O5 .fail (fun N=>xu body keep N env s)
theorem KI (body:Env→St→Out) (keep:List Nat) (env:Env) (s:St):gQ body keep env s=(body (jb env keep) s).thn (gQ body keep):=by
 unfold gQ
 cases hb:body (jb env keep) s with
 | norm env' s'=>exact QX (fun n=>by simp [xu,hb])
 | _=>exact y8 (n:=1) (fun m hm=>by obtain ⟨k,rfl⟩:∃k,m=k+1:=⟨m - 1,by omega⟩;simp [xu,hb,Out.thn])
noncomputable def LZ (body:Env→St→Out) (l:Nat) (keep:List Nat) (env:Env) (s:St):Out:=O5 .fail (fun N=>qA body l keep N env s)
def Out.jmp (l:Nat) (o:Out) (f:Env→St→Out):Out:=
 match o with
 | .goto l' env s=>if l'=l then f env s else .fail
 | o=>o
theorem abd (body:Env→St→Out) (l:Nat) (keep:List Nat) (env:Env) (s:St):LZ body l keep env s=(body (jb env keep) s).jmp l (LZ body l keep):=by
 unfold LZ
 cases hb:body (jb env keep) s with
 | goto l' env' s'=>
  by_cases hl:l'=l
  ·simp only [Out.jmp,hl,if_true];exact QX (fun n=>by simp [qA,hb,hl])
  ·exact y8 (n:=1) (fun m hm=>by obtain ⟨k,rfl⟩:∃k,m=k+1:=⟨m - 1,by omega⟩;simp [qA,hb,Out.jmp,hl])
 | _=>exact y8 (n:=1) (fun m hm=>by obtain ⟨k,rfl⟩:∃k,m=k+1:=⟨m - 1,by omega⟩;simp [qA,hb,Out.jmp])
section
variable (glob:Nat→Option (List AV))
def Fj (x:Option AV) (call:AV→List AV→St→Ctx→CO) (cx:Ctx) (ps:List Nat) (asg body:bH) (env:Env) (s:St):Out:=
 match x with
 | some (.fn ff as cs)=>match call (.fn ff as cs) [.yl (s.length+1)] (s++[.dfr,.loop (rP env) ps asg body .ready]) cx with
  | .ret _ s'=>D8 env s' (s.length+1)
  | _=>.fail
 | _=>.fail
noncomputable def aB (call:AV→List AV→St→Ctx→CO) (cx:Ctx) (ro:Bool):bH→Env→St→Out
 | .skip,env,s=>.norm env s
 | .ret,env,s=>.ret env s
 | .exit id,env,s=>.exit id env s
 | .region ops ord keep,env,s=>(rJ glob call cx ops env s ord).thn fun env s=>.norm (jb env keep) s
 | .seq a b,env,s=>(aB call cx ro a env s).thn (aB call cx ro b)
 | .cond c a b,env,s=>agq (rd glob env c) (fun _=>aB call cx ro a env s) (fun _=>aB call cx ro b env s)
 | .block id b,env,s=>(aB call cx ro b env s).blk id
 | .loop keep b,env,s=>gQ (aB call cx ro b) keep env s
 | .range f ps asg body,env,s=>if ro=true then .fail else Fj (rd glob env f) call cx ps asg body env s
 | .label _,env,s=>.norm env s
 | .goto l,env,s=>.goto l env s
 | .scope l keep a b,env,s=>(aB call cx ro a env s).jmp l (LZ (aB call cx ro b) l keep)
def endW (pure keep:Bool) (s:St) (res:List RV) (o:Out):CO:=
 match o with
 | .norm env s1 | .ret env s1=>match nX glob env s1 res with
  | some rs=>finish pure keep s s1 (tN rs)
  | none=>.fail
 | .pan v s1=>(finish pure keep s s1 v).toPan
 | _=>.fail
noncomputable def af (call:AV→List AV→St→Ctx→CO) (fn:bM) (args:List AV) (s:St) (cx:Ctx):CO:=
 if args.length=fn.np then
  endW glob fn.pure fn.keep s fn.res (aB glob call ⟨if fn.pure=true then s.length else cx.lim,if fn.keep=true then cx.base else s.length⟩ fn.keep fn.code (xU args 0) s)
 else .fail
noncomputable def Xt (callW:AV→List AV→St→Ctx→CO) (cx:Ctx) (m:Option bH) (env:Env) (s:St):Out:=
 match m with
 | none=>.norm env s
 | some c=>aB glob callW cx true c env s
noncomputable def xY (callW:AV→List AV→St→Ctx→CO) (d:GH) (args:List AV) (s:St) (cx:Ctx):CO:=
 if args.length=d.np then
  match mD glob callW ⟨cx.lim,s.length⟩ d.pre (xU args 0) s with
  | .norm envm sm=>match Xt glob callW ⟨cx.lim,s.length⟩ d.mid envm sm with
   | .ret env2 s2=>(match nX glob env2 s2 d.res with
    | some rs=>finish false false s s2 (tN rs)
    | none=>.fail)
   | .norm xU s0=>(match fF glob callW ⟨cx.lim,s.length⟩ d.mkc xU s0 with
    | .norm env1 s1=>match lk env1 d.ct,d.pins.mapM (placeOf env1) with
     | some (.v (.fn (.func f) [] caps)),some ls=>
      if f=d.clo∧EM caps ls=true then
       match aB glob callW ⟨cx.lim,s.length⟩ true d.code env1 s1 with
       | .norm env2 s2 | .ret env2 s2=>match nX glob env2 s2 d.res with
        | some rs=>finish false false s s2 (tN rs)
        | none=>.fail
       | .pan v s2=>match d.hnd v with
        | some news=>if vU s.length s2 ls news=true then
          (match nX glob (zG d.pins ls) (mX s2 ls news) d.res with
          | some rs=>finish false false s (mX s2 ls news) (tN rs)
          | none=>.fail) else .fail
        | none=>.fail
       | _=>.fail
      else .fail
     | _,_=>.fail
    | _=>.fail)
   | _=>.fail
  | _=>.fail
 else .fail
def G5 (l:Nat) (o:Out):CO:=
 match o with
 | .norm _ s2=>sD s2 l .ready true
 | .ret _ s2=>sD s2 l .ret false
 | .exit id _ s2=>sD s2 l (.exit id) false
 | _=>.fail
noncomputable def xZ (call:AV→List AV→St→Ctx→CO) (cx:Ctx) (body:bH) (l:Nat) (o:Out):CO:=
 match o with
 | .norm env1 s1=>match s1[l]? with
  | some (.loop e1 p1 a1 b1 .ready)=>G5 l (aB glob call cx true body env1 (s1.set l (.loop e1 p1 a1 b1 .busy)))
  | _=>.fail
 | _=>.fail
noncomputable def IK (call:AV→List AV→St→Ctx→CO) (l:Nat) (args:List AV) (s:St) (cx:Ctx):CO:=
 match s[l]? with
 | some (.loop env ps asg body .ready)=>
  if ps.length=args.length∧cx.lim≤l then
   xZ glob call cx body l (aB glob call cx true asg (CY env ps args) s)
  else .fail
 | _=>.fail
end
section
variable {glob:Nat→Option (List AV)} {callW:AV→List AV→St→Ctx→CO} {call:Nat→AV→List AV→St→Ctx→CO} {cx:Ctx}
def Lim (callW:AV→List AV→St→Ctx→CO) (call:Nat→AV→List AV→St→Ctx→CO):Prop:=
 ∀fv args s cx c,callW fv args s cx=c→c≠.fail→∃n,∀m,n≤m→call m fv args s cx=c
theorem SK (hc:Lim callW call) {env:Env} {s:St} {op:AOp} {o:RO} (h:aop glob callW cx env s op=o) (ho:o≠.fail):
  ∃n,∀m,n≤m→aop glob (call m) cx env s op=o:=by
 by_cases hch:∃d f as k,op=.callh d f as k
 ·obtain ⟨d,f,as,k,rfl⟩:=hch;simp only [aop] at h ⊢
  split at h
  ·exact absurd h.symm ho
  ·split at h
   ·rename_i fv as' h1 h2
    cases hx:callW fv as' s cx with
    | fail=>rw [hx] at h;exact absurd h.symm ho
    | ret r s'=>
     obtain ⟨n,hn⟩:=hc _ _ _ _ _ hx (by simp);exact ⟨n,fun m hm=>by rw [hn m hm];rw [hx] at h;exact h⟩
    | pan r s'=>
     obtain ⟨n,hn⟩:=hc _ _ _ _ _ hx (by simp);exact ⟨n,fun m hm=>by rw [hn m hm];rw [hx] at h;exact h⟩
   ·exact absurd h.symm ho
 by_cases hcall:∃f as,op=.call f as∨op=.callp f as
 ·obtain ⟨f,as,hop⟩:=hcall
  have hcp:∀c:AV→List AV→St→Ctx→CO,aop glob c cx env s op=aop glob c cx env s (.call f as):=by rcases hop with rfl|rfl<;>exact fun _=>rfl
  simp only [hcp] at h ⊢;clear hop hcp;simp only [aop] at h ⊢
  split at h
  ·rename_i fv as' env' h1 h2
   cases hx:callW fv as' s cx with
   | fail=>rw [hx] at h;exact absurd h.symm ho
   | ret r s'=>
    obtain ⟨n,hn⟩:=hc _ _ _ _ _ hx (by simp);exact ⟨n,fun m hm=>by rw [hn m hm];rw [hx] at h;exact h⟩
   | pan r s'=>
    obtain ⟨n,hn⟩:=hc _ _ _ _ _ hx (by simp);exact ⟨n,fun m hm=>by rw [hn m hm];rw [hx] at h;exact h⟩
  ·exact absurd h.symm ho
 ·refine ⟨0,fun m _=>?_⟩;rw [←h]
  cases op with
  | call f as=>exact absurd ⟨_,_,.inl rfl⟩ hcall
  | callp f as=>exact absurd ⟨_,_,.inr rfl⟩ hcall
  | callh d f as k=>exact absurd ⟨_,_,_,_,rfl⟩ hch
  | len k x=>rcases k with _ | _ | _|k<;>rfl
  | _=>rfl
theorem yG (hc:Lim callW call) {env:Env} {s:St} {p:aI} {o:Out} (h:fF glob callW cx p env s=o) (ho:o≠.fail):
  ∃n,∀m,n≤m→fF glob (call m) cx p env s=o:=by
 unfold fF at h ⊢
 split at h
 ·exact absurd h.symm ho
 ·exact ⟨0,fun m _=>h⟩
 ·cases hx:aop glob callW cx env s p.op with
  | fail=>rw [hx] at h;exact absurd h.symm ho
  | ok e env' s'=>
   obtain ⟨n,hn⟩:=SK hc hx (by simp);exact ⟨n,fun m hm=>by rw [hn m hm];rw [hx] at h;exact h⟩
  | pan v s'=>
   obtain ⟨n,hn⟩:=SK hc hx (by simp);exact ⟨n,fun m hm=>by rw [hn m hm];rw [hx] at h;exact h⟩
theorem BD (hc:Lim callW call):∀(ops:List aI) {env:Env} {s:St} {o:Out},mD glob callW cx ops env s=o→o≠.fail→
  ∃n,∀m,n≤m→mD glob (call m) cx ops env s=o
 | [],env,s,o,h,ho=>⟨0,fun m _=>h⟩
 | p::r,env,s,o,h,ho=>by
  simp only [mD] at h ⊢
  cases hx:fF glob callW cx p env s with
  | fail=>rw [hx] at h;exact absurd h.symm ho
  | norm env' s'=>
   rw [hx] at h;obtain ⟨n,hn⟩:=yG hc hx (by simp);obtain ⟨n',hn'⟩:=BD hc r h ho;exact ⟨max n n',fun m hm=>by rw [hn m (by omega)];exact hn' m (by omega)⟩
  | _=>
   obtain ⟨n,hn⟩:=yG hc hx (by simp);exact ⟨n,fun m hm=>by rw [hn m hm];rw [hx] at h;exact h⟩
theorem abk (hc:Lim callW call) {env:Env} {s:St} {p:aI} {e:EV} (h:xE glob callW p env s=some e):
  ∃n,∀m,n≤m→xE glob (call m) p env s=some e:=by
 unfold xE at h ⊢
 split at h
 ·cases h
 ·exact ⟨0,fun m _=>h⟩
 ·split at h
  ·rename_i hq;simp only [hq,if_true]
   cases hx:aop glob callW ⟨s.length,s.length⟩ env s p.op with
   | fail=>rw [hx] at h;cases h
   | ok e env' s'=>
    obtain ⟨n,hn⟩:=SK hc hx (by simp);exact ⟨n,fun m hm=>by rw [hn m hm];rw [hx] at h;exact h⟩
   | pan v s'=>rw [hx] at h;cases h
  ·cases h
theorem Ul (hc:Lim callW call) {env:Env} {s:St} {p:aI} {o:Out} (h:gX glob callW cx p env s=o) (ho:o≠.fail):
  ∃n,∀m,n≤m→gX glob (call m) cx p env s=o:=by
 unfold gX at h ⊢
 split at h
 ·rename_i hq;simp only [hq,if_true];unfold Bo at h ⊢
  cases hx:xE glob callW p env s with
  | none=>rw [hx] at h;exact absurd h.symm ho
  | some e=>
   obtain ⟨n,hn⟩:=abk hc hx;exact ⟨n,fun m hm=>by rw [hn m hm];rw [hx] at h;exact h⟩
 ·rename_i hq;simp only [hq];exact yG hc h ho
theorem zV (hc:Lim callW call) (aops:List aI):∀(l:List Nat) {env:Env} {s:St} {o:Out},jw glob callW cx aops l env s=o→o≠.fail→
  ∃n,∀m,n≤m→jw glob (call m) cx aops l env s=o
 | [],env,s,o,h,ho=>⟨0,fun m _=>h⟩
 | i::r,env,s,o,h,ho=>by
  simp only [jw] at h ⊢
  split at h
  ·exact absurd h.symm ho
  ·rename_i p hp
   cases hx:gX glob callW cx p env s with
   | fail=>rw [hx] at h;exact absurd h.symm ho
   | norm env' s'=>
    rw [hx] at h;obtain ⟨n,hn⟩:=Ul hc hx (by simp);obtain ⟨n',hn'⟩:=zV hc aops r h ho;exact ⟨max n n',fun m hm=>by rw [hn m (by omega)];exact hn' m (by omega)⟩
   | _=>
    obtain ⟨n,hn⟩:=Ul hc hx (by simp);exact ⟨n,fun m hm=>by rw [hn m hm];rw [hx] at h;exact h⟩
theorem Xi (hc:Lim callW call) {ops:List aI} {π:List Nat} {env:Env} {s:St} {o:Out} (h:yI glob callW cx ops π env s=o) (ho:o≠.fail):
  ∃n,∀m,n≤m→yI glob (call m) cx ops π env s=o:=by
 unfold yI at h ⊢
 split at h
 ·exact absurd h.symm ho
 ·rename_i c oc hpc
  split at h
  ·rename_i hall
   cases hx:jw glob callW cx ops (Fz ops c oc false π) env s with
   | norm env1 s1=>
    rw [hx] at h;simp only [] at h
    cases hy:fF glob callW cx oc env1 s1 with
    | pan v s2=>
     rw [hy] at h;obtain ⟨n,hn⟩:=zV hc ops _ hx (by simp);obtain ⟨n',hn'⟩:=yG hc hy (by simp);refine ⟨max n n',fun m hm=>?_⟩;rw [hn m (by omega)];simp only [];rw [if_pos hall,hn' m (by omega)];exact h
    | _=>rw [hy] at h;exact absurd h.symm ho
   | _=>rw [hx] at h;exact absurd h.symm ho
  ·exact absurd h.symm ho
theorem NR (hc:Lim callW call) {ops:List aI} {ord:Option (List Nat×List Nat)} {env:Env} {s:St} {o:Out} (h:rJ glob callW cx ops env s ord=o) (ho:o≠.fail):
  ∃n,∀m,n≤m→rJ glob (call m) cx ops env s ord=o:=by
 cases ord with
 | none=>exact BD hc ops h ho
 | some p=>
  simp only [rJ] at h ⊢
  cases hx:jw glob callW cx ops p.1 (CW env p.2) s with
  | fail=>rw [hx] at h;exact absurd h.symm ho
  | pan v s1=>
   rw [hx] at h;obtain ⟨n,hn⟩:=zV hc ops p.1 hx (by simp);obtain ⟨n',hn'⟩:=Xi hc (h:yI glob callW cx ops p.1 (CW env p.2) s=o) ho;exact ⟨max n n',fun m hm=>by rw [hn m (by omega)];exact hn' m (by omega)⟩
  | _=>
   obtain ⟨n,hn⟩:=zV hc ops p.1 hx (by simp);exact ⟨n,fun m hm=>by rw [hn m hm];rw [hx] at h;exact h⟩
theorem UC {xZ:Env→St→Out} {body:Nat→Env→St→Out} {keep:List Nat} (hb:∀env s o,xZ env s=o→o≠.fail→∃n,∀m,n≤m→body m env s=o):
  ∀(N0:Nat) {env:Env} {s:St} {o:Out},xu xZ keep N0 env s=o→o≠.fail→∃n,∀m,n≤m→∀N,N0≤N→xu (body m) keep N env s=o
 | 0,env,s,o,h,ho=>absurd h.symm ho
 | N0+1,env,s,o,h,ho=>by
  simp only [xu] at h
  cases hx:xZ (jb env keep) s with
  | fail=>rw [hx] at h;exact absurd h.symm ho
  | norm env' s'=>
   rw [hx] at h;obtain ⟨n,hn⟩:=hb _ _ _ hx (by simp);obtain ⟨n',hn'⟩:=UC hb N0 h ho;refine ⟨max n n',fun m hm N hN=>?_⟩;obtain ⟨k,rfl⟩:∃k,N=k+1:=⟨N - 1,by omega⟩;simp only [xu];rw [hn m (by omega)];exact hn' m (by omega) k (by omega)
  | _=>
   obtain ⟨n,hn⟩:=hb _ _ _ hx (by simp);refine ⟨n,fun m hm N hN=>?_⟩;obtain ⟨k,rfl⟩:∃k,N=k+1:=⟨N - 1,by omega⟩;simp only [xu];rw [hn m hm];rw [hx] at h;exact h
theorem Qe {xZ:Env→St→Out} {body:Nat→Env→St→Out} {l:Nat} {keep:List Nat} (hb:∀env s o,xZ env s=o→o≠.fail→∃n,∀m,n≤m→body m env s=o):
  ∀(N0:Nat) {env:Env} {s:St} {o:Out},qA xZ l keep N0 env s=o→o≠.fail→∃n,∀m,n≤m→∀N,N0≤N→qA (body m) l keep N env s=o
 | 0,env,s,o,h,ho=>absurd h.symm ho
 | N0+1,env,s,o,h,ho=>by
  simp only [qA] at h
  cases hx:xZ (jb env keep) s with
  | fail=>rw [hx] at h;exact absurd h.symm ho
  | goto l' env' s'=>
   rw [hx] at h;simp only [] at h
   split at h
   ·rename_i hl;obtain ⟨n,hn⟩:=hb _ _ _ hx (by simp);obtain ⟨n',hn'⟩:=Qe hb N0 h ho;refine ⟨max n n',fun m hm N hN=>?_⟩;obtain ⟨k,rfl⟩:∃k,N=k+1:=⟨N - 1,by omega⟩;simp only [qA];rw [hn m (by omega)];simp only [hl,if_true];exact hn' m (by omega) k (by omega)
   ·exact absurd h.symm ho
  | _=>
   obtain ⟨n,hn⟩:=hb _ _ _ hx (by simp);refine ⟨n,fun m hm N hN=>?_⟩;obtain ⟨k,rfl⟩:∃k,N=k+1:=⟨N - 1,by omega⟩;simp only [qA];rw [hn m hm];rw [hx] at h;exact h
theorem kE (hc:Lim callW call) (ro:Bool):∀(c:bH) (env:Env) (s:St) (o:Out),aB glob callW cx ro c env s=o→o≠.fail→
  ∃n,∀m,n≤m→bF glob (call m) cx ro m c env s=o
 | .skip,env,s,o,h,ho=>⟨0,fun m _=>by simpa [bF,aB] using h⟩
 | .ret,env,s,o,h,ho=>⟨0,fun m _=>by simpa [bF,aB] using h⟩
 | .exit id,env,s,o,h,ho=>⟨0,fun m _=>by simpa [bF,aB] using h⟩
 | .region ops ord keep,env,s,o,h,ho=>by
  simp only [bF,aB] at h ⊢
  cases hx:rJ glob callW cx ops env s ord with
  | fail=>rw [hx] at h;exact absurd h.symm ho
  | _=>
   obtain ⟨n,hn⟩:=NR hc hx (by simp);exact ⟨n,fun m hm=>by rw [hn m hm];rw [hx] at h;exact h⟩
 | .seq a b,env,s,o,h,ho=>by
  simp only [bF,aB] at h ⊢
  cases hx:aB glob callW cx ro a env s with
  | fail=>rw [hx] at h;exact absurd h.symm ho
  | norm env' s'=>
   rw [hx] at h;obtain ⟨n,hn⟩:=kE hc ro a _ _ _ hx (by simp);obtain ⟨n',hn'⟩:=kE hc ro b _ _ _ h ho;exact ⟨max n n',fun m hm=>by rw [hn m (by omega)];exact hn' m (by omega)⟩
  | _=>
   obtain ⟨n,hn⟩:=kE hc ro a _ _ _ hx (by simp);exact ⟨n,fun m hm=>by rw [hn m hm];rw [hx] at h;exact h⟩
 | .cond c a b,env,s,o,h,ho=>by
  simp only [bF,aB] at h ⊢;unfold agq at h
  split at h
  ·rename_i x hx;rw [hx]
   cases x with
   | true=>exact kE hc ro a _ _ _ (by simpa using h) ho
   | false=>exact kE hc ro b _ _ _ (by simpa using h) ho
  ·exact absurd h.symm ho
 | .block id b,env,s,o,h,ho=>by
  simp only [bF,aB] at h ⊢
  cases hx:aB glob callW cx ro b env s with
  | fail=>rw [hx] at h;exact absurd h.symm ho
  | _=>
   obtain ⟨n,hn⟩:=kE hc ro b _ _ _ hx (by simp);exact ⟨n,fun m hm=>by rw [hn m hm];rw [hx] at h;exact h⟩
 | .loop keep b,env,s,o,h,ho=>by
  simp only [bF,aB] at h ⊢;obtain ⟨N0,hN⟩:=GX h ho;obtain ⟨n,hn⟩:=UC (body:=fun m=>bF glob (call m) cx ro m b) (kE hc ro b) N0 (hN N0 (Nat.le_refl _)) ho;exact ⟨max n N0,fun m hm=>hn m (by omega) m (by omega)⟩
 | .range f ps asg body,env,s,o,h,ho=>by
  simp only [bF,aB] at h ⊢
  split at h
  ·exact absurd h.symm ho
  ·rename_i hro;simp only [hro];unfold Fj at h
   split at h
   ·rename_i ff as cs hx;rw [hx];simp only []
    cases hy:callW (.fn ff as cs) [.yl (s.length+1)] (s++[.dfr,.loop (rP env) ps asg body .ready]) cx with
    | fail=>rw [hy] at h;exact absurd h.symm ho
    | _=>
     obtain ⟨n,hn⟩:=hc _ _ _ _ _ hy (by simp);exact ⟨n,fun m hm=>by rw [hn m hm];rw [hy] at h;exact h⟩
   ·exact absurd h.symm ho
 | .label l,env,s,o,h,ho=>⟨0,fun m _=>by simpa [bF,aB] using h⟩
 | .goto l,env,s,o,h,ho=>⟨0,fun m _=>by simpa [bF,aB] using h⟩
 | .scope l keep a b,env,s,o,h,ho=>by
  simp only [bF,aB] at h ⊢
  cases hx:aB glob callW cx ro a env s with
  | fail=>rw [hx] at h;exact absurd h.symm ho
  | goto l' env' s'=>
   rw [hx] at h;simp only [Out.jmp] at h
   split at h
   ·rename_i hl;obtain ⟨n,hn⟩:=kE hc ro a _ _ _ hx (by simp);obtain ⟨N0,hN⟩:=GX h ho;obtain ⟨n',hn'⟩:=Qe (body:=fun m=>bF glob (call m) cx ro m b) (kE hc ro b) N0 (hN N0 (Nat.le_refl _)) ho;exact ⟨max n (max n' N0),fun m hm=>by rw [hn m (by omega)];simp only [hl,if_true];exact hn' m (by omega) m (by omega)⟩
   ·exact absurd h.symm ho
  | _=>
   obtain ⟨n,hn⟩:=kE hc ro a _ _ _ hx (by simp);exact ⟨n,fun m hm=>by rw [hn m hm];rw [hx] at h;exact h⟩
theorem Yl (hc:Lim callW call) {fn:bM} {args:List AV} {s:St} {o:CO} (h:af glob callW fn args s cx=o) (ho:o≠.fail):
  ∃n,∀m,n≤m→wZ glob (call m) m fn args s cx=o:=by
 unfold af at h;unfold wZ
 split at h
 ·rename_i hnp;simp only [hnp,if_true]
  cases hx:aB glob callW ⟨if fn.pure=true then s.length else cx.lim,if fn.keep=true then cx.base else s.length⟩ fn.keep fn.code (xU args 0) s with
  | fail=>rw [hx] at h;exact absurd h.symm ho
  | _=>
   obtain ⟨n,hn⟩:=kE hc _ _ _ _ _ hx (by simp);exact ⟨n,fun m hm=>by rw [hn m hm];rw [hx] at h;exact h⟩
 ·exact absurd h.symm ho
theorem Xr (hc:Lim callW call) {m:Option bH} {env:Env} {s:St} {o:Out} (h:Xt glob callW cx m env s=o) (ho:o≠.fail):
  ∃n,∀k,n≤k→CG glob (call k) cx k m env s=o:=by
 cases m with
 | none=>exact ⟨0,fun _ _=>h⟩
 | some c=>exact kE hc _ _ _ _ _ h ho
theorem Wq (hc:Lim callW call) {d:GH} {args:List AV} {s:St} {o:CO} (h:xY glob callW d args s cx=o) (ho:o≠.fail):
  ∃n,∀m,n≤m→uo glob (call m) m d args s cx=o:=by
 unfold xY at h;unfold uo
 split at h
 ·rename_i hnp;simp only [hnp,if_true]
  cases hxm:mD glob callW ⟨cx.lim,s.length⟩ d.pre (xU args 0) s with
  | norm em sm=>
   obtain ⟨nm,hnm⟩:=BD hc _ hxm (by simp);rw [hxm] at h;simp only [] at h
   cases hx:Xt glob callW ⟨cx.lim,s.length⟩ d.mid em sm with
   | ret e2 s2=>
    obtain ⟨n0,hn0⟩:=Xr hc hx (by simp);rw [hx] at h;refine ⟨max nm n0,fun m hm=>?_⟩;rw [hnm m (by omega)];simp only [];rw [hn0 m (by omega)];exact h
   | norm e0 s0=>
    obtain ⟨n0,hn0⟩:=Xr hc hx (by simp);rw [hx] at h;simp only [] at h
    cases hy:fF glob callW ⟨cx.lim,s.length⟩ d.mkc e0 s0 with
    | norm e1 s1=>
     obtain ⟨n1,hn1⟩:=yG hc hy (by simp);rw [hy] at h;simp only [] at h
     split at h
     ·rename_i f caps ls hl hp
      split at h
      ·rename_i hcond
       cases hz:aB glob callW ⟨cx.lim,s.length⟩ true d.code e1 s1 with
       | fail=>rw [hz] at h;exact absurd h.symm ho
       | _=>
        obtain ⟨n,hn⟩:=kE hc _ _ _ _ _ hz (by simp);refine ⟨max nm (max n (max n0 n1)),fun m hm=>?_⟩;rw [hnm m (by omega)];simp only [];rw [hn0 m (by omega)];simp only [];rw [hn1 m (by omega)];simp only [hl,hp];rw [if_pos hcond,hn m (by omega)];rw [hz] at h;exact h
      ·exact absurd h.symm ho
     ·exact absurd h.symm ho
    | _=>rw [hy] at h;exact absurd h.symm ho
   | _=>rw [hx] at h;exact absurd h.symm ho
  | _=>rw [hxm] at h;exact absurd h.symm ho
 ·exact absurd h.symm ho
theorem YE (hc:Lim callW call) {l:Nat} {args:List AV} {s:St} {o:CO} (h:IK glob callW l args s cx=o) (ho:o≠.fail):
  ∃n,∀m,n≤m→AA glob (call m) m l args s cx=o:=by
 unfold IK at h;unfold AA
 split at h
 ·rename_i env ps asg body hl;rw [hl];simp only []
  split at h
  ·rename_i hcond;simp only [hcond,and_self,if_true]
   cases hx:aB glob callW cx true asg (CY env ps args) s with
   | norm env1 s1=>
    obtain ⟨n,hn⟩:=kE hc true _ _ _ _ hx (by simp);rw [hx] at h;unfold xZ at h;simp only [] at h
    split at h
    ·rename_i e1 p1 a1 b1 hl1
     cases hy:aB glob callW cx true body env1 (s1.set l (.loop e1 p1 a1 b1 .busy)) with
     | fail=>rw [hy] at h;exact absurd h.symm ho
     | _=>
      obtain ⟨n',hn'⟩:=kE hc true _ _ _ _ hy (by simp);exact ⟨max n n',fun m hm=>by rw [hn m (by omega)];simp only [hl1];rw [hn' m (by omega)];rw [hy] at h;exact h⟩
    ·exact absurd h.symm ho
   | _=>rw [hx] at h;exact absurd h.symm ho
  ·exact absurd h.symm ho
 ·exact absurd h.symm ho
end
theorem QT {α β:Type} {f:α→Option β} {g:Nat→α→Option β}:∀(l:List α) {r:List β},(∀x∈l,∀y,f x=some y→∃n,∀m,n≤m→g m x=some y)→l.mapM f=some r→∃n,∀m,n≤m→l.mapM (g m)=some r
 | [],r,_,h=>⟨0,fun m _=>by simpa using h⟩
 | x::l,r,hf,h=>by
  simp only [List.mapM_cons,Option.bind_eq_bind,Option.pure_def] at h ⊢
  cases hx:f x with
  | none=>simp [hx] at h
  | some y=>
   cases hl:l.mapM f with
   | none=>simp [hx,hl] at h
   | some ys=>
    simp [hx,hl] at h;subst h;obtain ⟨n,hn⟩:=hf x (by simp) y hx;obtain ⟨n',hn'⟩:=QT l (fun z hz=>hf z (by simp [hz])) hl;exact ⟨max n n',fun m hm=>by rw [hn m (by omega),hn' m (by omega)];rfl⟩
theorem acs {callW:AV→List AV→St→Ctx→CO} {call:Nat→AV→List AV→St→Ctx→CO} (hc:Lim callW call) {g:Nat} {x y:AV} {r:Int} (h:acu callW g x y=some r):
  ∃n,∀m,n≤m→acu (call m) g x y=some r:=by
 unfold acu at h ⊢
 cases hx:callW (.fn (.func g) [] []) [x,y] [] ⟨0,0⟩ with
 | fail=>rw [hx] at h;cases h
 | pan v s=>rw [hx] at h;cases h
 | ret v s=>
  obtain ⟨n,hn⟩:=hc _ _ _ _ _ hx (by simp);exact ⟨n,fun m hm=>by rw [hn m hm];rw [hx] at h;exact h⟩
theorem Yh {callW:AV→List AV→St→Ctx→CO} {call:Nat→AV→List AV→St→Ctx→CO} (hc:Lim callW call) {g:Nat} {es:List AV} {tab:List (List Int)} (h:Wn callW g es=some tab):
  ∃n,∀m,n≤m→Wn (call m) g es=some tab:=
 QT (g:=fun m x=>es.mapM fun y=>acu (call m) g x y) es (fun _ _ _ hx=>QT (g:=fun m y=>acu (call m) g _ y) es (fun _ _ _ hy=>acs hc hy) hx) h
theorem OB {callW qcallW:AV→List AV→St→Ctx→CO} {call qcall:Nat→AV→List AV→St→Ctx→CO} {cx:Ctx} (hc:Lim callW call) (hq:Lim qcallW qcall) {k:HiK} {args:List AV} {s:St} {o:CO}
  (h:lS callW qcallW k args s cx=o) (ho:o≠.fail):∃n,∀m,n≤m→lS (call m) (qcall m) k args s cx=o:=by
 unfold lS at h
 split at h
 ·rename_i r f as cs
  cases hx:callW (.fn (.func f) as cs) [] s cx with
  | ret r1 s1=>
   obtain ⟨n,hn⟩:=hc _ _ _ _ _ hx (by simp);exact ⟨n,fun m hm=>by simp only [lS,hn m hm];rw [hx] at h;exact h⟩
  | pan r1 s1=>
   obtain ⟨n,hn⟩:=hc _ _ _ _ _ hx (by simp);exact ⟨n,fun m hm=>by simp only [lS,hn m hm];rw [hx] at h;exact h⟩
  | fail=>rw [hx] at h;exact absurd h.symm ho
 ·exact ⟨0,fun m _=>by simpa [lS] using h⟩
 ·exact ⟨0,fun m _=>by simpa [lS] using h⟩
 ·rename_i k0 l ver sz o m g
  split at h
  ·exact ⟨0,fun m _=>by simpa [lS] using h⟩
  ·rename_i n t sz' ver' cs hl
   split at h
   ·rename_i hcond
    cases hx:Wn qcallW g (chunk sz (n+1) (cs.drop o)) with
    | none=>rw [hx] at h;exact absurd h.symm ho
    | some tab=>
     obtain ⟨n1,hn⟩:=Yh hq hx;exact ⟨n1,fun m hm=>by simp only [lS,hl];rw [if_pos hcond,hn m hm];rw [hx] at h;exact h⟩
   ·exact absurd h.symm ho
  ·exact absurd h.symm ho
 ·exact ⟨0,fun m _=>by simpa [lS] using h⟩
 ·exact ⟨0,fun m _=>by simp only [lS];exact h⟩
 ·rename_i f t z e es
  cases hx:callW (.fn (.func f) [] []) [.pt s.length 0] (s++[.cells [.sl (e::es)]]) cx with
  | ret r1 s1=>
   obtain ⟨n,hn⟩:=hc _ _ _ _ _ hx (by simp);exact ⟨n,fun m hm=>by simp only [lS,hn m hm];rw [hx] at h;exact h⟩
  | pan r1 s1=>
   obtain ⟨n,hn⟩:=hc _ _ _ _ _ hx (by simp);exact ⟨n,fun m hm=>by simp only [lS,hn m hm];rw [hx] at h;exact h⟩
  | fail=>rw [hx] at h;exact absurd h.symm ho
 ·exact absurd h.symm ho
noncomputable def aj (A:uX) (fv:AV) (args:List AV) (s:St) (cx:Ctx):CO:=O5 .fail fun n=>jv A n fv args s cx
theorem Bh (A:uX):Lim (aj A) (jv A):=fun fv args s cx c h hc=>GX h hc
theorem U7 {A:uX} {f:Nat} {fn:bM} (hi:A.intr f=none) (hh:A.hi f=none) (hd:A.dfr f=none) (hf:A.fns f=some fn) {as cs args:List AV} {s:St} {cx:Ctx} {o:CO} (ho:o≠.fail)
  (h:af A.glob (aj A) fn (as++args++cs) s cx=o):aj A (.fn (.func f) as cs) args s cx=o:=by
 obtain ⟨n,hn⟩:=Yl (Bh A) h ho;exact y8 (n:=n+1) (fun m hm=>by obtain ⟨k,rfl⟩:∃k,m=k+1:=⟨m - 1,by omega⟩;simp only [jv,hi,hh,hd,hf];exact hn k (by omega))
theorem SN {A:uX} {f:Nat} {d:GH} (hi:A.intr f=none) (hh:A.hi f=none) (hf:A.dfr f=some d) {as cs args:List AV} {s:St} {cx:Ctx} {o:CO} (ho:o≠.fail)
  (h:xY A.glob (aj A) d (as++args++cs) s cx=o):aj A (.fn (.func f) as cs) args s cx=o:=by
 obtain ⟨n,hn⟩:=Wq (Bh A) h ho;exact y8 (n:=n+1) (fun m hm=>by obtain ⟨k,rfl⟩:∃k,m=k+1:=⟨m - 1,by omega⟩;simp only [jv,hi,hh,hf];exact hn k (by omega))
theorem NE {A:uX} {f:Nat} {k:HiK} (hi:A.intr f=none) (hf:A.hi f=some k) {as cs args:List AV} {s:St} {cx:Ctx} {o:CO} (ho:o≠.fail)
  (h:lS (aj A) (aj A.quiet) k (as++args++cs) s cx=o):aj A (.fn (.func f) as cs) args s cx=o:=by
 obtain ⟨n,hn⟩:=OB (Bh A) (Bh A.quiet) h ho;exact y8 (n:=n+1) (fun m hm=>by obtain ⟨k,rfl⟩:∃k,m=k+1:=⟨m - 1,by omega⟩;simp only [jv,hi,hf];exact hn k (by omega))
theorem sH {A:uX} {f:Nat} {h:List AV→St→Option AV} (hi:A.intr f=some h) {as cs args:List AV} {s:St} {cx:Ctx} {r:AV} (hr:h (as++args++cs) s=some r):
  aj A (.fn (.func f) as cs) args s cx=.ret r s:=
 y8 (n:=1) (fun m hm=>by obtain ⟨k,rfl⟩:∃k,m=k+1:=⟨m - 1,by omega⟩;simp only [jv,hi,hr])
theorem ND {A:uX} {l:Nat} {args:List AV} {s:St} {cx:Ctx} {o:CO} (ho:o≠.fail) (h:IK A.glob (aj A) l args s cx=o):aj A (.yl l) args s cx=o:=by
 obtain ⟨n,hn⟩:=YE (Bh A) h ho;exact y8 (n:=n+1) (fun m hm=>by obtain ⟨k,rfl⟩:∃k,m=k+1:=⟨m - 1,by omega⟩;simp only [jv];exact hn k (by omega))
theorem ZN {A:uX} {fv:AV} {args:List AV} {s s':St} {cx:Ctx} {r:AV} (h:aj A fv args s cx=.ret r s'):∃n,jv A n fv args s cx=.ret r s':=by
 obtain ⟨n,hn⟩:=GX h (by simp);exact ⟨n,hn n (Nat.le_refl _)⟩
end Go.Ai
namespace Go.Ai
section
variable {glob:Nat→Option (List AV)} {call callW:AV→List AV→St→Ctx→CO} {cx:Ctx}
def CS (call callW:AV→List AV→St→Ctx→CO):Prop:=∀fv args s cx c,call fv args s cx=c→c≠.fail→callW fv args s cx=c
theorem abe (hc:CS call callW) {ops:List aI} {ord:Option (List Nat×List Nat)} {env:Env} {s:St} {o:Out} (h:rJ glob call cx ops env s ord=o) (ho:o≠.fail):
  rJ glob callW cx ops env s ord=o:=by
 have:Lim call (fun _=>callW):=fun fv args s cx c h hne=>⟨0,fun _ _=>hc fv args s cx c h hne⟩
 obtain ⟨n,hn⟩:=NR this h ho;exact hn n (Nat.le_refl _)
theorem aas {body xZ:Env→St→Out} {keep:List Nat} (hb:∀env s o,body env s=o→o≠.fail→xZ env s=o):
  ∀(N:Nat) {env:Env} {s:St} {o:Out},xu body keep N env s=o→o≠.fail→gQ xZ keep env s=o
 | 0,env,s,o,h,ho=>absurd h.symm ho
 | N+1,env,s,o,h,ho=>by
  simp only [xu] at h;rw [KI]
  cases hx:body (jb env keep) s with
  | fail=>rw [hx] at h;exact absurd h.symm ho
  | norm env' s'=>
   rw [hx] at h;rw [hb _ _ _ hx (by simp)];exact aas hb N h ho
  | _=>rw [hb _ _ _ hx (by simp)];rw [hx] at h;exact h
theorem WX {body xZ:Env→St→Out} {l:Nat} {keep:List Nat} (hb:∀env s o,body env s=o→o≠.fail→xZ env s=o):
  ∀(N:Nat) {env:Env} {s:St} {o:Out},qA body l keep N env s=o→o≠.fail→LZ xZ l keep env s=o
 | 0,env,s,o,h,ho=>absurd h.symm ho
 | N+1,env,s,o,h,ho=>by
  simp only [qA] at h;rw [abd]
  cases hx:body (jb env keep) s with
  | fail=>rw [hx] at h;exact absurd h.symm ho
  | goto l' env' s'=>
   rw [hx] at h;rw [hb _ _ _ hx (by simp)];simp only [Out.jmp] at h ⊢
   split at h
   ·rename_i hl;simp only [hl,if_true];exact WX hb N h ho
   ·exact absurd h.symm ho
  | _=>rw [hb _ _ _ hx (by simp)];rw [hx] at h;exact h
theorem oC (hc:CS call callW) (ro:Bool) (N:Nat):∀(c:bH) (env:Env) (s:St) (o:Out),bF glob call cx ro N c env s=o→o≠.fail→aB glob callW cx ro c env s=o
 | .skip,env,s,o,h,ho=>by simpa [bF,aB] using h
 | .ret,env,s,o,h,ho=>by simpa [bF,aB] using h
 | .exit id,env,s,o,h,ho=>by simpa [bF,aB] using h
 | .region ops ord keep,env,s,o,h,ho=>by
  simp only [bF,aB] at h ⊢
  cases hx:rJ glob call cx ops env s ord with
  | fail=>rw [hx] at h;exact absurd h.symm ho
  | _=>rw [abe hc hx (by simp)];rw [hx] at h;exact h
 | .seq a b,env,s,o,h,ho=>by
  simp only [bF,aB] at h ⊢
  cases hx:bF glob call cx ro N a env s with
  | fail=>rw [hx] at h;exact absurd h.symm ho
  | norm env' s'=>
   rw [hx] at h;rw [oC hc ro N a _ _ _ hx (by simp)];exact oC hc ro N b _ _ _ h ho
  | _=>rw [oC hc ro N a _ _ _ hx (by simp)];rw [hx] at h;exact h
 | .cond c a b,env,s,o,h,ho=>by
  simp only [bF,aB] at h ⊢;unfold agq
  split at h
  ·rename_i hx;rw [hx];simpa using oC hc ro N a _ _ _ h ho
  ·rename_i hx;rw [hx];simpa using oC hc ro N b _ _ _ h ho
  ·exact absurd h.symm ho
 | .block id b,env,s,o,h,ho=>by
  simp only [bF,aB] at h ⊢
  cases hx:bF glob call cx ro N b env s with
  | fail=>rw [hx] at h;exact absurd h.symm ho
  | _=>rw [oC hc ro N b _ _ _ hx (by simp)];rw [hx] at h;exact h
 | .loop keep b,env,s,o,h,ho=>by
  simp only [bF,aB] at h ⊢;exact aas (oC hc ro N b) N h ho
 | .range f ps asg body,env,s,o,h,ho=>by
  simp only [bF,aB] at h ⊢
  split at h
  ·exact absurd h.symm ho
  ·rename_i hro;simp only [hro];unfold Fj
   split at h
   ·rename_i ff as cs hx;rw [hx]
    cases hy:call (.fn ff as cs) [.yl (s.length+1)] (s++[.dfr,.loop (rP env) ps asg body .ready]) cx with
    | fail=>rw [hy] at h;exact absurd h.symm ho
    | _=>
     have:=hc _ _ _ _ _ hy (by simp)
     rw [hy] at h
     simpa [this] using h
   ·exact absurd h.symm ho
 | .label l,env,s,o,h,ho=>by simpa [bF,aB] using h
 | .goto l,env,s,o,h,ho=>by simpa [bF,aB] using h
 | .scope l keep a b,env,s,o,h,ho=>by
  simp only [bF,aB] at h ⊢
  cases hx:bF glob call cx ro N a env s with
  | fail=>rw [hx] at h;exact absurd h.symm ho
  | goto l' env' s'=>
   rw [hx] at h;rw [oC hc ro N a _ _ _ hx (by simp)];simp only [Out.jmp] at h ⊢
   split at h
   ·rename_i hl;simp only [hl,if_true];exact WX (oC hc ro N b) N h ho
   ·exact absurd h.symm ho
  | _=>rw [oC hc ro N a _ _ _ hx (by simp)];rw [hx] at h;exact h
theorem acz (hc:CS call callW) {N:Nat} {fn:bM} {args:List AV} {s:St} {o:CO} (h:wZ glob call N fn args s cx=o) (ho:o≠.fail):af glob callW fn args s cx=o:=by
 unfold wZ at h;unfold af
 split at h
 ·rename_i hnp;simp only [hnp,if_true]
  cases hx:bF glob call ⟨if fn.pure then s.length else cx.lim,if fn.keep then cx.base else s.length⟩ fn.keep N fn.code (xU args 0) s with
  | fail=>rw [hx] at h;exact absurd h.symm ho
  | _=>rw [oC hc _ N _ _ _ _ hx (by simp)];rw [hx] at h;exact h
 ·exact absurd h.symm ho
theorem adJ (hc:CS call callW) {N:Nat} {m:Option bH} {env:Env} {s:St} {o:Out} (h:CG glob call cx N m env s=o) (ho:o≠.fail):Xt glob callW cx m env s=o:=by
 cases m with
 | none=>exact h
 | some c=>exact oC hc _ N _ _ _ _ h ho
theorem ZE (hc:CS call callW) {N:Nat} {d:GH} {args:List AV} {s:St} {o:CO} (h:uo glob call N d args s cx=o) (ho:o≠.fail):xY glob callW d args s cx=o:=by
 have h1:Lim call (fun _=>callW):=fun fv args s cx c h hne=>⟨0,fun _ _=>hc fv args s cx c h hne⟩;unfold uo at h;unfold xY
 split at h
 ·rename_i hnp;simp only [hnp,if_true]
  cases hxm:mD glob call ⟨cx.lim,s.length⟩ d.pre (xU args 0) s with
  | norm em sm=>
   obtain ⟨nm,hnm⟩:=BD h1 _ hxm (by simp);rw [hxm] at h;rw [hnm nm (Nat.le_refl _)];simp only [] at h ⊢
   cases hx:CG glob call ⟨cx.lim,s.length⟩ N d.mid em sm with
   | ret e2 s2=>rw [adJ hc hx (by simp)];rw [hx] at h;exact h
   | norm e0 s0=>
    rw [adJ hc hx (by simp)];rw [hx] at h;simp only [] at h ⊢
    cases hy:fF glob call ⟨cx.lim,s.length⟩ d.mkc e0 s0 with
    | norm e1 s1=>
     obtain ⟨n1,hn1⟩:=yG h1 hy (by simp);rw [hy] at h;rw [hn1 n1 (Nat.le_refl _)];simp only [] at h ⊢
     split at h
     ·rename_i f caps ls hl hp;simp only [hl,hp]
      split at h
      ·rename_i hcond;rw [if_pos hcond]
       cases hz:bF glob call ⟨cx.lim,s.length⟩ true N d.code e1 s1 with
       | fail=>rw [hz] at h;exact absurd h.symm ho
       | _=>rw [oC hc _ N _ _ _ _ hz (by simp)];rw [hz] at h;exact h
      ·exact absurd h.symm ho
     ·exact absurd h.symm ho
    | _=>rw [hy] at h;exact absurd h.symm ho
   | _=>rw [hx] at h;exact absurd h.symm ho
  | _=>rw [hxm] at h;exact absurd h.symm ho
 ·exact absurd h.symm ho
theorem acK (hc:CS call callW) {N l:Nat} {args:List AV} {s:St} {o:CO} (h:AA glob call N l args s cx=o) (ho:o≠.fail):IK glob callW l args s cx=o:=by
 unfold AA at h;unfold IK
 split at h
 ·rename_i env ps asg body hl;rw [hl];simp only []
  split at h
  ·rename_i hcond;simp only [hcond,and_self,if_true]
   cases hx:bF glob call cx true N asg (CY env ps args) s with
   | norm env1 s1=>
    rw [oC hc true N _ _ _ _ hx (by simp)];rw [hx] at h;unfold xZ;simp only [] at h ⊢
    split at h
    ·rename_i e1 p1 a1 b1 hl1;rw [hl1];simp only []
     cases hy:bF glob call cx true N body env1 (s1.set l (.loop e1 p1 a1 b1 .busy)) with
     | fail=>rw [hy] at h;exact absurd h.symm ho
     | _=>rw [oC hc true N _ _ _ _ hy (by simp)];rw [hy] at h;exact h
    ·exact absurd h.symm ho
   | _=>rw [hx] at h;exact absurd h.symm ho
  ·exact absurd h.symm ho
 ·exact absurd h.symm ho
end
theorem acy {call callW qcall qcallW:AV→List AV→St→Ctx→CO} {cx:Ctx} (hc:CS call callW) (hq:CS qcall qcallW) {k:HiK} {args:List AV} {s:St} {o:CO} (h:lS call qcall k args s cx=o) (ho:o≠.fail):
  lS callW qcallW k args s cx=o:=by
 have h1:Lim call (fun _=>callW):=fun fv args s cx c h hne=>⟨0,fun _ _=>hc fv args s cx c h hne⟩;have h2:Lim qcall (fun _=>qcallW):=fun fv args s cx c h hne=>⟨0,fun _ _=>hq fv args s cx c h hne⟩;obtain ⟨n,hn⟩:=OB h1 h2 h ho;exact hn n (Nat.le_refl _)
theorem NC:∀(n:Nat) (A:uX),CS (jv A n) (aj A)
 | 0,A=>fun fv args s cx c h hne=>by simp only [jv] at h;exact absurd h.symm hne
 | n+1,A=>fun fv args s cx c h hne=>by
  have ih:=NC n A
  cases fv with
  | fn f as cs=>
   cases f with
   | func fid=>
    simp only [jv] at h
    split at h
    ·rename_i hh hin
     split at h
     ·rename_i r hr;rw [←h];exact sH hin hr
     ·exact absurd h.symm hne
    ·rename_i hin
     split at h
     ·rename_i k hk;exact NE hin hk hne (acy ih (NC n A.quiet) h hne)
     ·rename_i hk
      split at h
      ·rename_i d hd;exact SN hin hk hd hne (ZE ih h hne)
      ·rename_i hd
       split at h
       ·rename_i fn hfn;exact U7 hin hk hd hfn hne (acz ih h hne)
       ·exact absurd h.symm hne
   | _=>simp only [jv] at h;exact absurd h.symm hne
  | yl l=>simp only [jv] at h;exact ND hne (acK ih h hne)
  | _=>simp only [jv] at h;exact absurd h.symm hne
theorem ae9 (A:uX) (n:Nat):CS (jv A n) (aj A):=NC n A
end Go.Ai
