/-
 The interpreter in the limit: no fuel.
-/
import Derived.Test.YtpnlnnfcaeednaaGreatDoorAiA1
set_option maxRecDepth 100000
set_option linter.unusedSimpArgs false
set_option linter.unusedVariables false
set_option linter.unusedSectionVars false
namespace Go.Ai
noncomputable def OT {α:Type} (d:α) (h:Nat→α):α:=
 open Classical in if H:∃c,c≠d∧∃n,∀m,n≤m→h m=c then H.choose else d
theorem zF {α:Type} {d:α} {h:Nat→α} {c:α} {n:Nat} (hc:∀m,n≤m→h m=c):OT d h=c:=by
 unfold OT
 split
 ·rename_i H
  obtain ⟨_,n',hn'⟩:=H.choose_spec
  rw [←hn' (max n n') (Nat.le_max_right _ _),hc _ (Nat.le_max_left _ _)]
 ·rename_i H
  by_cases hd:c=d
  ·exact hd.symm
  ·exact absurd ⟨c,hd,n,hc⟩ H
theorem Gx {α:Type} {d:α} {h:Nat→α} {c:α} (hl:OT d h=c) (hd:c≠d):∃n,∀m,n≤m→h m=c:=by
 unfold OT at hl
 split at hl
 ·rename_i H
  obtain ⟨_,n',hn'⟩:=H.choose_spec
  exact ⟨n',fun m hm=>(hn' m hm).trans hl⟩
 ·exact absurd hl.symm hd
theorem Q5 {α:Type} {d:α} {h g:Nat→α} (hs:∀n,h (n+1)=g n):OT d h=OT d g:=by
 by_cases hg:OT d g=d
 ·rw [hg]
  by_cases hh:OT d h=d
  ·exact hh
  ·obtain ⟨n,hn⟩:=Gx rfl hh
   have:=zF (d:=d) (h:=g) (c:=OT d h) (n:=n) (fun m hm=>by rw [←hs];exact hn _ (by omega))
   rw [←this,hg]
 ·obtain ⟨n,hn⟩:=Gx rfl hg
  exact zF (n:=n+1) (fun m hm=>by obtain ⟨k,rfl⟩:∃k,m=k+1:=⟨m - 1,by omega⟩;rw [hs];exact hn k (by omega))
def Out.thn (o:Out) (f:Env→St→Out):Out:=
 match o with
 | .norm env s=>f env s
 | o=>o
def Out.blk (id:Nat) (o:Out):Out:=
 match o with
 | .exit id' env s=>if id'=id then .norm env s else .exit id' env s
 | o=>o
def aeU (x:Option AV) (a b:Unit→Out):Out:=
 match x with
 | some (.b x)=>if x=true then a () else b ()
 | _=>.fail
noncomputable def eY (body:Env→St→Out) (keep:List Nat) (env:Env) (s:St):Out:=OT .fail (fun N=>xw body keep N env s)
theorem JR (body:Env→St→Out) (keep:List Nat) (env:Env) (s:St):eY body keep env s=(body (jY env keep) s).thn (eY body keep):=by
 unfold eY
 cases hb:body (jY env keep) s with
 | norm env' s'=>exact Q5 (fun n=>by simp [xw,hb])
 | _=>exact zF (n:=1) (fun m hm=>by obtain ⟨k,rfl⟩:∃k,m=k+1:=⟨m - 1,by omega⟩;simp [xw,hb,Out.thn])
noncomputable def Ah (body:Env→St→Out) (l:Nat) (keep:List Nat) (env:Env) (s:St):Out:=OT .fail (fun N=>qW body l keep N env s)
def Out.jmp (l:Nat) (o:Out) (f:Env→St→Out):Out:=
 match o with
 | .goto l' env s=>if l'=l then f env s else .fail
 | o=>o
theorem BU (body:Env→St→Out) (l:Nat) (keep:List Nat) (env:Env) (s:St):Ah body l keep env s=(body (jY env keep) s).jmp l (Ah body l keep):=by
 unfold Ah
 cases hb:body (jY env keep) s with
 | goto l' env' s'=>
  by_cases hl:l'=l
  ·simp only [Out.jmp,hl,if_true]
   exact Q5 (fun n=>by simp [qW,hb,hl])
  ·exact zF (n:=1) (fun m hm=>by obtain ⟨k,rfl⟩:∃k,m=k+1:=⟨m - 1,by omega⟩;simp [qW,hb,Out.jmp,hl])
 | _=>exact zF (n:=1) (fun m hm=>by obtain ⟨k,rfl⟩:∃k,m=k+1:=⟨m - 1,by omega⟩;simp [qW,hb,Out.jmp])
section
variable (glob:Nat→Option (List AV))
def LD (x:Option AV) (call:AV→List AV→St→Ctx→CO) (cx:Ctx) (ps:List Nat) (asg body:aT) (env:Env) (s:St):Out:=
 match x with
 | some (.fn ff as cs)=>match call (.fn ff as cs) [.yl (s.length+1)] (s++[.dfr,.loop (uw env) ps asg body .ready]) cx with
  | .ret _ s'=>IQ env s' (s.length+1)
  | _=>.fail
 | _=>.fail
noncomputable def aB (call:AV→List AV→St→Ctx→CO) (cx:Ctx) (ro:Bool):aT→Env→St→Out
 | .skip,env,s=>.norm env s
 | .ret,env,s=>.ret env s
 | .exit id,env,s=>.exit id env s
 | .region ops ord keep,env,s=>(sD glob call cx ops env s ord).thn fun env s=>.norm (jY env keep) s
 | .seq a b,env,s=>(aB call cx ro a env s).thn (aB call cx ro b)
 | .cond c a b,env,s=>aeU (rd glob env c) (fun _=>aB call cx ro a env s) (fun _=>aB call cx ro b env s)
 | .block id b,env,s=>(aB call cx ro b env s).blk id
 | .loop keep b,env,s=>eY (aB call cx ro b) keep env s
 | .range f ps asg body,env,s=>if ro=true then .fail else LD (rd glob env f) call cx ps asg body env s
 | .label _,env,s=>.norm env s
 | .goto l,env,s=>.goto l env s
 | .scope l keep a b,env,s=>(aB call cx ro a env s).jmp l (Ah (aB call cx ro b) l keep)
def endW (pure keep:Bool) (s:St) (res:List RV) (o:Out):CO:=
 match o with
 | .norm env s1 | .ret env s1=>match vU glob env s1 res with
  | some rs=>finish pure keep s s1 (E5 rs)
  | none=>.fail
 | .pan v s1=>(finish pure keep s s1 v).toPan
 | _=>.fail
noncomputable def af (call:AV→List AV→St→Ctx→CO) (fn:dA) (args:List AV) (s:St) (cx:Ctx):CO:=
 if args.length=fn.np then
  endW glob fn.pure fn.keep s fn.res (aB glob call ⟨if fn.pure=true then s.length else cx.lim,if fn.keep=true then cx.base else s.length⟩ fn.keep fn.code (EW args 0) s)
 else .fail
def KA (l:Nat) (o:Out):CO:=
 match o with
 | .norm _ s2=>ug s2 l .ready true
 | .ret _ s2=>ug s2 l .ret false
 | .exit id _ s2=>ug s2 l (.exit id) false
 | _=>.fail
noncomputable def yC (call:AV→List AV→St→Ctx→CO) (cx:Ctx) (body:aT) (l:Nat) (o:Out):CO:=
 match o with
 | .norm env1 s1=>match s1[l]? with
  | some (.loop e1 p1 a1 b1 .ready)=>KA l (aB glob call cx true body env1 (s1.set l (.loop e1 p1 a1 b1 .busy)))
  | _=>.fail
 | _=>.fail
noncomputable def Lc (call:AV→List AV→St→Ctx→CO) (l:Nat) (args:List AV) (s:St) (cx:Ctx):CO:=
 match s[l]? with
 | some (.loop env ps asg body .ready)=>
  if ps.length=args.length∧cx.lim≤l then
   yC glob call cx body l (aB glob call cx true asg (Fb env ps args) s)
  else .fail
 | _=>.fail
end
section
variable {glob:Nat→Option (List AV)} {callW:AV→List AV→St→Ctx→CO} {call:Nat→AV→List AV→St→Ctx→CO} {cx:Ctx}
def Lim (callW:AV→List AV→St→Ctx→CO) (call:Nat→AV→List AV→St→Ctx→CO):Prop:=
 ∀fv args s cx c,callW fv args s cx=c→c≠.fail→∃n,∀m,n≤m→call m fv args s cx=c
theorem SG (hc:Lim callW call) {env:Env} {s:St} {op:AOp} {o:RO} (h:aop glob callW cx env s op=o) (ho:o≠.fail):
  ∃n,∀m,n≤m→aop glob (call m) cx env s op=o:=by
 by_cases hcall:∃f as,op=.call f as∨op=.callp f as
 ·obtain ⟨f,as,hop⟩:=hcall
  have hcp:∀c:AV→List AV→St→Ctx→CO,aop glob c cx env s op=aop glob c cx env s (.call f as):=by rcases hop with rfl|rfl<;>exact fun _=>rfl
  simp only [hcp] at h ⊢
  clear hop hcp
  simp only [aop] at h ⊢
  split at h
  ·rename_i fv as' env' h1 h2
   cases hx:callW fv as' s cx with
   | fail=>rw [hx] at h;exact absurd h.symm ho
   | ret r s'=>
    obtain ⟨n,hn⟩:=hc _ _ _ _ _ hx (by simp)
    exact ⟨n,fun m hm=>by rw [hn m hm];rw [hx] at h;exact h⟩
   | pan r s'=>
    obtain ⟨n,hn⟩:=hc _ _ _ _ _ hx (by simp)
    exact ⟨n,fun m hm=>by rw [hn m hm];rw [hx] at h;exact h⟩
  ·exact absurd h.symm ho
 ·refine ⟨0,fun m _=>?_⟩
  rw [←h]
  cases op with
  | call f as=>exact absurd ⟨_,_,.inl rfl⟩ hcall
  | callp f as=>exact absurd ⟨_,_,.inr rfl⟩ hcall
  | len k x=>rcases k with _ | _ | _|k<;>rfl
  | _=>rfl
theorem IJ (hc:Lim callW call) {env:Env} {s:St} {p:aX} {o:Out} (h:jT glob callW cx p env s=o) (ho:o≠.fail):
  ∃n,∀m,n≤m→jT glob (call m) cx p env s=o:=by
 unfold jT at h ⊢
 split at h
 ·exact absurd h.symm ho
 ·exact ⟨0,fun m _=>h⟩
 ·cases hx:aop glob callW cx env s p.op with
  | fail=>rw [hx] at h;exact absurd h.symm ho
  | ok e env' s'=>
   obtain ⟨n,hn⟩:=SG hc hx (by simp)
   exact ⟨n,fun m hm=>by rw [hn m hm];rw [hx] at h;exact h⟩
  | pan v s'=>
   obtain ⟨n,hn⟩:=SG hc hx (by simp)
   exact ⟨n,fun m hm=>by rw [hn m hm];rw [hx] at h;exact h⟩
theorem ND (hc:Lim callW call):∀(ops:List aX) {env:Env} {s:St} {o:Out},qH glob callW cx ops env s=o→o≠.fail→
  ∃n,∀m,n≤m→qH glob (call m) cx ops env s=o
 | [],env,s,o,h,ho=>⟨0,fun m _=>h⟩
 | p::r,env,s,o,h,ho=>by
  simp only [qH] at h ⊢
  cases hx:jT glob callW cx p env s with
  | fail=>rw [hx] at h;exact absurd h.symm ho
  | norm env' s'=>
   rw [hx] at h
   obtain ⟨n,hn⟩:=IJ hc hx (by simp)
   obtain ⟨n',hn'⟩:=ND hc r h ho
   exact ⟨max n n',fun m hm=>by rw [hn m (by omega)];exact hn' m (by omega)⟩
  | _=>
   obtain ⟨n,hn⟩:=IJ hc hx (by simp)
   exact ⟨n,fun m hm=>by rw [hn m hm];rw [hx] at h;exact h⟩
theorem aaV (hc:Lim callW call) {env:Env} {s:St} {p:aX} {e:EV} (h:xE glob callW p env s=some e):
  ∃n,∀m,n≤m→xE glob (call m) p env s=some e:=by
 unfold xE at h ⊢
 split at h
 ·cases h
 ·exact ⟨0,fun m _=>h⟩
 ·split at h
  ·rename_i hq
   simp only [hq,if_true]
   cases hx:aop glob callW ⟨s.length,s.length⟩ env s p.op with
   | fail=>rw [hx] at h;cases h
   | ok e env' s'=>
    obtain ⟨n,hn⟩:=SG hc hx (by simp)
    exact ⟨n,fun m hm=>by rw [hn m hm];rw [hx] at h;exact h⟩
   | pan v s'=>rw [hx] at h;cases h
  ·cases h
theorem TY (hc:Lim callW call) {env:Env} {s:St} {p:aX} {o:Out} (h:kV glob callW cx p env s=o) (ho:o≠.fail):
  ∃n,∀m,n≤m→kV glob (call m) cx p env s=o:=by
 unfold kV at h ⊢
 split at h
 ·rename_i hq
  simp only [hq,if_true]
  unfold zx at h ⊢
  cases hx:xE glob callW p env s with
  | none=>rw [hx] at h;exact absurd h.symm ho
  | some e=>
   obtain ⟨n,hn⟩:=aaV hc hx
   exact ⟨n,fun m hm=>by rw [hn m hm];rw [hx] at h;exact h⟩
 ·rename_i hq
  simp only [hq]
  exact IJ hc h ho
theorem JB (hc:Lim callW call) (aops:List aX):∀(l:List Nat) {env:Env} {s:St} {o:Out},kT glob callW cx aops l env s=o→o≠.fail→
  ∃n,∀m,n≤m→kT glob (call m) cx aops l env s=o
 | [],env,s,o,h,ho=>⟨0,fun m _=>h⟩
 | i::r,env,s,o,h,ho=>by
  simp only [kT] at h ⊢
  split at h
  ·exact absurd h.symm ho
  ·rename_i p hp
   cases hx:kV glob callW cx p env s with
   | fail=>rw [hx] at h;exact absurd h.symm ho
   | norm env' s'=>
    rw [hx] at h
    obtain ⟨n,hn⟩:=TY hc hx (by simp)
    obtain ⟨n',hn'⟩:=JB hc aops r h ho
    exact ⟨max n n',fun m hm=>by rw [hn m (by omega)];exact hn' m (by omega)⟩
   | _=>
    obtain ⟨n,hn⟩:=TY hc hx (by simp)
    exact ⟨n,fun m hm=>by rw [hn m hm];rw [hx] at h;exact h⟩
theorem Nz (hc:Lim callW call) {ops:List aX} {ord:Option (List Nat×List Nat)} {env:Env} {s:St} {o:Out} (h:sD glob callW cx ops env s ord=o) (ho:o≠.fail):
  ∃n,∀m,n≤m→sD glob (call m) cx ops env s ord=o:=by
 cases ord with
 | none=>exact ND hc ops h ho
 | some p=>
  simp only [sD] at h ⊢
  cases hx:kT glob callW cx ops p.1 (Ls env p.2) s with
  | fail=>rw [hx] at h;exact absurd h.symm ho
  | _=>
   obtain ⟨n,hn⟩:=JB hc ops p.1 hx (by simp)
   exact ⟨n,fun m hm=>by rw [hn m hm];rw [hx] at h;exact h⟩
theorem Uo {yC:Env→St→Out} {body:Nat→Env→St→Out} {keep:List Nat} (hb:∀env s o,yC env s=o→o≠.fail→∃n,∀m,n≤m→body m env s=o):
  ∀(N0:Nat) {env:Env} {s:St} {o:Out},xw yC keep N0 env s=o→o≠.fail→∃n,∀m,n≤m→∀N,N0≤N→xw (body m) keep N env s=o
 | 0,env,s,o,h,ho=>absurd h.symm ho
 | N0+1,env,s,o,h,ho=>by
  simp only [xw] at h
  cases hx:yC (jY env keep) s with
  | fail=>rw [hx] at h;exact absurd h.symm ho
  | norm env' s'=>
   rw [hx] at h
   obtain ⟨n,hn⟩:=hb _ _ _ hx (by simp)
   obtain ⟨n',hn'⟩:=Uo hb N0 h ho
   refine ⟨max n n',fun m hm N hN=>?_⟩
   obtain ⟨k,rfl⟩:∃k,N=k+1:=⟨N - 1,by omega⟩
   simp only [xw]
   rw [hn m (by omega)];exact hn' m (by omega) k (by omega)
  | _=>
   obtain ⟨n,hn⟩:=hb _ _ _ hx (by simp)
   refine ⟨n,fun m hm N hN=>?_⟩
   obtain ⟨k,rfl⟩:∃k,N=k+1:=⟨N - 1,by omega⟩
   simp only [xw]
   rw [hn m hm];rw [hx] at h;exact h
theorem Qh {yC:Env→St→Out} {body:Nat→Env→St→Out} {l:Nat} {keep:List Nat} (hb:∀env s o,yC env s=o→o≠.fail→∃n,∀m,n≤m→body m env s=o):
  ∀(N0:Nat) {env:Env} {s:St} {o:Out},qW yC l keep N0 env s=o→o≠.fail→∃n,∀m,n≤m→∀N,N0≤N→qW (body m) l keep N env s=o
 | 0,env,s,o,h,ho=>absurd h.symm ho
 | N0+1,env,s,o,h,ho=>by
  simp only [qW] at h
  cases hx:yC (jY env keep) s with
  | fail=>rw [hx] at h;exact absurd h.symm ho
  | goto l' env' s'=>
   rw [hx] at h
   simp only [] at h
   split at h
   ·rename_i hl
    obtain ⟨n,hn⟩:=hb _ _ _ hx (by simp)
    obtain ⟨n',hn'⟩:=Qh hb N0 h ho
    refine ⟨max n n',fun m hm N hN=>?_⟩
    obtain ⟨k,rfl⟩:∃k,N=k+1:=⟨N - 1,by omega⟩
    simp only [qW]
    rw [hn m (by omega)]
    simp only [hl,if_true]
    exact hn' m (by omega) k (by omega)
   ·exact absurd h.symm ho
  | _=>
   obtain ⟨n,hn⟩:=hb _ _ _ hx (by simp)
   refine ⟨n,fun m hm N hN=>?_⟩
   obtain ⟨k,rfl⟩:∃k,N=k+1:=⟨N - 1,by omega⟩
   simp only [qW]
   rw [hn m hm];rw [hx] at h;exact h
theorem mD (hc:Lim callW call) (ro:Bool):∀(c:aT) (env:Env) (s:St) (o:Out),aB glob callW cx ro c env s=o→o≠.fail→
  ∃n,∀m,n≤m→dJ glob (call m) cx ro m c env s=o
 | .skip,env,s,o,h,ho=>⟨0,fun m _=>by simpa [dJ,aB] using h⟩
 | .ret,env,s,o,h,ho=>⟨0,fun m _=>by simpa [dJ,aB] using h⟩
 | .exit id,env,s,o,h,ho=>⟨0,fun m _=>by simpa [dJ,aB] using h⟩
 | .region ops ord keep,env,s,o,h,ho=>by
  simp only [dJ,aB] at h ⊢
  cases hx:sD glob callW cx ops env s ord with
  | fail=>rw [hx] at h;exact absurd h.symm ho
  | _=>
   obtain ⟨n,hn⟩:=Nz hc hx (by simp)
   exact ⟨n,fun m hm=>by rw [hn m hm];rw [hx] at h;exact h⟩
 | .seq a b,env,s,o,h,ho=>by
  simp only [dJ,aB] at h ⊢
  cases hx:aB glob callW cx ro a env s with
  | fail=>rw [hx] at h;exact absurd h.symm ho
  | norm env' s'=>
   rw [hx] at h
   obtain ⟨n,hn⟩:=mD hc ro a _ _ _ hx (by simp)
   obtain ⟨n',hn'⟩:=mD hc ro b _ _ _ h ho
   exact ⟨max n n',fun m hm=>by rw [hn m (by omega)];exact hn' m (by omega)⟩
  | _=>
   obtain ⟨n,hn⟩:=mD hc ro a _ _ _ hx (by simp)
   exact ⟨n,fun m hm=>by rw [hn m hm];rw [hx] at h;exact h⟩
 | .cond c a b,env,s,o,h,ho=>by
  simp only [dJ,aB] at h ⊢
  unfold aeU at h
  split at h
  ·rename_i x hx
   rw [hx]
   cases x with
   | true=>exact mD hc ro a _ _ _ (by simpa using h) ho
   | false=>exact mD hc ro b _ _ _ (by simpa using h) ho
  ·exact absurd h.symm ho
 | .block id b,env,s,o,h,ho=>by
  simp only [dJ,aB] at h ⊢
  cases hx:aB glob callW cx ro b env s with
  | fail=>rw [hx] at h;exact absurd h.symm ho
  | _=>
   obtain ⟨n,hn⟩:=mD hc ro b _ _ _ hx (by simp)
   exact ⟨n,fun m hm=>by rw [hn m hm];rw [hx] at h;exact h⟩
 | .loop keep b,env,s,o,h,ho=>by
  simp only [dJ,aB] at h ⊢
  obtain ⟨N0,hN⟩:=Gx h ho
  obtain ⟨n,hn⟩:=Uo (body:=fun m=>dJ glob (call m) cx ro m b) (mD hc ro b) N0 (hN N0 (Nat.le_refl _)) ho
  exact ⟨max n N0,fun m hm=>hn m (by omega) m (by omega)⟩
 | .range f ps asg body,env,s,o,h,ho=>by
  simp only [dJ,aB] at h ⊢
  split at h
  ·exact absurd h.symm ho
  ·rename_i hro
   simp only [hro]
   unfold LD at h
   split at h
   ·rename_i ff as cs hx
    rw [hx]
    simp only []
    cases hy:callW (.fn ff as cs) [.yl (s.length+1)] (s++[.dfr,.loop (uw env) ps asg body .ready]) cx with
    | fail=>rw [hy] at h;exact absurd h.symm ho
    | _=>
     obtain ⟨n,hn⟩:=hc _ _ _ _ _ hy (by simp)
     exact ⟨n,fun m hm=>by rw [hn m hm];rw [hy] at h;exact h⟩
   ·exact absurd h.symm ho
 | .label l,env,s,o,h,ho=>⟨0,fun m _=>by simpa [dJ,aB] using h⟩
 | .goto l,env,s,o,h,ho=>⟨0,fun m _=>by simpa [dJ,aB] using h⟩
 | .scope l keep a b,env,s,o,h,ho=>by
  simp only [dJ,aB] at h ⊢
  cases hx:aB glob callW cx ro a env s with
  | fail=>rw [hx] at h;exact absurd h.symm ho
  | goto l' env' s'=>
   rw [hx] at h
   simp only [Out.jmp] at h
   split at h
   ·rename_i hl
    obtain ⟨n,hn⟩:=mD hc ro a _ _ _ hx (by simp)
    obtain ⟨N0,hN⟩:=Gx h ho
    obtain ⟨n',hn'⟩:=Qh (body:=fun m=>dJ glob (call m) cx ro m b) (mD hc ro b) N0 (hN N0 (Nat.le_refl _)) ho
    exact ⟨max n (max n' N0),fun m hm=>by rw [hn m (by omega)];simp only [hl,if_true];exact hn' m (by omega) m (by omega)⟩
   ·exact absurd h.symm ho
  | _=>
   obtain ⟨n,hn⟩:=mD hc ro a _ _ _ hx (by simp)
   exact ⟨n,fun m hm=>by rw [hn m hm];rw [hx] at h;exact h⟩
theorem Yb (hc:Lim callW call) {fn:dA} {args:List AV} {s:St} {o:CO} (h:af glob callW fn args s cx=o) (ho:o≠.fail):
  ∃n,∀m,n≤m→wU glob (call m) m fn args s cx=o:=by
 unfold af at h
 unfold wU
 split at h
 ·rename_i hnp
  simp only [hnp,if_true]
  cases hx:aB glob callW ⟨if fn.pure=true then s.length else cx.lim,if fn.keep=true then cx.base else s.length⟩ fn.keep fn.code (EW args 0) s with
  | fail=>rw [hx] at h;exact absurd h.symm ho
  | _=>
   obtain ⟨n,hn⟩:=mD hc _ _ _ _ _ hx (by simp)
   exact ⟨n,fun m hm=>by rw [hn m hm];rw [hx] at h;exact h⟩
 ·exact absurd h.symm ho
theorem Yp (hc:Lim callW call) {l:Nat} {args:List AV} {s:St} {o:CO} (h:Lc glob callW l args s cx=o) (ho:o≠.fail):
  ∃n,∀m,n≤m→Ad glob (call m) m l args s cx=o:=by
 unfold Lc at h
 unfold Ad
 split at h
 ·rename_i env ps asg body hl
  rw [hl]
  simp only []
  split at h
  ·rename_i hcond
   simp only [hcond,and_self,if_true]
   cases hx:aB glob callW cx true asg (Fb env ps args) s with
   | norm env1 s1=>
    obtain ⟨n,hn⟩:=mD hc true _ _ _ _ hx (by simp)
    rw [hx] at h
    unfold yC at h
    simp only [] at h
    split at h
    ·rename_i e1 p1 a1 b1 hl1
     cases hy:aB glob callW cx true body env1 (s1.set l (.loop e1 p1 a1 b1 .busy)) with
     | fail=>rw [hy] at h;exact absurd h.symm ho
     | _=>
      obtain ⟨n',hn'⟩:=mD hc true _ _ _ _ hy (by simp)
      exact ⟨max n n',fun m hm=>by rw [hn m (by omega)];simp only [hl1];rw [hn' m (by omega)];rw [hy] at h;exact h⟩
    ·exact absurd h.symm ho
   | _=>rw [hx] at h;exact absurd h.symm ho
  ·exact absurd h.symm ho
 ·exact absurd h.symm ho
end
theorem QV {α β:Type} {f:α→Option β} {g:Nat→α→Option β}:∀(l:List α) {r:List β},(∀x∈l,∀y,f x=some y→∃n,∀m,n≤m→g m x=some y)→l.mapM f=some r→∃n,∀m,n≤m→l.mapM (g m)=some r
 | [],r,_,h=>⟨0,fun m _=>by simpa using h⟩
 | x::l,r,hf,h=>by
  simp only [List.mapM_cons,Option.bind_eq_bind,Option.pure_def] at h ⊢
  cases hx:f x with
  | none=>simp [hx] at h
  | some y=>
   cases hl:l.mapM f with
   | none=>simp [hx,hl] at h
   | some ys=>
    simp [hx,hl] at h
    subst h
    obtain ⟨n,hn⟩:=hf x (by simp) y hx
    obtain ⟨n',hn'⟩:=QV l (fun z hz=>hf z (by simp [hz])) hl
    exact ⟨max n n',fun m hm=>by rw [hn m (by omega),hn' m (by omega)];rfl⟩
theorem abI {callW:AV→List AV→St→Ctx→CO} {call:Nat→AV→List AV→St→Ctx→CO} (hc:Lim callW call) {g:Nat} {x y:AV} {r:Int} (h:TF callW g x y=some r):
  ∃n,∀m,n≤m→TF (call m) g x y=some r:=by
 unfold TF at h ⊢
 cases hx:callW (.fn (.func g) [] []) [x,y] [] ⟨0,0⟩ with
 | fail=>rw [hx] at h;cases h
 | pan v s=>rw [hx] at h;cases h
 | ret v s=>
  obtain ⟨n,hn⟩:=hc _ _ _ _ _ hx (by simp)
  exact ⟨n,fun m hm=>by rw [hn m hm];rw [hx] at h;exact h⟩
theorem X8 {callW:AV→List AV→St→Ctx→CO} {call:Nat→AV→List AV→St→Ctx→CO} (hc:Lim callW call) {g:Nat} {es:List AV} {tab:List (List Int)} (h:MX callW g es=some tab):
  ∃n,∀m,n≤m→MX (call m) g es=some tab:=
 QV (g:=fun m x=>es.mapM fun y=>TF (call m) g x y) es (fun _ _ _ hx=>QV (g:=fun m y=>TF (call m) g _ y) es (fun _ _ _ hy=>abI hc hy) hx) h
theorem Oo {callW qcallW:AV→List AV→St→Ctx→CO} {call qcall:Nat→AV→List AV→St→Ctx→CO} {cx:Ctx} (hc:Lim callW call) (hq:Lim qcallW qcall) {k:HiK} {args:List AV} {s:St} {o:CO}
  (h:mr callW qcallW k args s cx=o) (ho:o≠.fail):∃n,∀m,n≤m→mr (call m) (qcall m) k args s cx=o:=by
 unfold mr at h
 split at h
 ·rename_i r f as cs
  cases hx:callW (.fn (.func f) as cs) [] s cx with
  | ret r1 s1=>
   obtain ⟨n,hn⟩:=hc _ _ _ _ _ hx (by simp)
   exact ⟨n,fun m hm=>by simp only [mr,hn m hm];rw [hx] at h;exact h⟩
  | pan r1 s1=>
   obtain ⟨n,hn⟩:=hc _ _ _ _ _ hx (by simp)
   exact ⟨n,fun m hm=>by simp only [mr,hn m hm];rw [hx] at h;exact h⟩
  | fail=>rw [hx] at h;exact absurd h.symm ho
 ·exact ⟨0,fun m _=>by simpa [mr] using h⟩
 ·rename_i k0 l ver sz o m g
  split at h
  ·exact ⟨0,fun m _=>by simpa [mr] using h⟩
  ·rename_i n t sz' ver' cs hl
   split at h
   ·rename_i hcond
    cases hx:MX qcallW g (chunk sz (n+1) (cs.drop o)) with
    | none=>rw [hx] at h;exact absurd h.symm ho
    | some tab=>
     obtain ⟨n1,hn⟩:=X8 hq hx
     exact ⟨n1,fun m hm=>by simp only [mr,hl];rw [if_pos hcond,hn m hm];rw [hx] at h;exact h⟩
   ·exact absurd h.symm ho
  ·exact absurd h.symm ho
 ·exact absurd h.symm ho
noncomputable def ah (A:uM) (fv:AV) (args:List AV) (s:St) (cx:Ctx):CO:=OT .fail fun n=>jL A n fv args s cx
theorem Ef (A:uM):Lim (ah A) (jL A):=fun fv args s cx c h hc=>Gx h hc
theorem Nh {A:uM} {f:Nat} {fn:dA} (hi:A.intr f=none) (hh:A.hi f=none) (hf:A.fns f=some fn) {as cs args:List AV} {s:St} {cx:Ctx} {o:CO} (ho:o≠.fail)
  (h:af A.glob (ah A) fn (as++args++cs) s cx=o):ah A (.fn (.func f) as cs) args s cx=o:=by
 obtain ⟨n,hn⟩:=Yb (Ef A) h ho
 exact zF (n:=n+1) (fun m hm=>by obtain ⟨k,rfl⟩:∃k,m=k+1:=⟨m - 1,by omega⟩;simp only [jL,hi,hh,hf];exact hn k (by omega))
theorem Ac {A:uM} {f:Nat} {k:HiK} (hi:A.intr f=none) (hf:A.hi f=some k) {as cs args:List AV} {s:St} {cx:Ctx} {o:CO} (ho:o≠.fail)
  (h:mr (ah A) (ah A.quiet) k (as++args++cs) s cx=o):ah A (.fn (.func f) as cs) args s cx=o:=by
 obtain ⟨n,hn⟩:=Oo (Ef A) (Ef A.quiet) h ho
 exact zF (n:=n+1) (fun m hm=>by obtain ⟨k,rfl⟩:∃k,m=k+1:=⟨m - 1,by omega⟩;simp only [jL,hi,hf];exact hn k (by omega))
theorem xX {A:uM} {f:Nat} {h:List AV→St→Option AV} (hi:A.intr f=some h) {as cs args:List AV} {s:St} {cx:Ctx} {r:AV} (hr:h (as++args++cs) s=some r):
  ah A (.fn (.func f) as cs) args s cx=.ret r s:=
 zF (n:=1) (fun m hm=>by obtain ⟨k,rfl⟩:∃k,m=k+1:=⟨m - 1,by omega⟩;simp only [jL,hi,hr])
theorem UZ {A:uM} {l:Nat} {args:List AV} {s:St} {cx:Ctx} {o:CO} (ho:o≠.fail) (h:Lc A.glob (ah A) l args s cx=o):ah A (.yl l) args s cx=o:=by
 obtain ⟨n,hn⟩:=Yp (Ef A) h ho
 exact zF (n:=n+1) (fun m hm=>by obtain ⟨k,rfl⟩:∃k,m=k+1:=⟨m - 1,by omega⟩;simp only [jL];exact hn k (by omega))
theorem ZA {A:uM} {fv:AV} {args:List AV} {s s':St} {cx:Ctx} {r:AV} (h:ah A fv args s cx=.ret r s'):∃n,jL A n fv args s cx=.ret r s':=by
 obtain ⟨n,hn⟩:=Gx h (by simp)
 exact ⟨n,hn n (Nat.le_refl _)⟩
end Go.Ai
namespace Go.Ai
section
variable {glob:Nat→Option (List AV)} {call callW:AV→List AV→St→Ctx→CO} {cx:Ctx}
def Gn (call callW:AV→List AV→St→Ctx→CO):Prop:=∀fv args s cx c,call fv args s cx=c→c≠.fail→callW fv args s cx=c
theorem aaP (hc:Gn call callW) {ops:List aX} {ord:Option (List Nat×List Nat)} {env:Env} {s:St} {o:Out} (h:sD glob call cx ops env s ord=o) (ho:o≠.fail):
  sD glob callW cx ops env s ord=o:=by
 have:Lim call (fun _=>callW):=fun fv args s cx c h hne=>⟨0,fun _ _=>hc fv args s cx c h hne⟩
 obtain ⟨n,hn⟩:=Nz this h ho
 exact hn n (Nat.le_refl _)
theorem aae {body yC:Env→St→Out} {keep:List Nat} (hb:∀env s o,body env s=o→o≠.fail→yC env s=o):
  ∀(N:Nat) {env:Env} {s:St} {o:Out},xw body keep N env s=o→o≠.fail→eY yC keep env s=o
 | 0,env,s,o,h,ho=>absurd h.symm ho
 | N+1,env,s,o,h,ho=>by
  simp only [xw] at h
  rw [JR]
  cases hx:body (jY env keep) s with
  | fail=>rw [hx] at h;exact absurd h.symm ho
  | norm env' s'=>
   rw [hx] at h
   rw [hb _ _ _ hx (by simp)]
   exact aae hb N h ho
  | _=>rw [hb _ _ _ hx (by simp)];rw [hx] at h;exact h
theorem W9 {body yC:Env→St→Out} {l:Nat} {keep:List Nat} (hb:∀env s o,body env s=o→o≠.fail→yC env s=o):
  ∀(N:Nat) {env:Env} {s:St} {o:Out},qW body l keep N env s=o→o≠.fail→Ah yC l keep env s=o
 | 0,env,s,o,h,ho=>absurd h.symm ho
 | N+1,env,s,o,h,ho=>by
  simp only [qW] at h
  rw [BU]
  cases hx:body (jY env keep) s with
  | fail=>rw [hx] at h;exact absurd h.symm ho
  | goto l' env' s'=>
   rw [hx] at h
   rw [hb _ _ _ hx (by simp)]
   simp only [Out.jmp] at h ⊢
   split at h
   ·rename_i hl;simp only [hl,if_true];exact W9 hb N h ho
   ·exact absurd h.symm ho
  | _=>rw [hb _ _ _ hx (by simp)];rw [hx] at h;exact h
theorem qE (hc:Gn call callW) (ro:Bool) (N:Nat):∀(c:aT) (env:Env) (s:St) (o:Out),dJ glob call cx ro N c env s=o→o≠.fail→aB glob callW cx ro c env s=o
 | .skip,env,s,o,h,ho=>by simpa [dJ,aB] using h
 | .ret,env,s,o,h,ho=>by simpa [dJ,aB] using h
 | .exit id,env,s,o,h,ho=>by simpa [dJ,aB] using h
 | .region ops ord keep,env,s,o,h,ho=>by
  simp only [dJ,aB] at h ⊢
  cases hx:sD glob call cx ops env s ord with
  | fail=>rw [hx] at h;exact absurd h.symm ho
  | _=>rw [aaP hc hx (by simp)];rw [hx] at h;exact h
 | .seq a b,env,s,o,h,ho=>by
  simp only [dJ,aB] at h ⊢
  cases hx:dJ glob call cx ro N a env s with
  | fail=>rw [hx] at h;exact absurd h.symm ho
  | norm env' s'=>
   rw [hx] at h
   rw [qE hc ro N a _ _ _ hx (by simp)]
   exact qE hc ro N b _ _ _ h ho
  | _=>rw [qE hc ro N a _ _ _ hx (by simp)];rw [hx] at h;exact h
 | .cond c a b,env,s,o,h,ho=>by
  simp only [dJ,aB] at h ⊢
  unfold aeU
  split at h
  ·rename_i hx;rw [hx];simpa using qE hc ro N a _ _ _ h ho
  ·rename_i hx;rw [hx];simpa using qE hc ro N b _ _ _ h ho
  ·exact absurd h.symm ho
 | .block id b,env,s,o,h,ho=>by
  simp only [dJ,aB] at h ⊢
  cases hx:dJ glob call cx ro N b env s with
  | fail=>rw [hx] at h;exact absurd h.symm ho
  | _=>rw [qE hc ro N b _ _ _ hx (by simp)];rw [hx] at h;exact h
 | .loop keep b,env,s,o,h,ho=>by
  simp only [dJ,aB] at h ⊢
  exact aae (qE hc ro N b) N h ho
 | .range f ps asg body,env,s,o,h,ho=>by
  simp only [dJ,aB] at h ⊢
  split at h
  ·exact absurd h.symm ho
  ·rename_i hro
   simp only [hro]
   unfold LD
   split at h
   ·rename_i ff as cs hx
    rw [hx]
    cases hy:call (.fn ff as cs) [.yl (s.length+1)] (s++[.dfr,.loop (uw env) ps asg body .ready]) cx with
    | fail=>rw [hy] at h;exact absurd h.symm ho
    | _=>
     have:=hc _ _ _ _ _ hy (by simp)
     rw [hy] at h
     simpa [this] using h
   ·exact absurd h.symm ho
 | .label l,env,s,o,h,ho=>by simpa [dJ,aB] using h
 | .goto l,env,s,o,h,ho=>by simpa [dJ,aB] using h
 | .scope l keep a b,env,s,o,h,ho=>by
  simp only [dJ,aB] at h ⊢
  cases hx:dJ glob call cx ro N a env s with
  | fail=>rw [hx] at h;exact absurd h.symm ho
  | goto l' env' s'=>
   rw [hx] at h
   rw [qE hc ro N a _ _ _ hx (by simp)]
   simp only [Out.jmp] at h ⊢
   split at h
   ·rename_i hl;simp only [hl,if_true];exact W9 (qE hc ro N b) N h ho
   ·exact absurd h.symm ho
  | _=>rw [qE hc ro N a _ _ _ hx (by simp)];rw [hx] at h;exact h
theorem abM (hc:Gn call callW) {N:Nat} {fn:dA} {args:List AV} {s:St} {o:CO} (h:wU glob call N fn args s cx=o) (ho:o≠.fail):af glob callW fn args s cx=o:=by
 unfold wU at h
 unfold af
 split at h
 ·rename_i hnp
  simp only [hnp,if_true]
  cases hx:dJ glob call ⟨if fn.pure then s.length else cx.lim,if fn.keep then cx.base else s.length⟩ fn.keep N fn.code (EW args 0) s with
  | fail=>rw [hx] at h;exact absurd h.symm ho
  | _=>rw [qE hc _ N _ _ _ _ hx (by simp)];rw [hx] at h;exact h
 ·exact absurd h.symm ho
theorem ab4 (hc:Gn call callW) {N l:Nat} {args:List AV} {s:St} {o:CO} (h:Ad glob call N l args s cx=o) (ho:o≠.fail):Lc glob callW l args s cx=o:=by
 unfold Ad at h
 unfold Lc
 split at h
 ·rename_i env ps asg body hl
  rw [hl]
  simp only []
  split at h
  ·rename_i hcond
   simp only [hcond,and_self,if_true]
   cases hx:dJ glob call cx true N asg (Fb env ps args) s with
   | norm env1 s1=>
    rw [qE hc true N _ _ _ _ hx (by simp)]
    rw [hx] at h
    unfold yC
    simp only [] at h ⊢
    split at h
    ·rename_i e1 p1 a1 b1 hl1
     rw [hl1]
     simp only []
     cases hy:dJ glob call cx true N body env1 (s1.set l (.loop e1 p1 a1 b1 .busy)) with
     | fail=>rw [hy] at h;exact absurd h.symm ho
     | _=>rw [qE hc true N _ _ _ _ hy (by simp)];rw [hy] at h;exact h
    ·exact absurd h.symm ho
   | _=>rw [hx] at h;exact absurd h.symm ho
  ·exact absurd h.symm ho
 ·exact absurd h.symm ho
end
theorem abL {call callW qcall qcallW:AV→List AV→St→Ctx→CO} {cx:Ctx} (hc:Gn call callW) (hq:Gn qcall qcallW) {k:HiK} {args:List AV} {s:St} {o:CO} (h:mr call qcall k args s cx=o) (ho:o≠.fail):
  mr callW qcallW k args s cx=o:=by
 have h1:Lim call (fun _=>callW):=fun fv args s cx c h hne=>⟨0,fun _ _=>hc fv args s cx c h hne⟩
 have h2:Lim qcall (fun _=>qcallW):=fun fv args s cx c h hne=>⟨0,fun _ _=>hq fv args s cx c h hne⟩
 obtain ⟨n,hn⟩:=Oo h1 h2 h ho
 exact hn n (Nat.le_refl _)
theorem Nc:∀(n:Nat) (A:uM),Gn (jL A n) (ah A)
 | 0,A=>fun fv args s cx c h hne=>by simp only [jL] at h;exact absurd h.symm hne
 | n+1,A=>fun fv args s cx c h hne=>by
  have ih:=Nc n A
  cases fv with
  | fn f as cs=>
   cases f with
   | func fid=>
    simp only [jL] at h
    split at h
    ·rename_i hh hin
     split at h
     ·rename_i r hr;rw [←h];exact xX hin hr
     ·exact absurd h.symm hne
    ·rename_i hin
     split at h
     ·rename_i k hk;exact Ac hin hk hne (abL ih (Nc n A.quiet) h hne)
     ·rename_i hk
      split at h
      ·rename_i fn hfn;exact Nh hin hk hfn hne (abM ih h hne)
      ·exact absurd h.symm hne
   | _=>simp only [jL] at h;exact absurd h.symm hne
  | yl l=>simp only [jL] at h;exact UZ hne (ab4 ih h hne)
  | _=>simp only [jL] at h;exact absurd h.symm hne
theorem Yn (A:uM) (n:Nat):Gn (jL A n) (ah A):=Nc n A
end Go.Ai
