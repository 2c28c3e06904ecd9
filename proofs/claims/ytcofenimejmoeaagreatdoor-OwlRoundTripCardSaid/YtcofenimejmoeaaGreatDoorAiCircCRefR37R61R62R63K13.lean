/-
 Circles of steps of which one is strict, in plain words.
-/
import Derived.Test.YtcofenimejmoeaaGreatDoorAiRchR1R2R3R4R5
import Derived.Test.YtcofenimejmoeaaGreatDoorAiK8K9K10K11K12
import Derived.Test.YtcofenimejmoeaaGreatDoorAiK1K2K3K4
set_option maxRecDepth 100000
set_option linter.unusedSimpArgs false
set_option linter.unusedVariables false
set_option linter.unusedSectionVars false
namespace Go.Ai.Z
section
variable {α:Type} {E:List (α×α×Bool)}
inductive Wk (E:List (α×α×Bool)):α→List α→α→Bool→Prop where
 | nil (c:α):Wk E c [] c false
 | cons {c s:α} {f:Bool} {t:List α} {r:α} {b:Bool} (he:(c,s,f)∈E) (h:Wk E s t r b):Wk E c (s::t) r (f || b)
theorem Wk.append {c:α} {t:List α} {r:α} {b:Bool} (h:Wk E c t r b) {u:List α} {q:α} {b':Bool} (h':Wk E r u q b'):Wk E c (t++u) q (b || b'):=by
 induction h with
 | nil=>simpa using h'
 | cons he _ ih=>rw [Bool.or_assoc];exact .cons he (ih h')
theorem Wk.one {c s:α} {f:Bool} (h:(c,s,f)∈E):Wk E c [s] s f:=by
 have:=Wk.cons h (.nil s)
 rwa [Bool.or_false] at this
theorem Wk.split {u:List α} {q:α}:∀{t:List α} {c:α} {b:Bool},Wk E c (t++u) q b→∃r b1 b2,Wk E c t r b1∧Wk E r u q b2∧b=(b1 || b2)
 | [],c,b,h=>⟨c,false,b,.nil c,h,by simp⟩
 | s::t,c,b,h=>by
  cases h with
  | cons he h=>
   obtain ⟨r,b1,b2,h1,h2,rfl⟩:=Wk.split (t:=t) h;exact ⟨r,_,b2,.cons he h1,h2,by rw [Bool.or_assoc]⟩
theorem Wk.last {c:α} {t:List α} {x q:α} {b:Bool} (h:Wk E c (t++[x]) q b):q=x:=by
 obtain ⟨r,b1,b2,_,h2,_⟩:=h.split
 cases h2 with
 | cons h3 h4=>cases h4;rfl
theorem Wk.nil_eq {c q:α} {b:Bool} (h:Wk E c [] q b):q=c∧b=false:=by cases h;exact ⟨rfl,rfl⟩
theorem Wk.snoc_inv {c:α} {t:List α} {x q:α} {b:Bool} (h:Wk E c (t++[x]) q b):∃r b1 f,Wk E c t r b1∧(r,x,f)∈E∧b=(b1 || f)∧q=x:=by
 obtain ⟨r,b1,b2,h1,h2,rfl⟩:=h.split
 cases h2 with
 | cons he h4=>cases h4;exact ⟨r,b1,_,h1,he,by simp,rfl⟩
def TT (E:List (α×α×Bool)) (l:List α):Prop:=∃c t r b f,l=c::t∧Wk E c t r b∧(r,c,f)∈E∧(b || f)=true
theorem ags {p:α} {V:List α} (hV:V≠[]) (h:Wk E p V p true):∃l,TT E l∧l.length=V.length:=by
 rcases List.eq_nil_or_concat V with rfl|⟨V',x,rfl⟩
 ·exact absurd rfl hV
 ·rw [List.concat_eq_append] at h ⊢;obtain ⟨r,b1,f,h1,h2,h3,rfl⟩:=h.snoc_inv;exact ⟨p::V',⟨p,V',r,b1,f,rfl,h1,h2,h3.symm⟩,by simp⟩
theorem af0 {x:α} {t:List α} (h:x∈t):∃V D,t=(V++[x])++D:=by
 obtain ⟨V,D,rfl⟩:=List.append_of_mem h;exact ⟨V,D,by simp⟩
theorem acM {r:α}:∀{t:List α} {c:α} {b:Bool},Wk E c t r b→¬(c::t).Nodup→∃U V D p b0 b1 b2,t=U++(V++D)∧V≠[]∧Wk E c U p b0∧Wk E p V p b1∧Wk E p D r b2∧b=(b0 || (b1 || b2))
 | [],c,b,_,hn=>absurd (by simp) hn
 | s::t,c,b,h,hn=>by
  by_cases hc:c∈s::t
  ·obtain ⟨V,D,he⟩:=af0 hc;rw [he] at h;obtain ⟨q,b1,b2,h1,h2,rfl⟩:=h.split;obtain rfl:=h1.last;exact ⟨[],V++[q],D,q,false,b1,b2,by rw [he];rfl,by simp,.nil q,h1,h2,by simp⟩
  ·cases h with
   | cons he h=>
    obtain ⟨U,V,D,p,b0,b1,b2,e,hV,h0,h1,h2,rfl⟩:=acM h fun hd=>hn (List.nodup_cons.2 ⟨hc,hd⟩);exact ⟨s::U,V,D,p,_,b1,b2,by rw [e];rfl,hV,.cons he h0,h1,h2,by rw [Bool.or_assoc]⟩
theorem aeL {l:List α} (h:TT E l) (hn:¬l.Nodup):∃d,TT E d∧d.length<l.length:=by
 obtain ⟨c,t,r,b,f,rfl,hw,he,hb⟩:=h;obtain ⟨U,V,D,p,b0,b1,b2,rfl,hV,h0,h1,h2,rfl⟩:=acM hw hn;have hVl:=List.length_pos_iff.2 hV
 cases b1 with
 | true=>
  obtain ⟨d,hd,hl⟩:=ags hV h1;exact ⟨d,hd,by simp;omega⟩
 | false=>
  refine ⟨c::(U++D),⟨c,U++D,r,_,f,rfl,h0.append h2,he, ?_⟩,by simp;omega⟩
  simpa using hb
theorem Wk.mono {E':List (α×α×Bool)} (hE:∀p∈E,p∈E') {c:α} {t:List α} {r:α} {b:Bool} (h:Wk E c t r b):Wk E' c t r b:=by
 induction h with
 | nil c=>exact .nil c
 | cons he _ ih=>exact .cons (hE _ he) ih
theorem TT.mono {E':List (α×α×Bool)} (hE:∀p∈E,p∈E') {l:List α} (h:TT E l):TT E' l:=by
 obtain ⟨c,t,r,b,f,e,h1,h2,h3⟩:=h;exact ⟨c,t,r,b,f,e,h1.mono hE,hE _ h2,h3⟩
theorem Wk.froms {c:α} {t:List α} {r:α} {b:Bool} (h:Wk E c t r b) (hr:r∈E.map (·.1)):∀x∈c::t,x∈E.map (·.1):=by
 induction h with
 | nil c=>intro x hx;simp at hx;subst hx;exact hr
 | @cons c s f t r b he _ ih=>
  intro x hx;rcases List.mem_cons.1 hx with rfl|hx
  ·exact List.mem_map.2 ⟨_,he,rfl⟩
  ·exact ih hr x hx
theorem TT.froms {l:List α} (h:TT E l):∀x∈l,x∈E.map (·.1):=by
 obtain ⟨c,t,r,b,f,rfl,h1,h2,h3⟩:=h;exact h1.froms (List.mem_map.2 ⟨_,h2,rfl⟩)
def Lx (lt:α→α→Prop):List α→List α→Prop
 | a::l,b::m=>lt a b∨(a=b∧Lx lt l m)
 | _,_=>False
def Sl (lt:α→α→Prop) (l m:List α):Prop:=l.length<m.length∨(l.length=m.length∧Lx lt l m)
structure Lin (lt:α→α→Prop):Prop where
 irr:∀a,¬lt a a
 tr:∀a b c,lt a b→lt b c→lt a c
 tot:∀a b,lt a b∨a=b∨lt b a
variable {lt:α→α→Prop}
theorem Lx.irr (hl:Lin lt):∀{a:List α},¬Lx lt a a
 | [],h=>h
 | x::a,h=>by
  rcases h with h|⟨_,h⟩
  ·exact hl.irr _ h
  ·exact Lx.irr hl h
theorem Lx.tr (hl:Lin lt):∀{a b c:List α},Lx lt a b→Lx lt b c→Lx lt a c
 | [],_,_,h,_=>h.elim
 | _::_,[],_,h,_=>h.elim
 | _::_,_::_,[],_,h=>h.elim
 | x::a,y::b,z::c,h,h'=>by
  rcases h with h|⟨rfl,h⟩
  ·rcases h' with h' | ⟨rfl,h'⟩
   ·exact .inl (hl.tr _ _ _ h h')
   ·exact .inl h
  ·rcases h' with h' | ⟨rfl,h'⟩
   ·exact .inl h'
   ·exact .inr ⟨rfl,Lx.tr hl h h'⟩
theorem Lx.tot (hl:Lin lt):∀{a b:List α},a.length=b.length→Lx lt a b∨a=b∨Lx lt b a
 | [],[],_=>.inr (.inl rfl)
 | [],_::_,h=>by simp at h
 | _::_,[],h=>by simp at h
 | x::a,y::b,h=>by
  rcases hl.tot x y with hh|rfl|hh
  ·exact .inl (.inl hh)
  ·rcases Lx.tot hl (a:=a) (b:=b) (by simpa using h) with h|rfl|h
   ·exact .inl (.inr ⟨rfl,h⟩)
   ·exact .inr (.inl rfl)
   ·exact .inr (.inr (.inr ⟨rfl,h⟩))
  ·exact .inr (.inr (.inl hh))
theorem Lx.app_left:∀{a b:List α},Lx lt a b→∀u v:List α,Lx lt (a++u) (b++v)
 | [],_,h,_,_=>h.elim
 | _::_,[],h,_,_=>h.elim
 | _::_,_::_,h,u,v=>by
  rcases h with h|⟨rfl,h⟩
  ·exact .inl h
  ·exact .inr ⟨rfl,Lx.app_left h u v⟩
theorem Sl.irr (hl:Lin lt) {a:List α} (h:Sl lt a a):False:=by
 rcases h with h|⟨_,h⟩
 ·omega
 ·exact Lx.irr hl h
theorem Sl.tr (hl:Lin lt) {a b c:List α} (h:Sl lt a b) (h':Sl lt b c):Sl lt a c:=by
 rcases h with h|⟨e,h⟩<;>rcases h' with h' | ⟨e',h'⟩
 ·exact .inl (by omega)
 ·exact .inl (by omega)
 ·exact .inl (by omega)
 ·exact .inr ⟨by omega,h.tr hl h'⟩
theorem Sl.tot (hl:Lin lt) (a b:List α):Sl lt a b∨a=b∨Sl lt b a:=by
 rcases Nat.lt_trichotomy a.length b.length with h|h|h
 ·exact .inl (.inl h)
 ·rcases Lx.tot hl h with h' | h' | h'
  ·exact .inl (.inr ⟨h,h'⟩)
  ·exact .inr (.inl h')
  ·exact .inr (.inr (.inr ⟨h.symm,h'⟩))
 ·exact .inr (.inr (.inl h))
theorem Sl.app {a b:List α} (h:Sl lt a b) {u v:List α} (hu:u.length=v.length):Sl lt (a++u) (b++v):=by
 rcases h with h|⟨e,h⟩
 ·exact .inl (by simp;omega)
 ·exact .inr ⟨by simp;omega,h.app_left u v⟩
def afg (lt:α→α→Prop) (E:List (α×α×Bool)) (l:List α):Prop:=TT E l∧∀d,TT E d→¬Sl lt d l
theorem afg.nodup {l:List α} (h:afg lt E l):l.Nodup:=by
 by_cases hn:l.Nodup
 ·exact hn
 ·obtain ⟨d,h1,h2⟩:=aeL h.1 hn;exact absurd (.inl h2) (h.2 d h1)
theorem afg.congr {E':List (α×α×Bool)} (hE:∀p,p∈E ↔ p∈E') {l:List α} (h:afg lt E l):afg lt E' l:=
 ⟨h.1.mono fun p hp=>(hE p).1 hp,fun d hd=>h.2 d (hd.mono fun p hp=>(hE p).2 hp)⟩
end
end Go.Ai.Z
namespace Go.Ai.Z
abbrev RE:=List (Rl×Rl×Bool)
abbrev PE:=List Rl×Bool
abbrev LxR:List Rl→List Rl→Prop:=Lx (fun a b:Rl=>a<b)
def ahZ (p:PE):Rl:=p.1.getLastD []
def akf (y x:PE):Bool:=decide (y.2=x.2) && decide (ahZ y=ahZ x)
def Snd (E:RE) (n:Nat) (c:Rl) (p:PE):Prop:=∃t,p.1=c::t∧t.length+1=n∧Wk E c t (ahZ p) p.2
theorem Snd.len {E:RE} {n:Nat} {c:Rl} {p:PE} (h:Snd E n c p):p.1.length=n:=by obtain ⟨t,e,hl,_⟩:=h;rw [e];simp [hl]
def Good (E:RE) (n:Nat) (c:Rl) (p:PE):Prop:=Snd E n c p∧∀q,Snd E n c q→akf q p=true→¬LxR q.1 p.1
end Go.Ai.Z
namespace Go.Ai.Z
def bxA (x:Ax):EV:=.bx (cellsA x)
end Go.Ai.Z
namespace Go.Ai.Z
def qO (V:List Rl) (k:Rl):List Rl:=if k∈V then V else V++[k]
theorem KF {k:Rl}:∀{V:List Rl},k∈V→Dn 1 (.s k) (.b true) (qm V)=some (qm V)
 | [],h=>by cases h
 | x::V,h=>by
  by_cases hk:k=x
  ·subst hk;simp [qm,Dn,jC]
  ·have h':k∈V:=by
    rcases List.mem_cons.1 h with h|h
    ·exact absurd h hk
    ·exact h
   have ih:=KF h';simp only [qm] at ih ⊢;simp [Dn,jC,hk,ih]
theorem tH (k:Rl) (V:List Rl):Dn 1 (.s k) (.b true) (qm V)=some (qm (qO V k)):=by
 unfold qO;split
 ·rename_i h;exact KF h
 ·rename_i h;exact Uz h
theorem ja {V:List Rl} {k x:Rl}:x∈qO V k ↔ x=k∨x∈V:=by
 unfold qO;split
 ·rename_i h
  exact ⟨.inr,fun hh=>by rcases hh with rfl|hh<;>assumption⟩
 ·simp [or_comm]
theorem Y5 {V:List Rl} (hV:V.Nodup) (k:Rl):(qO V k).Nodup:=by
 unfold qO;split
 ·exact hV
 ·rename_i h;exact List.nodup_append.2 ⟨hV,by simp,fun a ha b hb=>by simp at hb;subst hb;exact fun e=>h (e ▸ ha)⟩
theorem DT (V:List Rl) (k:Rl):(qO V k).length≤V.length+1:=by
 unfold qO
 split<;>simp
def Ic (V:List Rl) (k:Rl):List Rl:=V.erase k
theorem UB (k:Rl):∀V:List Rl,Jo 1 (.s k) (qm V)=some (qm (Ic V k))
 | []=>rfl
 | x::V=>by
  have ih:=UB k V;simp only [qm,Ic] at ih ⊢;by_cases hk:k=x
  ·subst hk;simp [Jo,jC]
  ·have hk':¬x=k:=fun h=>hk h.symm;simp [Jo,jC,hk,ih,List.erase_cons,hk']
structure V4 where
 c:List Rl
 r:List Rl
 f:List Rl
 i:List Rl
def V4.ob (v:V4):St:=[.map (qm v.c),.map (qm v.r),.map (qm v.f),.map (qm v.i)]
def V4.nil:V4:=⟨[],[],[],[]⟩
def V4.add (v:V4) (x:C):V4:=
 if x.kind=3 then { v with c:=qO v.c x.name } else if x.kind=6 then { v with r:=qO v.r x.name }
 else if x.kind=7 then { v with f:=qO v.f x.name } else if x.kind=4 then { v with i:=qO v.i x.name } else v
mutual
def mW:C→V4→V4
 | .mk k n l h z ps,v=>vN ps (v.add (.mk k n l h z ps))
def vN:List C→V4→V4
 | [],v=>v
 | p::r,v=>vN r (mW p v)
end
theorem yZ (x:C) (v:V4):mW x v=vN x.parts (v.add x):=by cases x;simp [mW]
structure LB (n:Nat) (V:List Rl):Prop where
 nd:V.Nodup
 len:V.length≤n
 nm:∀x∈V,x.length≤7000
theorem LB.add {n:Nat} {V:List Rl} (h:LB n V) {k:Rl} (hk:k.length≤7000):LB (n+1) (qO V k):=
 ⟨Y5 h.nd k,by have:=DT V k;have:=h.len;omega,fun x hx=>by
  rcases ja.1 hx with rfl|hx
  ·exact hk
  ·exact h.nm x hx⟩
theorem LB.le {n m:Nat} {V:List Rl} (h:LB n V) (hm:n≤m):LB m V:=⟨h.nd,Nat.le_trans h.len hm,h.nm⟩
theorem LB.del {n:Nat} {V:List Rl} (h:LB n V) (k:Rl):LB n (Ic V k):=
 ⟨h.nd.sublist List.erase_sublist,Nat.le_trans List.erase_sublist.length_le h.len,fun x hx=>h.nm x (List.erase_sublist.subset hx)⟩
structure VB (n:Nat) (v:V4):Prop where
 c:LB n v.c
 r:LB n v.r
 f:LB n v.f
 i:LB n v.i
theorem VB.le {n m:Nat} {v:V4} (h:VB n v) (hm:n≤m):VB m v:=⟨h.c.le hm,h.r.le hm,h.f.le hm,h.i.le hm⟩
theorem VB.add {n:Nat} {v:V4} (h:VB n v) {x:C} (hx:x.name.length≤7000):VB (n+1) (v.add x):=by
 have h':=h.le (Nat.le_succ n);unfold V4.add;split
 ·exact ⟨h.c.add hx,h'.r,h'.f,h'.i⟩
 ·split
  ·exact ⟨h'.c,h.r.add hx,h'.f,h'.i⟩
  ·split
   ·exact ⟨h'.c,h'.r,h.f.add hx,h'.i⟩
   ·split
    ·exact ⟨h'.c,h'.r,h'.f,h.i.add hx⟩
    ·exact h'
theorem acQ:∀(x:C),wC x≤150→∀(n:Nat) (v:V4),VB n v→VB (n+wC x) (mW x v):=by
 refine C.ind' fun x ih hw n v hv=>?_;have hw':=hw;rw [Bz] at hw'
 have hL:∀(l:List C),(∀p∈l,wC p≤150→∀(n:Nat) (v:V4),VB n v→VB (n+wC p) (mW p v))→wL l≤150→∀(n:Nat) (v:V4),VB n v→VB (n+wL l) (vN l v):=by
  intro l
  induction l with
  | nil=>intro _ _ n v hv;simpa [vN,wL] using hv
  | cons p r ihr=>
   intro h hl n v hv;simp only [wL] at hl ⊢;have h1:=h p (by simp) (by omega) n v hv;have h2:=ihr (fun q hq=>h q (by simp [hq])) (by omega) _ _ h1;simp only [vN];rw [show n+(wC p+wL r)=n+wC p+wL r by omega];exact h2
 rw [yZ,Bz];exact (hL x.parts ih (by omega) (n+1) (v.add x) (hv.add (by omega))).le (by omega)
def Ey (V:List Rl):List Rl→List Rl
 | []=>V
 | r::rs=>Ey (qO V r) rs
theorem LB.Ey {rs:List Rl}:∀{n:Nat} {V:List Rl},LB n V→(∀r∈rs,r.length≤7000)→LB (n+rs.length) (Ey V rs):=by
 induction rs with
 | nil=>intro n V h _;exact h
 | cons r rs ih=>
  intro n V h hr
  have:=ih (h.add (hr r (by simp))) fun x hx=>hr x (by simp [hx])
  simp only [List.length_cons];rw [show n+(rs.length+1)=n+1+rs.length by omega];exact this
def Hf (x:Ax) (v:V4):V4:=
 let u:=mW x.right (mW x.left v)
 ⟨u.c,qO (Ey u.r x.roles) x.role,u.f,qO (qO u.i x.a) x.b⟩
theorem afv {x:Ax} (hx:x.Few) {n:Nat} {v:V4} (h:VB n v):VB (n+1000) (Hf x v):=by
 have h1:=acQ x.left hx.l n v h;have h2:=acQ x.right hx.r _ _ h1;have l1:=hx.l;have l2:=hx.r;have l3:=hx.roles;have l4:=hx.role;have l5:=hx.a;have l6:=hx.b;refine ⟨h2.c.le (by omega),(((h2.r.Ey fun r hr=>?_).add (by omega)).le (by omega)),h2.f.le (by omega),((h2.i.add (by omega)).add (by omega)).le (by omega)⟩
 have:=hx.rs r hr;omega
def mr:List Ax→V4→V4
 | [],v=>v
 | x::r,v=>mr r (Hf x v)
theorem TY:∀{l:List Ax},(∀x∈l,x.Few)→∀{n:Nat} {v:V4},VB n v→VB (n+1000 * l.length) (mr l v)
 | [],_,n,v,h=>h
 | x::l,hx,n,v,h=>by
  have h1:=TY (l:=l) (fun y hy=>hx y (by simp [hy])) (afv (hx x (by simp)) h);simp only [List.length_cons,mr];rw [show n+1000 * (l.length+1)=n+1000+1000 * l.length by omega];exact h1
theorem VB.nil:VB 0 V4.nil:=⟨⟨by simp [V4.nil],by simp [V4.nil],by simp [V4.nil]⟩,⟨by simp [V4.nil],by simp [V4.nil],by simp [V4.nil]⟩,⟨by simp [V4.nil],by simp [V4.nil],by simp [V4.nil]⟩,⟨by simp [V4.nil],by simp [V4.nil],by simp [V4.nil]⟩⟩
end Go.Ai.Z
namespace Go.Ai.Z
def ofE (n:Nat):List (AV×AV):=[(.i .i64 3,.mp n),(.i .i64 6,.mp (n+1)),(.i .i64 7,.mp (n+2)),(.i .i64 4,.mp (n+3))]
def vcE (n:Nat) (lv sv:AV) (len i k:Int) (c:C):Env:=
 [(2,.v .u),(3,.v (.i .i64 0)),(7,.v (.mp n)),(8,.v (.mp (n+1))),(9,.v (.mp (n+2))),(10,.v (.mp (n+3))),(11,.v (.pt (n+5) 0)),(13,.v .u),(44,.v lv),(45,.v (.i .i64 len)),(46,.v (.i .i64 i)),(54,.v sv),(55,.v (.i .i64 2)),(56,.v (.i .i64 k)),(61,.v (.fn (.func jo) [] [.ip (aJ c).cells]))]
def vcL (n:Nat) (lv sv:AV) (len i k:Int) (c:C) (p:NG):fP:=.loop (vcE n lv sv len i k c) [62] nK fH p
def vcH (s:St) (v:V4) (r:St):St:=s++(.map (qm v.c)::.map (qm v.r)::.map (qm v.f)::.map (qm v.i)::.map (ofE s.length)::.cells [.mp (s.length+4)]::r)
section
variable {s r q:St} {v:V4}
@[simp] theorem amG:(vcH s v r)[s.length]?=some (.map (qm v.c)):=by simp [vcH]
@[simp] theorem amF:(vcH s v r)[s.length+1]?=some (.map (qm v.r)):=by simp [vcH]
@[simp] theorem amE:(vcH s v r)[s.length+2]?=some (.map (qm v.f)):=by simp [vcH]
@[simp] theorem amD:(vcH s v r)[s.length+3]?=some (.map (qm v.i)):=by simp [vcH]
@[simp] theorem amC:(vcH s v r)[s.length+4]?=some (.map (ofE s.length)):=by simp [vcH]
@[simp] theorem amB:(vcH s v r)[s.length+5]?=some (.cells [.mp (s.length+4)]):=by simp [vcH]
theorem Ua (p:Nat):(vcH s v r)[s.length+6+p]?=r[p]?:=by
 unfold vcH;rw [List.getElem?_append_right (by omega),show s.length+6+p - s.length=p+6 by omega];rfl
@[simp] theorem ak8:(vcH s v r).length=s.length+6+r.length:=by simp [vcH];omega
@[simp] theorem afw:vcH s v r++q=vcH s v (r++q):=by simp [vcH]
@[simp] theorem ajb {V:List Rl}:(vcH s v r).set s.length (.map (qm V))=vcH s { v with c:=V } r:=by simp [vcH]
@[simp] theorem aja {V:List Rl}:(vcH s v r).set (s.length+1) (.map (qm V))=vcH s { v with r:=V } r:=by
 unfold vcH;rw [List.set_append,if_neg (by omega)];simp
@[simp] theorem ai9 {V:List Rl}:(vcH s v r).set (s.length+2) (.map (qm V))=vcH s { v with f:=V } r:=by
 unfold vcH;rw [List.set_append,if_neg (by omega)];simp
@[simp] theorem ai8 {V:List Rl}:(vcH s v r).set (s.length+3) (.map (qm V))=vcH s { v with i:=V } r:=by
 unfold vcH;rw [List.set_append,if_neg (by omega)];simp
theorem JW (p:Nat) (o:fP):(vcH s v r).set (s.length+6+p) o=vcH s v (r.set p o):=by
 unfold vcH;rw [List.set_append,if_neg (by omega),show s.length+6+p - s.length=p+6 by omega];rfl
theorem acU (v':V4):(vcH s v' (r++q)).take (s.length+6+r.length)=vcH s v' r:=by
 rw [←afw,List.take_append_of_le_length (by simp),List.take_of_length_le (by simp)]
end
theorem afl (x:C) (s:St) (v:V4) (r:St) (lv sv:AV) (len i k:Int) (c:C) (cx:Ctx) (hb:cx.base≤s.length+6+r.length) (hl:cx.lim≤s.length):
  aB P0.glob (aj P0) cx true nK ((62,.v (aJ x))::vcE s.length lv sv len i k c) (vcH s v r)=
   .norm [(11,.v (.pt (s.length+5) 0)),(16,.v (.pt (s.length+6+r.length) 0))] (vcH s v (r++[.cells (aJ x).cells])):=by
 have h1:cx.lim≤s.length+6+r.length:=by omega
 have h2:=Ua (s:=s) (v:=v) (r:=r++[.cells [.i .i64 0,.s [],.i .i64 0,.i .i64 0,.ns]]) r.length;have h3:=JW (s:=s) (v:=v) (r:=r++[.cells [.i .i64 0,.s [],.i .i64 0,.i .i64 0,.ns]]) r.length (.cells (aJ x).cells);simp at h2 h3;simp [nK,vcE,hb,h1,h2,h3]
theorem afk (x:C) (s:St) (v:V4) (r:St) (m:Nat) (hm:r[m]?=some (.cells (aJ x).cells)) (cx:Ctx) (hl:cx.lim≤s.length):
  ∃e',aB P0.glob (aj P0) cx true fH [(11,.v (.pt (s.length+5) 0)),(16,.v (.pt (s.length+6+m) 0))] (vcH s v r)=.norm e' (vcH s (v.add x) r):=by
 have h1:=Ua (s:=s) (v:=v) (r:=r) m;rw [hm] at h1;simp at h1;have l1:cx.lim≤s.length+1:=by omega
 have l2:cx.lim≤s.length+2:=by omega
 have l3:cx.lim≤s.length+3:=by omega
 by_cases k3:x.kind=3
 ·exact ⟨_,by simp [fH,h1,ofE,find,jC,uy,k3,hl,tH,V4.add];rfl⟩
 by_cases k6:x.kind=6
 ·exact ⟨_,by simp [fH,h1,ofE,find,jC,uy,k6,hl,l1,tH,V4.add];rfl⟩
 by_cases k7:x.kind=7
 ·exact ⟨_,by simp [fH,h1,ofE,find,jC,uy,k7,hl,l2,tH,V4.add];rfl⟩
 by_cases k4:x.kind=4
 ·exact ⟨_,by simp [fH,h1,ofE,find,jC,uy,k4,hl,l3,tH,V4.add];rfl⟩
 ·exact ⟨_,by simp [fH,h1,ofE,find,jC,uy,k3,k4,k6,k7,hl,V4.add];rfl⟩
theorem ai6 (x:C) (s:St) (v:V4) (r:St) (lv sv:AV) (len i k:Int) (c:C) (p:Nat) (hp:r[p]?=some (vcL s.length lv sv len i k c .ready)) (cx:Ctx) (hb:cx.base≤s.length+6+r.length) (hl:cx.lim≤s.length):
  aj P0 (.yl (s.length+6+p)) [aJ x] (vcH s v r) cx=.ret (.b true) (vcH s (v.add x) (r++[.cells (aJ x).cells])):=by
 have hp1:p<r.length:=(List.getElem?_eq_some_iff.1 hp).1;have hA:=afl x s v r lv sv len i k c cx hb hl
 obtain ⟨e',hR⟩:=afk x s v ((r++[fP.cells (aJ x).cells]).set p (vcL s.length lv sv len i k c .busy)) r.length (by
  rw [List.getElem?_set_ne (by omega)];simp) cx hl
 refine ND (by simp) ?_;unfold IK;rw [Ua,hp];have g1:(r++[fP.cells (aJ x).cells])[p]?=some (vcL s.length lv sv len i k c .ready):=by rw [List.getElem?_append_left hp1];exact hp
 have hlp:cx.lim≤s.length+6+p:=by omega
 have hput:CY (vcE s.length lv sv len i k c) [62] [aJ x]=(62,.v (aJ x))::vcE s.length lv sv len i k c:=by simp [CY,put,vcE,lk]
 simp only [vcL,List.length_cons,List.length_nil,hlp,and_self,if_true,hput,hA,xZ];rw [Ua,g1];simp only [vcL,JW];simp only [vcL] at hR;rw [hR];simp only [G5,sD,Ua];rw [List.getElem?_set_self (by simp;omega)];simp only [JW,List.set_set];have g2:=Qc g1;simp only [vcL] at g2;rw [g2]
theorem Oe (x:C) (hw:wC x≤100000) (s:St) (r:St) (p:Nat) (cx:Ctx)
  (ih:∀y∈x.parts,∀v:V4,aj P0 (.fn (.func mg) [] []) [aJ y,.yl (s.length+6+p)] (vcH s v r) cx=.ret (.b true) (vcH s (mW y v) r)):
  ∀(rest:List C) (i:Nat) (v:V4),x.parts.drop i=rest→
  ∃j:Int,gQ (aB P0.glob (aj P0) cx false jI) [1,12,13,14] [(1,.v (.yl (s.length+6+p))),(12,.v (slf x.z (x.parts.map aJ))),(13,.v (.i .i64 x.parts.length)),(14,.v (.i .i64 i))] (vcH s v r)=
   .exit 0 [(1,.v (.yl (s.length+6+p))),(12,.v (slf x.z (x.parts.map aJ))),(13,.v (.i .i64 x.parts.length)),(14,.v (.i .i64 j)),(15,.v (.b false))] (vcH s (vN rest v) r)
 | [],i,v,h=>by
  have h1:¬i<x.parts.length:=Nat.not_lt.2 (drop_nil h);refine ⟨i,ak fun K hK=>?_⟩;simp [jI,h1,vN]
 | y::rest,i,v,h=>by
  obtain ⟨h1,h2,h3,h4⟩:=drop_cons h;have h5:=h4 h3;have hp:y∈x.parts:=by rw [←h5];exact List.getElem_mem h3
  have hlen:=PZ x.parts;have hwi:=wI (i:=i) (by rw [Bz] at hw;omega);have e1:=ih y hp v;obtain ⟨j,ih2⟩:=Oe x hw s r p cx ih rest (i+1) (mW y v) h2;refine ⟨j,ak fun K hK=>?_⟩;rw [←hK] at ih2;clear hK h4 ih;simp at ih2;simp [jI,h3,h5,hwi,e1,ih2,vN]
theorem Yn (s:St) (lv sv:AV) (len i k:Int) (c:C) (p:Nat):∀(x:C),wC x≤100000→∀(r:St) (v:V4) (cx:Ctx),r[p]?=some (vcL s.length lv sv len i k c .ready)→cx.lim≤s.length→
   aj P0 (.fn (.func mg) [] []) [aJ x,.yl (s.length+6+p)] (vcH s v r) cx=.ret (.b true) (vcH s (mW x v) r):=by
 refine C.ind' fun x ih hw r v cx hp hl=>?_;have hp1:p<r.length:=(List.getElem?_eq_some_iff.1 hp).1;have hw':=hw;rw [Bz] at hw';have hy:=ai6 x s v r lv sv len i k c p hp ⟨cx.lim,s.length+6+r.length⟩ (Nat.le_refl _) hl
 obtain ⟨j,h⟩:=Oe x hw s (r++[fP.cells (aJ x).cells]) p ⟨cx.lim,s.length+6+r.length⟩
  (fun y hy v=>ih y hy (by have:=LW hy;omega) (r++[fP.cells (aJ x).cells]) v _ (by rw [List.getElem?_append_left hp1];exact hp) hl) x.parts 0 (v.add x) rfl
 refine F6 (by simp) ?_;rw [←yZ] at h;simp at h;simp [af,oh,hy,h,frz,AV.under];exact acU _
theorem ZF (s:St) (lv sv:AV) (len i k:Int) (c:C) (p:Nat) (hw:wC c≤100000) (r:St) (v:V4) (cx:Ctx) (hp:r[p]?=some (vcL s.length lv sv len i k c .ready)) (hl:cx.lim≤s.length):
  aj P0 (.fn (.func jo) [] [.ip (aJ c).cells]) [.yl (s.length+6+p)] (vcH s v r) cx=.ret (.tu []) (vcH s (mW c v) r):=by
 have hv:=Yn s lv sv len i k c p c hw r v ⟨cx.lim,s.length+6+r.length⟩ hp hl;refine EK (by simp) ?_;simp [af,sQ,hv]
end Go.Ai.Z
namespace Go.Ai.Z
theorem agy (s:St) (a:Nat) (cx:Ctx):aj P0 (.fn (.func bP) [] []) [.mp a] s cx=.ret (.fn (.func 91) [] [.kb (.mp a)]) s:=
 sH (h:=XJ 91) rfl rfl
theorem G9 {n:Nat} {V:List Rl} (h:LB n V) (hn:n≤1048576) (s:St) (a:Nat) (ha:s[a]?=some (.map (qm V))) (cx:Ctx):aj P0 (.fn (.func jB) [] []) [.fn (.func 91) [] [.kb (.mp a)]] s cx=.ret (slS (vY V)) s:=by
 refine sH (h:=GZ [91]) rfl ?_;have h1:=P7 (abE h.nd);have h2:XC s (.mp a)=some V:=by simp only [XC,ha];exact Ui V
 have h3:=h.len;have h4:V.length≤1048576:=by omega
 simp [GZ,h2,h1,h4];exact fun x hx=>by have:=h.nm x hx;omega
theorem Zd (s:St) (x:Ax) (hx:x.Few) (lv:AV) (len i:Int) (cx:Ctx) (hl:cx.lim≤s.length) (hb:cx.base≤s.length):
  ∀(n k:Nat) (v:V4) (r:St),k+n=2→
  ∃(j:Int) (r':St),gQ (aB P0.glob (aj P0) cx false kU) [2,3,7,8,9,10,11,13,44,45,46,54,55,56]
    [(2,.bx [.ns,.ns,.ns,.ns]),(3,.v (.i .i64 0)),(7,.v (.mp s.length)),(8,.v (.mp (s.length+1))),(9,.v (.mp (s.length+2))),(10,.v (.mp (s.length+3))),(11,.v (.pt (s.length+5) 0)),(13,bxA x),(44,.v lv),(45,.v (.i .i64 len)),(46,.v (.i .i64 i)),(54,.v (.sl [aJ x.left,aJ x.right])),(55,.v (.i .i64 2)),(56,.v (.i .i64 k))] (vcH s v r)=
    .exit 4 [(2,.bx [.ns,.ns,.ns,.ns]),(3,.v (.i .i64 0)),(7,.v (.mp s.length)),(8,.v (.mp (s.length+1))),(9,.v (.mp (s.length+2))),(10,.v (.mp (s.length+3))),(11,.v (.pt (s.length+5) 0)),(13,bxA x),(44,.v lv),(45,.v (.i .i64 len)),(46,.v (.i .i64 i)),(54,.v (.sl [aJ x.left,aJ x.right])),(55,.v (.i .i64 2)),(56,.v (.i .i64 j)),(57,.v (.b false))]
    (vcH s (vN ([x.left,x.right].drop k) v) r')
 | 0,k,v,r,hk=>by
  obtain rfl:k=2:=by omega
  refine ⟨2,r,ak fun K hK=>?_⟩;simp [kU,vN,bxA,cellsA]
 | n+1,k,v,r,hk=>by
  have hw:∀c:C,wC c≤150→∀k':Int,aj P0 (.fn (.func jo) [] [.ip (aJ c).cells]) [.yl (s.length+6+(r.length+1))] (vcH s v (r++[.dfr,vcL s.length lv (.sl [aJ x.left,aJ x.right]) len i k' c .ready])) cx=
    .ret (.tu []) (vcH s (mW c v) (r++[.dfr,vcL s.length lv (.sl [aJ x.left,aJ x.right]) len i k' c .ready])):=fun c hc k'=>
   ZF s lv (.sl [aJ x.left,aJ x.right]) len i k' c (r.length+1) (by omega) _ v cx (by simp [List.getElem?_append_right]) hl
  have hg:∀(v':V4) (c:C) (k':Int),(vcH s v' (r++[.dfr,vcL s.length lv (.sl [aJ x.left,aJ x.right]) len i k' c .ready]))[s.length+6+(r.length+1)]?=some (vcL s.length lv (.sl [aJ x.left,aJ x.right]) len i k' c .ready):=fun v' c k'=>by
   rw [Ua];simp [List.getElem?_append_right]
  have hs:∀(v':V4) (c:C) (k':Int),(vcH s v' (r++[.dfr,vcL s.length lv (.sl [aJ x.left,aJ x.right]) len i k' c .ready])).set (s.length+6+(r.length+1)) .dead=vcH s v' (r++[.dfr,.dead]):=fun v' c k'=>by
   rw [JW,List.set_append_right _ _ (by omega)];simp
  have e0:s.length+6+r.length+1=s.length+6+(r.length+1):=by omega
  have w1:IntKind.i64.wrap 1=1:=w64 (by omega) (by omega);have w2:IntKind.i64.wrap 2=2:=w64 (by omega) (by omega);have hcase:k=0∨k=1:=by omega
  rcases hcase with rfl|rfl
  ·obtain ⟨j,r',ih⟩:=Zd s x hx lv len i cx hl hb n 1 (mW x.left v) (r++[.dfr,.dead]) (by omega);refine ⟨j,r',ak fun K hK=>?_⟩;rw [←hK] at ih;clear hK;have h1:=hw x.left hx.l 0;have h2:=hg (mW x.left v) x.left 0;have h3:=hs (mW x.left v) x.left 0;simp only [vcL,vcE] at h1 h2 h3;simp [bxA,cellsA,vN] at ih;simp at h1 h2 h3;simp [kU,bxA,cellsA,vN,Fj,rP,e0,h1,h2,h3,D8,w1,w2,ih]
  ·obtain ⟨j,r',ih⟩:=Zd s x hx lv len i cx hl hb n 2 (mW x.right v) (r++[.dfr,.dead]) (by omega);refine ⟨j,r',ak fun K hK=>?_⟩;rw [←hK] at ih;clear hK;have h1:=hw x.right hx.r 1;have h2:=hg (mW x.right v) x.right 1;have h3:=hs (mW x.right v) x.right 1;simp only [vcL,vcE] at h1 h2 h3;simp [bxA,cellsA,vN] at ih;simp at h1 h2 h3;simp [kU,bxA,cellsA,vN,Fj,rP,e0,h1,h2,h3,D8,w1,w2,ih]
def vkE (n:Nat) (lv:AV) (len i:Int):Env:=
 [(2,.bx [.ns,.ns,.ns,.ns]),(3,.v (.i .i64 0)),(7,.v (.mp n)),(8,.v (.mp (n+1))),(9,.v (.mp (n+2))),(10,.v (.mp (n+3))),(11,.v (.pt (n+5) 0)),(44,.v lv),(45,.v (.i .i64 len)),(46,.v (.i .i64 i))]
theorem adO (s:St) (x:Ax) (hx:x.roles.length≤1000) (lv:AV) (len i:Int) (cx:Ctx) (hl:cx.lim≤s.length) (hb:cx.base≤s.length):
  ∀(rest:List Rl) (k:Nat) (v:V4) (r:St),x.roles.drop k=rest→
  ∃j:Int,gQ (aB P0.glob (aj P0) cx false nI) [2,3,7,8,9,10,11,13,44,45,46,76,77,78]
   [(2,.bx [.ns,.ns,.ns,.ns]),(3,.v (.i .i64 0)),(7,.v (.mp s.length)),(8,.v (.mp (s.length+1))),(9,.v (.mp (s.length+2))),(10,.v (.mp (s.length+3))),(11,.v (.pt (s.length+5) 0)),(13,bxA x),(44,.v lv),(45,.v (.i .i64 len)),(46,.v (.i .i64 i)),(76,.v (slf x.z (x.roles.map .s))),(77,.v (.i .i64 x.roles.length)),(78,.v (.i .i64 k))] (vcH s v r)=
   .exit 8 [(2,.bx [.ns,.ns,.ns,.ns]),(3,.v (.i .i64 0)),(7,.v (.mp s.length)),(8,.v (.mp (s.length+1))),(9,.v (.mp (s.length+2))),(10,.v (.mp (s.length+3))),(11,.v (.pt (s.length+5) 0)),(13,bxA x),(44,.v lv),(45,.v (.i .i64 len)),(46,.v (.i .i64 i)),(76,.v (slf x.z (x.roles.map .s))),(77,.v (.i .i64 x.roles.length)),(78,.v (.i .i64 j)),(79,.v (.b false))]
    (vcH s { v with r:=Ey v.r rest } r)
 | [],k,v,r,h=>by
  have h1:¬k<x.roles.length:=Nat.not_lt.2 (drop_nil h);refine ⟨k,ak fun K hK=>?_⟩;simp [nI,h1,Ey,bxA,cellsA]
 | p::rest,k,v,r,h=>by
  obtain ⟨g1,g2,g3,g4⟩:=drop_cons h;have g5:=g4 g3;have hwi:=wI (i:=k) (by omega);have l1:cx.lim≤s.length+1:=by omega
  obtain ⟨j,ih⟩:=adO s x hx lv len i cx hl hb rest (k+1) { v with r:=qO v.r p } r g2;refine ⟨j,ak fun K hK=>?_⟩;rw [←hK,show ((k+1:Nat):Int)=(k:Int)+1 from rfl] at ih;clear hK g4;simp only [Ey,bxA,cellsA] at ih ⊢;rw [←ih];simp [nI,g3,g5,hwi,l1,tH,uy]
theorem adP (z:Bool) (l:List Ax) (hl:l.length≤1000) (hx:∀x∈l,x.Few) (s:St) (cx:Ctx) (hl0:cx.lim≤s.length) (hb:cx.base≤s.length):
  ∀(rest:List Ax) (i:Nat) (v:V4) (r:St),l.drop i=rest→
  ∃(j:Int) (r':St),gQ (aB P0.glob (aj P0) cx false nJ) [2,3,7,8,9,10,11,44,45,46] (vkE s.length (slf z (l.map cu)) l.length i) (vcH s v r)=
    .exit 2 (vkE s.length (slf z (l.map cu)) l.length j++[(47,.v (.b false))]) (vcH s (mr rest v) r')
 | [],i,v,r,h=>by
  have h1:¬i<l.length:=Nat.not_lt.2 (drop_nil h);refine ⟨i,r,ak fun K hK=>?_⟩;simp [nJ,h1,mr,vkE]
 | x::rest,i,v,r,h=>by
  obtain ⟨g1,g2,g3,g4⟩:=drop_cons h;have g5:=g4 g3;have hwi:=wI (i:=i) (by omega);have l1:cx.lim≤s.length+1:=by omega
  have l3:cx.lim≤s.length+3:=by omega
  have hxf:=hx x (by rw [←g5];exact List.getElem_mem g3);obtain ⟨j2,r2,e2⟩:=Zd s x hxf (slf z (l.map cu)) l.length i cx hl0 hb 2 0 v r (by omega);obtain ⟨j4,e4⟩:=adO s x (by have:=hxf.roles;omega) (slf z (l.map cu)) l.length i cx hl0 hb x.roles 0 (mW x.right (mW x.left v)) r2 rfl;obtain ⟨j,r',ih⟩:=adP z l hl hx s cx hl0 hb rest (i+1) (Hf x v) r2 g2;refine ⟨j,r',ak fun K hK=>?_⟩;rw [←hK,show ((i+1:Nat):Int)=(i:Int)+1 from rfl] at ih;clear hK g4 hx;simp only [List.drop_zero,vN,Int.ofNat_zero,bxA,cellsA] at e2 e4;simp only [mr];rw [←ih]
  try simp at e2
  try simp at e4
  simp [nJ,vkE,show List.range 2=[0,1] from rfl,g3,g5,hwi,e2,e4,l1,l3,tH,uy,Hf]
theorem adQ (z:Bool) (l:List Ax) (hl:l.length≤1000) (hx:∀x∈l,x.Few) (h0:yx l=0) (s:St) (cx:Ctx):
  ∀(rest:List Ax) (i:Nat),l.drop i=rest→
  ∃j:Int,gQ (aB P0.glob (aj P0) cx false iC) [0,2,3,21,22,23]
   [(0,.v (slf z (l.map cu))),(2,.bx [.ns,.ns,.ns,.ns]),(3,.v (.i .i64 0)),(21,.v (slf z (l.map cu))),(22,.v (.i .i64 l.length)),(23,.v (.i .i64 i))] s=
   .exit 0 [(0,.v (slf z (l.map cu))),(2,.bx [.ns,.ns,.ns,.ns]),(3,.v (.i .i64 0)),(21,.v (slf z (l.map cu))),(22,.v (.i .i64 l.length)),(23,.v (.i .i64 j)),(24,.v (.b false))] s
 | [],i,h=>by
  have h1:¬i<l.length:=Nat.not_lt.2 (drop_nil h);refine ⟨i,ak fun K hK=>?_⟩;simp [iC,h1]
 | x::rest,i,h=>by
  obtain ⟨g1,g2,g3,g4⟩:=drop_cons h;have g5:=g4 g3;have hwi:=wI (i:=i) (by omega);have hm:x∈l:=by rw [←g5];exact List.getElem_mem g3
  have e1:=Bd x (hx x hm);have hc:=wz h0 x hm;rw [hc] at e1;obtain ⟨j,ih⟩:=adQ z l hl hx h0 s cx rest (i+1) g2;refine ⟨j,ak fun K hK=>?_⟩;rw [←hK,show ((i+1:Nat):Int)=(i:Int)+1 from rfl] at ih;clear hK g4 hx;rw [←ih];simp [iC,g3,g5,hwi,e1]
theorem ahh {s r:St} {v:V4}:(vcH s v r).take s.length=s:=by simp [vcH]
theorem aa6 (n:Nat) (K:List Rl):(slS K).under n=true:=by
 cases K with
 | nil=>simp [slS,AV.under]
 | cons a K=>simp [slS,AV.under,bW,NM]
theorem aa7 (K:List Rl):(slS K).plain=slS K:=by cases K<;>rfl
theorem aa8 (K:List Rl):(slS K).cells=[slS K]:=by cases K<;>rfl
theorem YL (K:List Rl):(slS K).plain1=slS K:=by cases K<;>rfl
theorem afA (K:List Rl):(slS K).one=true:=by cases K<;>rfl
def vA (l:List Ax):List Rl:=vY (mr l V4.nil).c
def vR (l:List Ax):List Rl:=vY (Ic (mr l V4.nil).r [])
def vF (l:List Ax):List Rl:=vY (mr l V4.nil).f
def vI (l:List Ax):List Rl:=vY (Ic (mr l V4.nil).i [])
theorem Ii (z:Bool) (l:List Ax) (hl:l.length≤100) (hx:∀x∈l,x.Few) (h0:yx l=0) (s:St) (cx:Ctx):
  aj P0 (.fn (.func lU) [] []) [slf z (l.map cu)] s cx=.ret (.tu [.ag [slS (vA l),slS (vR l),slS (vF l),slS (vI l)],.i .i64 0]) s:=by
 have hv:=TY hx VB.nil;rw [Nat.zero_add] at hv;have hv:=hv.le (show 1000 * l.length≤1000000 by omega);unfold vA vR vF vI;generalize hV:mr l V4.nil=V at hv;have hR:=hv.r.del [];have hI:=hv.i.del [];refine zQ (by simp) ?_;obtain ⟨j0,e0⟩:=adQ z l (by omega) hx h0 s ⟨s.length,s.length⟩ l 0 rfl;obtain ⟨j1,r1,e1⟩:=adP z l (by omega) hx s ⟨s.length,s.length⟩ (Nat.le_refl _) (Nat.le_refl _) l 0 V4.nil [] rfl;rw [hV] at e1;rw [show vcH s V4.nil []=s++[.map [],.map [],.map [],.map [],.map [(.i .i64 3,.mp s.length),(.i .i64 6,.mp (s.length+1)),(.i .i64 7,.mp (s.length+2)),(.i .i64 4,.mp (s.length+3))],.cells [.mp (s.length+4)]] from rfl] at e1;simp [vkE] at e0 e1;have k0:=G9 hv.c (by omega) (vcH s { V with r:=Ic V.r [],i:=Ic V.i [] } r1) s.length (by simp);have k1:=G9 hR (by omega) (vcH s { V with r:=Ic V.r [],i:=Ic V.i [] } r1) (s.length+1) (by simp);have k2:=G9 hv.f (by omega) (vcH s { V with r:=Ic V.r [],i:=Ic V.i [] } r1) (s.length+2) (by simp);have k3:=G9 hI (by omega) (vcH s { V with r:=Ic V.r [],i:=Ic V.i [] } r1) (s.length+3) (by simp);clear hv hR hI hV hx;simp [af,ny,e0,e1,agy,k0,k1,k2,k3,UB,uy,Dn,jC,aa7,YL,aa8,show ¬s.length+6+r1.length=s.length by omega,afA,aa6,dQ,frz,AV.under,bW,ahh]
end Go.Ai.Z
namespace Go.Ai.Z
structure Ax.Good (x:Ax):Prop where
 k:x.kind=1∨x.kind=2∨x.kind=3∨x.kind=4∨x.kind=5∨x.kind=6∨x.kind=7∨x.kind=8∨x.kind=9
 l:x.kind=1∨x.kind=2∨x.kind=3→iG x.left=0
 r:x.kind=1∨x.kind=2∨x.kind=3∨x.kind=4∨x.kind=8→iG x.right=0
 r5:x.kind=5→x.roles.length=1
 r6:x.kind=6→2≤x.roles.length∧x.roles.length≤4
theorem ZU {c:C} (h:uP c=0):iG c=0:=by
 unfold uP at h;split at h
 ·cases h
 ·exact h
theorem good {x:Ax} (h:iR x=0):x.Good:=by
 unfold iR at h
 split at h
 ·cases h
 split at h
 ·cases h
 rename_i hs hn;have hs:oV x=true:=by simpa using hs
 unfold Uf at h
 split at h
 ·rename_i q;exact absurd h q.2
 split at h
 ·rename_i q;exact absurd h q.2
 rename_i ql qr;have hk:1≤x.kind∧x.kind≤9:=by simp [oV,CJ] at hs;omega
 have hr:(kF x.kind).lo≤x.roles.length∧(x.roles.length:Int)≤(kF x.kind).hi:=by
  simp only [oV,Bool.and_eq_true,decide_eq_true_eq] at hs;exact ⟨hs.1.2,hs.2⟩
 have hk9:x.kind=1∨x.kind=2∨x.kind=3∨x.kind=4∨x.kind=5∨x.kind=6∨x.kind=7∨x.kind=8∨x.kind=9:=by omega
 refine ⟨hk9,fun q=>?_,fun q=>?_,fun q=>?_,fun q=>?_⟩
 ·have hu:(kF x.kind).l=true:=by rcases q with q|q|q<;>rw [q]<;>rfl
  exact ZU (Classical.not_not.1 fun e=>ql ⟨hu,e⟩)
 ·have hu:(kF x.kind).r=true:=by rcases q with q|q|q|q|q<;>rw [q]<;>rfl
  exact ZU (Classical.not_not.1 fun e=>qr ⟨hu,e⟩)
 ·rw [q] at hr;simp [kF] at hr;omega
 ·rw [q] at hr;simp [kF] at hr;omega
end Go.Ai.Z
