/-
 Circles of steps of which one is strict, in plain words.
-/
import Derived.Test.YtcofenimejmoeaaGreatDoorAiRchR1R2R3R4R5
import Derived.Test.YtcofenimejmoeaaGreatDoorAiK8K9K10K11K12
import Derived.Test.YtcofenimejmoeaaGreatDoorAiK1K2K3K4K5K6K7
set_option maxRecDepth 100000
set_option linter.unusedSimpArgs false
set_option linter.unusedVariables false
set_option linter.unusedSectionVars false
namespace Go.Ai.Z
section
variable {α:Type} {E:List (α×α×Bool)}
inductive Wk (E:List (α×α×Bool)):α→List α→α→Bool→Prop where
 | nil (c:α):Wk E c [] c false
 | cons {c s:α} {f:Bool} {t:List α} {r:α} {b:Bool} (he:(c,s,f)∈E) (h:Wk E s t r b):Wk E c (s::t) r (f || b)
theorem Wk.append {c:α} {t:List α} {r:α} {b:Bool} (h:Wk E c t r b) {u:List α} {q:α} {b':Bool} (h':Wk E r u q b'):Wk E c (t++u) q (b || b'):=by
 induction h with
 | nil=>simpa using h'
 | cons he _ ih=>rw [Bool.or_assoc];exact .cons he (ih h')
theorem Wk.one {c s:α} {f:Bool} (h:(c,s,f)∈E):Wk E c [s] s f:=by
 have:=Wk.cons h (.nil s)
 rwa [Bool.or_false] at this
theorem Wk.split {u:List α} {q:α}:∀{t:List α} {c:α} {b:Bool},Wk E c (t++u) q b→∃r b1 b2,Wk E c t r b1∧Wk E r u q b2∧b=(b1 || b2)
 | [],c,b,h=>⟨c,false,b,.nil c,h,by simp⟩
 | s::t,c,b,h=>by
  cases h with
  | cons he h=>
   obtain ⟨r,b1,b2,h1,h2,rfl⟩:=Wk.split (t:=t) h;exact ⟨r,_,b2,.cons he h1,h2,by rw [Bool.or_assoc]⟩
theorem Wk.last {c:α} {t:List α} {x q:α} {b:Bool} (h:Wk E c (t++[x]) q b):q=x:=by
 obtain ⟨r,b1,b2,_,h2,_⟩:=h.split
 cases h2 with
 | cons h3 h4=>cases h4;rfl
theorem Wk.nil_eq {c q:α} {b:Bool} (h:Wk E c [] q b):q=c∧b=false:=by cases h;exact ⟨rfl,rfl⟩
theorem Wk.snoc_inv {c:α} {t:List α} {x q:α} {b:Bool} (h:Wk E c (t++[x]) q b):∃r b1 f,Wk E c t r b1∧(r,x,f)∈E∧b=(b1 || f)∧q=x:=by
 obtain ⟨r,b1,b2,h1,h2,rfl⟩:=h.split
 cases h2 with
 | cons he h4=>cases h4;exact ⟨r,b1,_,h1,he,by simp,rfl⟩
def OQ (E:List (α×α×Bool)) (l:List α):Prop:=∃c t r b f,l=c::t∧Wk E c t r b∧(r,c,f)∈E∧(b || f)=true
theorem abl {p:α} {V:List α} (hV:V≠[]) (h:Wk E p V p true):∃l,OQ E l∧l.length=V.length:=by
 rcases List.eq_nil_or_concat V with rfl|⟨V',x,rfl⟩
 ·exact absurd rfl hV
 ·rw [List.concat_eq_append] at h ⊢;obtain ⟨r,b1,f,h1,h2,h3,rfl⟩:=h.snoc_inv;exact ⟨p::V',⟨p,V',r,b1,f,rfl,h1,h2,h3.symm⟩,by simp⟩
theorem aaU {x:α} {t:List α} (h:x∈t):∃V D,t=(V++[x])++D:=by
 obtain ⟨V,D,rfl⟩:=List.append_of_mem h;exact ⟨V,D,by simp⟩
theorem Yv {r:α}:∀{t:List α} {c:α} {b:Bool},Wk E c t r b→¬(c::t).Nodup→∃U V D p b0 b1 b2,t=U++(V++D)∧V≠[]∧Wk E c U p b0∧Wk E p V p b1∧Wk E p D r b2∧b=(b0 || (b1 || b2))
 | [],c,b,_,hn=>absurd (by simp) hn
 | s::t,c,b,h,hn=>by
  by_cases hc:c∈s::t
  ·obtain ⟨V,D,he⟩:=aaU hc;rw [he] at h;obtain ⟨q,b1,b2,h1,h2,rfl⟩:=h.split;obtain rfl:=h1.last;exact ⟨[],V++[q],D,q,false,b1,b2,by rw [he];rfl,by simp,.nil q,h1,h2,by simp⟩
  ·cases h with
   | cons he h=>
    obtain ⟨U,V,D,p,b0,b1,b2,e,hV,h0,h1,h2,rfl⟩:=Yv h fun hd=>hn (List.nodup_cons.2 ⟨hc,hd⟩);exact ⟨s::U,V,D,p,_,b1,b2,by rw [e];rfl,hV,.cons he h0,h1,h2,by rw [Bool.or_assoc]⟩
theorem Z8 {l:List α} (h:OQ E l) (hn:¬l.Nodup):∃d,OQ E d∧d.length<l.length:=by
 obtain ⟨c,t,r,b,f,rfl,hw,he,hb⟩:=h;obtain ⟨U,V,D,p,b0,b1,b2,rfl,hV,h0,h1,h2,rfl⟩:=Yv hw hn;have hVl:=List.length_pos_iff.2 hV
 cases b1 with
 | true=>
  obtain ⟨d,hd,hl⟩:=abl hV h1;exact ⟨d,hd,by simp;omega⟩
 | false=>
  refine ⟨c::(U++D),⟨c,U++D,r,_,f,rfl,h0.append h2,he, ?_⟩,by simp;omega⟩
  simpa using hb
theorem Wk.mono {E':List (α×α×Bool)} (hE:∀p∈E,p∈E') {c:α} {t:List α} {r:α} {b:Bool} (h:Wk E c t r b):Wk E' c t r b:=by
 induction h with
 | nil c=>exact .nil c
 | cons he _ ih=>exact .cons (hE _ he) ih
theorem OQ.mono {E':List (α×α×Bool)} (hE:∀p∈E,p∈E') {l:List α} (h:OQ E l):OQ E' l:=by
 obtain ⟨c,t,r,b,f,e,h1,h2,h3⟩:=h;exact ⟨c,t,r,b,f,e,h1.mono hE,hE _ h2,h3⟩
theorem Wk.froms {c:α} {t:List α} {r:α} {b:Bool} (h:Wk E c t r b) (hr:r∈E.map (·.1)):∀x∈c::t,x∈E.map (·.1):=by
 induction h with
 | nil c=>intro x hx;simp at hx;subst hx;exact hr
 | @cons c s f t r b he _ ih=>
  intro x hx;rcases List.mem_cons.1 hx with rfl|hx
  ·exact List.mem_map.2 ⟨_,he,rfl⟩
  ·exact ih hr x hx
theorem OQ.froms {l:List α} (h:OQ E l):∀x∈l,x∈E.map (·.1):=by
 obtain ⟨c,t,r,b,f,rfl,h1,h2,h3⟩:=h;exact h1.froms (List.mem_map.2 ⟨_,h2,rfl⟩)
def Lx (lt:α→α→Prop):List α→List α→Prop
 | a::l,b::m=>lt a b∨(a=b∧Lx lt l m)
 | _,_=>False
def Sl (lt:α→α→Prop) (l m:List α):Prop:=l.length<m.length∨(l.length=m.length∧Lx lt l m)
structure Lin (lt:α→α→Prop):Prop where
 irr:∀a,¬lt a a
 tr:∀a b c,lt a b→lt b c→lt a c
 tot:∀a b,lt a b∨a=b∨lt b a
variable {lt:α→α→Prop}
theorem Lx.irr (hl:Lin lt):∀{a:List α},¬Lx lt a a
 | [],h=>h
 | x::a,h=>by
  rcases h with h|⟨_,h⟩
  ·exact hl.irr _ h
  ·exact Lx.irr hl h
theorem Lx.tr (hl:Lin lt):∀{a b c:List α},Lx lt a b→Lx lt b c→Lx lt a c
 | [],_,_,h,_=>h.elim
 | _::_,[],_,h,_=>h.elim
 | _::_,_::_,[],_,h=>h.elim
 | x::a,y::b,z::c,h,h'=>by
  rcases h with h|⟨rfl,h⟩
  ·rcases h' with h' | ⟨rfl,h'⟩
   ·exact .inl (hl.tr _ _ _ h h')
   ·exact .inl h
  ·rcases h' with h' | ⟨rfl,h'⟩
   ·exact .inl h'
   ·exact .inr ⟨rfl,Lx.tr hl h h'⟩
theorem Lx.tot (hl:Lin lt):∀{a b:List α},a.length=b.length→Lx lt a b∨a=b∨Lx lt b a
 | [],[],_=>.inr (.inl rfl)
 | [],_::_,h=>by simp at h
 | _::_,[],h=>by simp at h
 | x::a,y::b,h=>by
  rcases hl.tot x y with hh|rfl|hh
  ·exact .inl (.inl hh)
  ·rcases Lx.tot hl (a:=a) (b:=b) (by simpa using h) with h|rfl|h
   ·exact .inl (.inr ⟨rfl,h⟩)
   ·exact .inr (.inl rfl)
   ·exact .inr (.inr (.inr ⟨rfl,h⟩))
  ·exact .inr (.inr (.inl hh))
theorem Lx.app_left:∀{a b:List α},Lx lt a b→∀u v:List α,Lx lt (a++u) (b++v)
 | [],_,h,_,_=>h.elim
 | _::_,[],h,_,_=>h.elim
 | _::_,_::_,h,u,v=>by
  rcases h with h|⟨rfl,h⟩
  ·exact .inl h
  ·exact .inr ⟨rfl,Lx.app_left h u v⟩
theorem Sl.irr (hl:Lin lt) {a:List α} (h:Sl lt a a):False:=by
 rcases h with h|⟨_,h⟩
 ·omega
 ·exact Lx.irr hl h
theorem Sl.tr (hl:Lin lt) {a b c:List α} (h:Sl lt a b) (h':Sl lt b c):Sl lt a c:=by
 rcases h with h|⟨e,h⟩<;>rcases h' with h' | ⟨e',h'⟩
 ·exact .inl (by omega)
 ·exact .inl (by omega)
 ·exact .inl (by omega)
 ·exact .inr ⟨by omega,h.tr hl h'⟩
theorem Sl.tot (hl:Lin lt) (a b:List α):Sl lt a b∨a=b∨Sl lt b a:=by
 rcases Nat.lt_trichotomy a.length b.length with h|h|h
 ·exact .inl (.inl h)
 ·rcases Lx.tot hl h with h' | h' | h'
  ·exact .inl (.inr ⟨h,h'⟩)
  ·exact .inr (.inl h')
  ·exact .inr (.inr (.inr ⟨h.symm,h'⟩))
 ·exact .inr (.inr (.inl h))
theorem Sl.app {a b:List α} (h:Sl lt a b) {u v:List α} (hu:u.length=v.length):Sl lt (a++u) (b++v):=by
 rcases h with h|⟨e,h⟩
 ·exact .inl (by simp;omega)
 ·exact .inr ⟨by simp;omega,h.app_left u v⟩
def aaz (lt:α→α→Prop) (E:List (α×α×Bool)) (l:List α):Prop:=OQ E l∧∀d,OQ E d→¬Sl lt d l
theorem aaz.nodup {l:List α} (h:aaz lt E l):l.Nodup:=by
 by_cases hn:l.Nodup
 ·exact hn
 ·obtain ⟨d,h1,h2⟩:=Z8 h.1 hn;exact absurd (.inl h2) (h.2 d h1)
theorem aaz.congr {E':List (α×α×Bool)} (hE:∀p,p∈E ↔ p∈E') {l:List α} (h:aaz lt E l):aaz lt E' l:=
 ⟨h.1.mono fun p hp=>(hE p).1 hp,fun d hd=>h.2 d (hd.mono fun p hp=>(hE p).2 hp)⟩
end
end Go.Ai.Z
namespace Go.Ai.Z
abbrev RE:=List (Rl×Rl×Bool)
abbrev PE:=List Rl×Bool
abbrev LxR:List Rl→List Rl→Prop:=Lx (fun a b:Rl=>a<b)
def acP (p:PE):Rl:=p.1.getLastD []
def ae7 (y x:PE):Bool:=decide (y.2=x.2) && decide (acP y=acP x)
def Snd (E:RE) (n:Nat) (c:Rl) (p:PE):Prop:=∃t,p.1=c::t∧t.length+1=n∧Wk E c t (acP p) p.2
theorem Snd.len {E:RE} {n:Nat} {c:Rl} {p:PE} (h:Snd E n c p):p.1.length=n:=by obtain ⟨t,e,hl,_⟩:=h;rw [e];simp [hl]
def Good (E:RE) (n:Nat) (c:Rl) (p:PE):Prop:=Snd E n c p∧∀q,Snd E n c q→ae7 q p=true→¬LxR q.1 p.1
end Go.Ai.Z
namespace Go.Ai.Z
end Go.Ai.Z
namespace Go.Ai.Z
def rX (V:List Rl) (k:Rl):List Rl:=if k∈V then V else V++[k]
theorem Gw {k:Rl}:∀{V:List Rl},k∈V→Af 1 (.s k) (.b true) (qH V)=some (qH V)
 | [],h=>by cases h
 | x::V,h=>by
  by_cases hk:k=x
  ·subst hk;simp [qH,Af,jQ]
  ·have h':k∈V:=by
    rcases List.mem_cons.1 h with h|h
    ·exact absurd h hk
    ·exact h
   have ih:=Gw h';simp only [qH] at ih ⊢;simp [Af,jQ,hk,ih]
theorem Dy (k:Rl) (V:List Rl):Af 1 (.s k) (.b true) (qH V)=some (qH (rX V k)):=by
 unfold rX;split
 ·rename_i h;exact Gw h
 ·rename_i h;exact Pm h
theorem Gy {V:List Rl} {k x:Rl}:x∈rX V k ↔ x=k∨x∈V:=by
 unfold rX;split
 ·rename_i h
  exact ⟨.inr,fun hh=>by rcases hh with rfl|hh<;>assumption⟩
 ·simp [or_comm]
theorem UU {V:List Rl} (hV:V.Nodup) (k:Rl):(rX V k).Nodup:=by
 unfold rX;split
 ·exact hV
 ·rename_i h;exact List.nodup_append.2 ⟨hV,by simp,fun a ha b hb=>by simp at hb;subst hb;exact fun e=>h (e ▸ ha)⟩
theorem aar (V:List Rl) (k:Rl):(rX V k).length≤V.length+1:=by
 unfold rX
 split<;>simp
structure V4 where
 c:List Rl
 r:List Rl
 f:List Rl
 i:List Rl
def V4.ob (v:V4):St:=[.map (qH v.c),.map (qH v.r),.map (qH v.f),.map (qH v.i)]
def V4.nil:V4:=⟨[],[],[],[]⟩
def V4.add (v:V4) (x:C):V4:=
 if x.kind=3 then { v with c:=rX v.c x.name } else if x.kind=6 then { v with r:=rX v.r x.name }
 else if x.kind=7 then { v with f:=rX v.f x.name } else if x.kind=4 then { v with i:=rX v.i x.name } else v
mutual
def agW:C→V4→V4
 | .mk k n l h z ps,v=>adZ ps (v.add (.mk k n l h z ps))
def adZ:List C→V4→V4
 | [],v=>v
 | p::r,v=>adZ r (agW p v)
end
structure LB (n:Nat) (V:List Rl):Prop where
 nd:V.Nodup
 len:V.length≤n
 nm:∀x∈V,x.length≤7000
theorem LB.add {n:Nat} {V:List Rl} (h:LB n V) {k:Rl} (hk:k.length≤7000):LB (n+1) (rX V k):=
 ⟨UU h.nd k,by have:=aar V k;have:=h.len;omega,fun x hx=>by
  rcases Gy.1 hx with rfl|hx
  ·exact hk
  ·exact h.nm x hx⟩
theorem LB.le {n m:Nat} {V:List Rl} (h:LB n V) (hm:n≤m):LB m V:=⟨h.nd,Nat.le_trans h.len hm,h.nm⟩
structure VB (n:Nat) (v:V4):Prop where
 c:LB n v.c
 r:LB n v.r
 f:LB n v.f
 i:LB n v.i
theorem VB.le {n m:Nat} {v:V4} (h:VB n v) (hm:n≤m):VB m v:=⟨h.c.le hm,h.r.le hm,h.f.le hm,h.i.le hm⟩
theorem VB.add {n:Nat} {v:V4} (h:VB n v) {x:C} (hx:x.name.length≤7000):VB (n+1) (v.add x):=by
 have h':=h.le (Nat.le_succ n);unfold V4.add;split
 ·exact ⟨h.c.add hx,h'.r,h'.f,h'.i⟩
 ·split
  ·exact ⟨h'.c,h.r.add hx,h'.f,h'.i⟩
  ·split
   ·exact ⟨h'.c,h'.r,h.f.add hx,h'.i⟩
   ·split
    ·exact ⟨h'.c,h'.r,h'.f,h.i.add hx⟩
    ·exact h'
def adn (V:List Rl):List Rl→List Rl
 | []=>V
 | r::rs=>adn (rX V r) rs
theorem LB.adn {rs:List Rl}:∀{n:Nat} {V:List Rl},LB n V→(∀r∈rs,r.length≤7000)→LB (n+rs.length) (adn V rs):=by
 induction rs with
 | nil=>intro n V h _;exact h
 | cons r rs ih=>
  intro n V h hr
  have:=ih (h.add (hr r (by simp))) fun x hx=>hr x (by simp [hx])
  simp only [List.length_cons];rw [show n+(rs.length+1)=n+1+rs.length by omega];exact this
theorem VB.nil:VB 0 V4.nil:=⟨⟨by simp [V4.nil],by simp [V4.nil],by simp [V4.nil]⟩,⟨by simp [V4.nil],by simp [V4.nil],by simp [V4.nil]⟩,⟨by simp [V4.nil],by simp [V4.nil],by simp [V4.nil]⟩,⟨by simp [V4.nil],by simp [V4.nil],by simp [V4.nil]⟩⟩
end Go.Ai.Z
namespace Go.Ai.Z
def ofE (n:Nat):List (AV×AV):=[(.i .i64 3,.mp n),(.i .i64 6,.mp (n+1)),(.i .i64 7,.mp (n+2)),(.i .i64 4,.mp (n+3))]
def vcH (s:St) (v:V4) (r:St):St:=s++(.map (qH v.c)::.map (qH v.r)::.map (qH v.f)::.map (qH v.i)::.map (ofE s.length)::.cells [.mp (s.length+4)]::r)
section
variable {s r q:St} {v:V4}
@[simp] theorem ahJ:(vcH s v r)[s.length]?=some (.map (qH v.c)):=by simp [vcH]
@[simp] theorem ahI:(vcH s v r)[s.length+1]?=some (.map (qH v.r)):=by simp [vcH]
@[simp] theorem ahH:(vcH s v r)[s.length+2]?=some (.map (qH v.f)):=by simp [vcH]
@[simp] theorem ahG:(vcH s v r)[s.length+3]?=some (.map (qH v.i)):=by simp [vcH]
@[simp] theorem ahF:(vcH s v r)[s.length+4]?=some (.map (ofE s.length)):=by simp [vcH]
@[simp] theorem ahE:(vcH s v r)[s.length+5]?=some (.cells [.mp (s.length+4)]):=by simp [vcH]
@[simp] theorem af7:(vcH s v r).length=s.length+6+r.length:=by simp [vcH];omega
@[simp] theorem af8:vcH s v r++q=vcH s v (r++q):=by simp [vcH]
@[simp] theorem ad4 {V:List Rl}:(vcH s v r).set s.length (.map (qH V))=vcH s { v with c:=V } r:=by simp [vcH]
@[simp] theorem ad3 {V:List Rl}:(vcH s v r).set (s.length+1) (.map (qH V))=vcH s { v with r:=V } r:=by
 unfold vcH;rw [List.set_append,if_neg (by omega)];simp
@[simp] theorem ad2 {V:List Rl}:(vcH s v r).set (s.length+2) (.map (qH V))=vcH s { v with f:=V } r:=by
 unfold vcH;rw [List.set_append,if_neg (by omega)];simp
@[simp] theorem ad1 {V:List Rl}:(vcH s v r).set (s.length+3) (.map (qH V))=vcH s { v with i:=V } r:=by
 unfold vcH;rw [List.set_append,if_neg (by omega)];simp
end
end Go.Ai.Z
namespace Go.Ai.Z
end Go.Ai.Z
namespace Go.Ai.Z
structure Ax.Good (x:Ax):Prop where
 k:x.kind=1∨x.kind=2∨x.kind=3∨x.kind=4∨x.kind=5∨x.kind=6∨x.kind=7∨x.kind=8∨x.kind=9
 l:x.kind=1∨x.kind=2∨x.kind=3→rM x.left=0
 r:x.kind=1∨x.kind=2∨x.kind=3∨x.kind=4∨x.kind=8→rM x.right=0
 r5:x.kind=5→x.roles.length=1
 r6:x.kind=6→2≤x.roles.length∧x.roles.length≤4
theorem VF {c:C} (h:qQ c=0):rM c=0:=by
 unfold qQ at h;split at h
 ·cases h
 ·exact h
theorem good {x:Ax} (h:pq x=0):x.Good:=by
 unfold pq at h
 split at h
 ·cases h
 split at h
 ·cases h
 rename_i hs hn;have hs:uq x=true:=by simpa using hs
 unfold Rw at h
 split at h
 ·rename_i q;exact absurd h q.2
 split at h
 ·rename_i q;exact absurd h q.2
 rename_i ql qr;have hk:1≤x.kind∧x.kind≤9:=by simp [uq,Fh] at hs;omega
 have hr:(oJ x.kind).lo≤x.roles.length∧(x.roles.length:Int)≤(oJ x.kind).hi:=by
  simp only [uq,Bool.and_eq_true,decide_eq_true_eq] at hs;exact ⟨hs.1.2,hs.2⟩
 have hk9:x.kind=1∨x.kind=2∨x.kind=3∨x.kind=4∨x.kind=5∨x.kind=6∨x.kind=7∨x.kind=8∨x.kind=9:=by omega
 refine ⟨hk9,fun q=>?_,fun q=>?_,fun q=>?_,fun q=>?_⟩
 ·have hu:(oJ x.kind).l=true:=by rcases q with q|q|q<;>rw [q]<;>rfl
  exact VF (Classical.not_not.1 fun e=>ql ⟨hu,e⟩)
 ·have hu:(oJ x.kind).r=true:=by rcases q with q|q|q|q|q<;>rw [q]<;>rfl
  exact VF (Classical.not_not.1 fun e=>qr ⟨hu,e⟩)
 ·rw [q] at hr;simp [oJ] at hr;omega
 ·rw [q] at hr;simp [oJ] at hr;omega
end Go.Ai.Z
