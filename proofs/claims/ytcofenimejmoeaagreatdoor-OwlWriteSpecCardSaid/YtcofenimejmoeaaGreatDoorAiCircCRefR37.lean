/-
 Circles of steps of which one is strict, in plain words.
-/
import Derived.Test.YtcofenimejmoeaaGreatDoorAiRchR1R2
import Derived.Test.YtcofenimejmoeaaGreatDoorAiR3R4R5
set_option maxRecDepth 100000
set_option linter.unusedSimpArgs false
set_option linter.unusedVariables false
set_option linter.unusedSectionVars false
namespace Go.Ai.Z
section
variable {α:Type} {E:List (α×α×Bool)}
inductive Wk (E:List (α×α×Bool)):α→List α→α→Bool→Prop where
 | nil (c:α):Wk E c [] c false
 | cons {c s:α} {f:Bool} {t:List α} {r:α} {b:Bool} (he:(c,s,f)∈E) (h:Wk E s t r b):Wk E c (s::t) r (f || b)
theorem Wk.append {c:α} {t:List α} {r:α} {b:Bool} (h:Wk E c t r b) {u:List α} {q:α} {b':Bool} (h':Wk E r u q b'):Wk E c (t++u) q (b || b'):=by
 induction h with
 | nil=>simpa using h'
 | cons he _ ih=>rw [Bool.or_assoc];exact .cons he (ih h')
theorem Wk.one {c s:α} {f:Bool} (h:(c,s,f)∈E):Wk E c [s] s f:=by
 have:=Wk.cons h (.nil s)
 rwa [Bool.or_false] at this
theorem Wk.split {u:List α} {q:α}:∀{t:List α} {c:α} {b:Bool},Wk E c (t++u) q b→∃r b1 b2,Wk E c t r b1∧Wk E r u q b2∧b=(b1 || b2)
 | [],c,b,h=>⟨c,false,b,.nil c,h,by simp⟩
 | s::t,c,b,h=>by
  cases h with
  | cons he h=>
   obtain ⟨r,b1,b2,h1,h2,rfl⟩:=Wk.split (t:=t) h
   exact ⟨r,_,b2,.cons he h1,h2,by rw [Bool.or_assoc]⟩
theorem Wk.last {c:α} {t:List α} {x q:α} {b:Bool} (h:Wk E c (t++[x]) q b):q=x:=by
 obtain ⟨r,b1,b2,_,h2,_⟩:=h.split
 cases h2 with
 | cons h3 h4=>cases h4;rfl
theorem Wk.nil_eq {c q:α} {b:Bool} (h:Wk E c [] q b):q=c∧b=false:=by cases h;exact ⟨rfl,rfl⟩
theorem Wk.snoc_inv {c:α} {t:List α} {x q:α} {b:Bool} (h:Wk E c (t++[x]) q b):∃r b1 f,Wk E c t r b1∧(r,x,f)∈E∧b=(b1 || f)∧q=x:=by
 obtain ⟨r,b1,b2,h1,h2,rfl⟩:=h.split
 cases h2 with
 | cons he h4=>cases h4;exact ⟨r,b1,_,h1,he,by simp,rfl⟩
def RI (E:List (α×α×Bool)) (l:List α):Prop:=∃c t r b f,l=c::t∧Wk E c t r b∧(r,c,f)∈E∧(b || f)=true
theorem acw {p:α} {V:List α} (hV:V≠[]) (h:Wk E p V p true):∃l,RI E l∧l.length=V.length:=by
 rcases List.eq_nil_or_concat V with rfl|⟨V',x,rfl⟩
 ·exact absurd rfl hV
 ·rw [List.concat_eq_append] at h ⊢
  obtain ⟨r,b1,f,h1,h2,h3,rfl⟩:=h.snoc_inv
  exact ⟨p::V',⟨p,V',r,b1,f,rfl,h1,h2,h3.symm⟩,by simp⟩
theorem ab6 {x:α} {t:List α} (h:x∈t):∃V D,t=(V++[x])++D:=by
 obtain ⟨V,D,rfl⟩:=List.append_of_mem h
 exact ⟨V,D,by simp⟩
theorem ZK {r:α}:∀{t:List α} {c:α} {b:Bool},Wk E c t r b→¬(c::t).Nodup→∃U V D p b0 b1 b2,t=U++(V++D)∧V≠[]∧Wk E c U p b0∧Wk E p V p b1∧Wk E p D r b2∧b=(b0 || (b1 || b2))
 | [],c,b,_,hn=>absurd (by simp) hn
 | s::t,c,b,h,hn=>by
  by_cases hc:c∈s::t
  ·obtain ⟨V,D,he⟩:=ab6 hc
   rw [he] at h
   obtain ⟨q,b1,b2,h1,h2,rfl⟩:=h.split
   obtain rfl:=h1.last
   exact ⟨[],V++[q],D,q,false,b1,b2,by rw [he];rfl,by simp,.nil q,h1,h2,by simp⟩
  ·cases h with
   | cons he h=>
    obtain ⟨U,V,D,p,b0,b1,b2,e,hV,h0,h1,h2,rfl⟩:=ZK h fun hd=>hn (List.nodup_cons.2 ⟨hc,hd⟩)
    exact ⟨s::U,V,D,p,_,b1,b2,by rw [e];rfl,hV,.cons he h0,h1,h2,by rw [Bool.or_assoc]⟩
theorem aa0 {l:List α} (h:RI E l) (hn:¬l.Nodup):∃d,RI E d∧d.length<l.length:=by
 obtain ⟨c,t,r,b,f,rfl,hw,he,hb⟩:=h
 obtain ⟨U,V,D,p,b0,b1,b2,rfl,hV,h0,h1,h2,rfl⟩:=ZK hw hn
 have hVl:=List.length_pos_iff.2 hV
 cases b1 with
 | true=>
  obtain ⟨d,hd,hl⟩:=acw hV h1
  exact ⟨d,hd,by simp;omega⟩
 | false=>
  refine ⟨c::(U++D),⟨c,U++D,r,_,f,rfl,h0.append h2,he, ?_⟩,by simp;omega⟩
  simpa using hb
theorem Wk.mono {E':List (α×α×Bool)} (hE:∀p∈E,p∈E') {c:α} {t:List α} {r:α} {b:Bool} (h:Wk E c t r b):Wk E' c t r b:=by
 induction h with
 | nil c=>exact .nil c
 | cons he _ ih=>exact .cons (hE _ he) ih
theorem RI.mono {E':List (α×α×Bool)} (hE:∀p∈E,p∈E') {l:List α} (h:RI E l):RI E' l:=by
 obtain ⟨c,t,r,b,f,e,h1,h2,h3⟩:=h
 exact ⟨c,t,r,b,f,e,h1.mono hE,hE _ h2,h3⟩
theorem Wk.froms {c:α} {t:List α} {r:α} {b:Bool} (h:Wk E c t r b) (hr:r∈E.map (·.1)):∀x∈c::t,x∈E.map (·.1):=by
 induction h with
 | nil c=>intro x hx;simp at hx;subst hx;exact hr
 | @cons c s f t r b he _ ih=>
  intro x hx
  rcases List.mem_cons.1 hx with rfl|hx
  ·exact List.mem_map.2 ⟨_,he,rfl⟩
  ·exact ih hr x hx
theorem RI.froms {l:List α} (h:RI E l):∀x∈l,x∈E.map (·.1):=by
 obtain ⟨c,t,r,b,f,rfl,h1,h2,h3⟩:=h
 exact h1.froms (List.mem_map.2 ⟨_,h2,rfl⟩)
def Lx (lt:α→α→Prop):List α→List α→Prop
 | a::l,b::m=>lt a b∨(a=b∧Lx lt l m)
 | _,_=>False
def Sl (lt:α→α→Prop) (l m:List α):Prop:=l.length<m.length∨(l.length=m.length∧Lx lt l m)
structure Lin (lt:α→α→Prop):Prop where
 irr:∀a,¬lt a a
 tr:∀a b c,lt a b→lt b c→lt a c
 tot:∀a b,lt a b∨a=b∨lt b a
variable {lt:α→α→Prop}
theorem Lx.irr (hl:Lin lt):∀{a:List α},¬Lx lt a a
 | [],h=>h
 | x::a,h=>by
  rcases h with h|⟨_,h⟩
  ·exact hl.irr _ h
  ·exact Lx.irr hl h
theorem Lx.tr (hl:Lin lt):∀{a b c:List α},Lx lt a b→Lx lt b c→Lx lt a c
 | [],_,_,h,_=>h.elim
 | _::_,[],_,h,_=>h.elim
 | _::_,_::_,[],_,h=>h.elim
 | x::a,y::b,z::c,h,h'=>by
  rcases h with h|⟨rfl,h⟩
  ·rcases h' with h' | ⟨rfl,h'⟩
   ·exact .inl (hl.tr _ _ _ h h')
   ·exact .inl h
  ·rcases h' with h' | ⟨rfl,h'⟩
   ·exact .inl h'
   ·exact .inr ⟨rfl,Lx.tr hl h h'⟩
theorem Lx.tot (hl:Lin lt):∀{a b:List α},a.length=b.length→Lx lt a b∨a=b∨Lx lt b a
 | [],[],_=>.inr (.inl rfl)
 | [],_::_,h=>by simp at h
 | _::_,[],h=>by simp at h
 | x::a,y::b,h=>by
  rcases hl.tot x y with hh|rfl|hh
  ·exact .inl (.inl hh)
  ·rcases Lx.tot hl (a:=a) (b:=b) (by simpa using h) with h|rfl|h
   ·exact .inl (.inr ⟨rfl,h⟩)
   ·exact .inr (.inl rfl)
   ·exact .inr (.inr (.inr ⟨rfl,h⟩))
  ·exact .inr (.inr (.inl hh))
theorem Lx.app_left:∀{a b:List α},Lx lt a b→∀u v:List α,Lx lt (a++u) (b++v)
 | [],_,h,_,_=>h.elim
 | _::_,[],h,_,_=>h.elim
 | _::_,_::_,h,u,v=>by
  rcases h with h|⟨rfl,h⟩
  ·exact .inl h
  ·exact .inr ⟨rfl,Lx.app_left h u v⟩
theorem Sl.irr (hl:Lin lt) {a:List α} (h:Sl lt a a):False:=by
 rcases h with h|⟨_,h⟩
 ·omega
 ·exact Lx.irr hl h
theorem Sl.tr (hl:Lin lt) {a b c:List α} (h:Sl lt a b) (h':Sl lt b c):Sl lt a c:=by
 rcases h with h|⟨e,h⟩<;>rcases h' with h' | ⟨e',h'⟩
 ·exact .inl (by omega)
 ·exact .inl (by omega)
 ·exact .inl (by omega)
 ·exact .inr ⟨by omega,h.tr hl h'⟩
theorem Sl.tot (hl:Lin lt) (a b:List α):Sl lt a b∨a=b∨Sl lt b a:=by
 rcases Nat.lt_trichotomy a.length b.length with h|h|h
 ·exact .inl (.inl h)
 ·rcases Lx.tot hl h with h' | h' | h'
  ·exact .inl (.inr ⟨h,h'⟩)
  ·exact .inr (.inl h')
  ·exact .inr (.inr (.inr ⟨h.symm,h'⟩))
 ·exact .inr (.inr (.inl h))
theorem Sl.app {a b:List α} (h:Sl lt a b) {u v:List α} (hu:u.length=v.length):Sl lt (a++u) (b++v):=by
 rcases h with h|⟨e,h⟩
 ·exact .inl (by simp;omega)
 ·exact .inr ⟨by simp;omega,h.app_left u v⟩
def abk (lt:α→α→Prop) (E:List (α×α×Bool)) (l:List α):Prop:=RI E l∧∀d,RI E d→¬Sl lt d l
theorem abk.nodup {l:List α} (h:abk lt E l):l.Nodup:=by
 by_cases hn:l.Nodup
 ·exact hn
 ·obtain ⟨d,h1,h2⟩:=aa0 h.1 hn
  exact absurd (.inl h2) (h.2 d h1)
theorem abk.congr {E':List (α×α×Bool)} (hE:∀p,p∈E ↔ p∈E') {l:List α} (h:abk lt E l):abk lt E' l:=
 ⟨h.1.mono fun p hp=>(hE p).1 hp,fun d hd=>h.2 d (hd.mono fun p hp=>(hE p).2 hp)⟩
end
end Go.Ai.Z
namespace Go.Ai.Z
abbrev Rl:=List UInt8
abbrev RE:=List (Rl×Rl×Bool)
abbrev PE:=List Rl×Bool
abbrev LxR:List Rl→List Rl→Prop:=Lx (fun a b:Rl=>a<b)
def adF (p:PE):Rl:=p.1.getLastD []
def afG (y x:PE):Bool:=decide (y.2=x.2) && decide (adF y=adF x)
def Snd (E:RE) (n:Nat) (c:Rl) (p:PE):Prop:=∃t,p.1=c::t∧t.length+1=n∧Wk E c t (adF p) p.2
theorem Snd.len {E:RE} {n:Nat} {c:Rl} {p:PE} (h:Snd E n c p):p.1.length=n:=by obtain ⟨t,e,hl,_⟩:=h;rw [e];simp [hl]
def Good (E:RE) (n:Nat) (c:Rl) (p:PE):Prop:=Snd E n c p∧∀q,Snd E n c q→afG q p=true→¬LxR q.1 p.1
end Go.Ai.Z
namespace Go.Ai.Z
def bxA (x:Ax):EV:=.bx (cellsA x)
end Go.Ai.Z
