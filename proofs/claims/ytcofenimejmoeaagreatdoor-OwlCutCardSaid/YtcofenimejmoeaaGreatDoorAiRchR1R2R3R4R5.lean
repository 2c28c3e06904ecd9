/-
 Which roles are contained in which: rounds of a list of pairs reach all that can be reached.
-/
import Derived.Test.YtcofenimejmoeaaGreatDoorAiC1
import Derived.Test.YtcofenimejmoeaaGreatDoorAiK1K2K3K4K5K6K7
set_option maxRecDepth 100000
set_option linter.unusedSimpArgs false
set_option linter.unusedVariables false
set_option linter.unusedSectionVars false
namespace Go.Ai
inductive Rch (E:List (Rl×Rl)):Rl→Rl→Prop where
 | refl (a:Rl):Rch E a a
 | step {a b c:Rl}:Rch E a b→(b,c)∈E→Rch E a c
theorem Rch.trans {E:List (Rl×Rl)} {a b c:Rl} (h:Rch E a b) (h':Rch E b c):Rch E a c:=by
 induction h' with
 | refl=>exact h
 | step _ he ih=>exact .step ih he
theorem Rch.one {E:List (Rl×Rl)} {a b:Rl} (h:(a,b)∈E):Rch E a b:=.step (.refl a) h
theorem Rch.mono {E E':List (Rl×Rl)} (hE:∀p∈E,p∈E') {a b:Rl} (h:Rch E a b):Rch E' a b:=by
 induction h with
 | refl=>exact .refl _
 | step _ he ih=>exact .step ih (hE _ he)
def Srt (l:List Rl):Prop:=l.Pairwise fun a b=>a<b
theorem Srt.nodup {l:List Rl} (h:Srt l):l.Nodup:=h.imp fun {a b} hab he=>by subst he;exact List.lt_irrefl a hab
theorem Srt.ext {l l':List Rl} (h:Srt l) (h':Srt l') (hm:∀x,x∈l ↔ x∈l'):l=l':=
 List.Perm.eq_of_pairwise (le:=fun a b=>a<b) (fun a b _ _ h1 h2=>absurd h2 (List.lt_asymm h1)) h h' ((List.perm_ext_iff_of_nodup h.nodup h'.nodup).2 hm)
theorem acT {l:List Rl} (h:l.Nodup):Srt (wH l):=by
 have h1:=ER l;have h2:(wH l).Nodup:=(uV l).nodup_iff.2 h;refine (h1.and h2).imp fun {a b} hab=>?_;rcases List.le_iff_lt_or_eq.1 hab.1 with h|h
 ·exact h
 ·exact absurd h hab.2
theorem QX:∀{l:List Rl},Srt l→H6 l=true
 | [],_=>rfl
 | [a],_=>rfl
 | a::b::r,h=>by
  obtain ⟨h1,h2⟩:=List.pairwise_cons.1 h;simp only [H6,Bool.and_eq_true,decide_eq_true_eq];exact ⟨h1 b (by simp),QX h2⟩
def zZ (l:List Rl) (s:Rl):List Rl:=
 if s∈l then l else l.takeWhile (fun x=>decide (x<s))++s::l.dropWhile (fun x=>decide (x<s))
theorem Vw {l:List Rl} {s x:Rl}:x∈zZ l s ↔ x=s∨x∈l:=by
 unfold zZ;split
 ·rename_i h;constructor
  ·exact .inr
  ·rintro (rfl|h');exact h;exact h'
 ·have:x∈l ↔ x∈l.takeWhile (fun x=>decide (x<s))∨x∈l.dropWhile (fun x=>decide (x<s)):=by
   rw [←List.mem_append,List.takeWhile_append_dropWhile]
  rw [this];simp only [List.mem_append,List.mem_cons];constructor
  ·rintro (h|h|h);exact .inr (.inl h);exact .inl h;exact .inr (.inr h)
  ·rintro (h|h|h);exact .inr (.inl h);exact .inl h;exact .inr (.inr h)
theorem XP {s:Rl}:∀{l:List Rl},Srt l→s ∉ l→∀x∈l.dropWhile (fun x=>decide (x<s)),s<x
 | [],_,_,x,hx=>by simp at hx
 | a::r,h,hn,x,hx=>by
  obtain ⟨h1,h2⟩:=List.pairwise_cons.1 h;simp only [List.dropWhile_cons] at hx
  split at hx
  ·exact XP h2 (fun hm=>hn (by simp [hm])) x hx
  ·rename_i I;have p:¬a<s:=by simpa using I
   have A:s<a:=by
    rcases List.le_iff_lt_or_eq.1 (List.not_lt.1 p) with h|h
    ·exact h
    ·exact absurd (by simp [h]) hn
   rcases List.mem_cons.1 hx with rfl|hx
   ·exact A
   ·exact List.lt_trans A (h1 x hx)
theorem ach {l:List Rl} {s:Rl} (h:Srt l):Srt (zZ l s):=by
 unfold zZ;split
 ·exact h
 ·rename_i hn;have h0:Srt (l.takeWhile (fun x=>decide (x<s))++l.dropWhile (fun x=>decide (x<s))):=by rw [List.takeWhile_append_dropWhile];exact h
  obtain ⟨h1,h2,h3⟩:=List.pairwise_append.1 h0
  have ht:∀a∈l.takeWhile (fun x=>decide (x<s)),a<s:=fun a ha=>by
   have:=List.all_eq_true.1 (List.all_takeWhile (p:=fun x=>decide (x<s)) (l:=l)) a ha
   simpa using this
  have hd:=XP h hn;refine List.pairwise_append.2 ⟨h1,List.pairwise_cons.2 ⟨hd,h2⟩,fun a ha b hb=>?_⟩;rcases List.mem_cons.1 hb with rfl|hb
  ·exact ht a ha
  ·exact h3 a ha b hb
end Go.Ai
namespace Go.Ai.Z
theorem ab8 (l:List Rl) (x:Rl):(zZ l x).length≤l.length+1:=by
 unfold zZ;split
 ·omega
 ·have:=congrArg List.length (List.takeWhile_append_dropWhile (p:=fun y=>decide (y<x)) (l:=l))
  rw [List.length_append] at this;simp only [List.length_append,List.length_cons];omega
def zS:List Ax→Int
 | []=>0
 | x::r=>if fH x=0 then zS r else fH x
def qI (V:List Rl):List (AV×AV):=V.map fun x=>(.s x,.b true)
theorem Eg (k:Rl):∀V:List Rl,find 1 (.s k) (qI V)=some (if k∈V then some (.b true) else none)
 | []=>rfl
 | x::V=>by
  have ih:=Eg k V;simp only [qI] at ih ⊢;by_cases h:k=x
  ·subst h;simp [find,jH]
  ·simp [find,jH,h,ih]
theorem Vu {k:Rl}:∀{V:List Rl},k ∉ V→DV 1 (.s k) (.b true) (qI V)=some (qI (V++[k]))
 | [],_=>rfl
 | x::V,h=>by
  simp only [List.mem_cons,not_or] at h;have ih:=Vu (V:=V) h.2;simp only [qI] at ih ⊢;simp [DV,jH,h.1,ih]
def SlV (v:AV) (vs:List Rl):Prop:=(v=.ns∧vs=[])∨v=.sl (vs.map .s)∨∃r,v=.st r (vs.map .s)
theorem SlV.elems {v:AV} {vs:List Rl} (h:SlV v vs) (env:Env):wE env (some (.v v))=some (vs.map .s):=by
 rcases h with ⟨rfl,rfl⟩|rfl|⟨r,rfl⟩<;>rfl
theorem SlV.plain {v:AV} {vs:List Rl} (h:SlV v vs) (p:vs≠[]):v.plain=.sl (vs.map .s):=by
 rcases h with ⟨_,rfl⟩|rfl|⟨r,rfl⟩
 ·exact absurd rfl p
 ·rfl
 ·rfl
@[simp] theorem anZ {s:St} {a b:gq}:(s++[a,b])[s.length]?=some a:=by simp
@[simp] theorem anY {s:St} {a b:gq}:(s++[a,b])[s.length+1]?=some b:=by simp
@[simp] theorem anc {s:St} {a b c:gq}:(s++[a,b]).set s.length c=s++[c,b]:=by simp
@[simp] theorem anb {s:St} {a b c:gq}:(s++[a,b]).set (s.length+1) c=s++[a,c]:=by
 rw [List.set_append,if_neg (by omega)];simp
@[simp] theorem akb {env:Env} {l ver sz o n:Nat}:wE env (some (.v (.sk l ver sz o n)))=none:=rfl
theorem Yz (x:List Nat) (env:Env):∀ks:List Nat,(∀k∈ks,k∈x)→je (je env x) ks=je env ks:=by
 have hl:∀(ks:List Nat) (k:Nat),lk (je env ks) k=if k∈ks then (match lk env k with|some e=>bif e.isRef then none else some e|none=>none) else none:=by
  intro ks
  induction ks with
  | nil=>intro k;simp [je,lk]
  | cons a r ih=>
   intro k;by_cases hk:k=a
   ·subst hk
    cases hc:lk env k with
    | none=>simp only [je,ih,hc,ite_self]
    | some e=>
     cases hr:e.isRef with
     | true=>simp only [je,hr,if_true,ih,hc,cond_true,ite_self]
     | false=>simp only [je,hr,hc,lk,if_true,if_false,Bool.false_eq_true,cond_false,List.mem_cons,true_or]
   ·have p:¬a=k:=fun h=>hk h.symm
    cases hc:lk env a with
    | none=>simp only [je,ih,hc,List.mem_cons,hk,false_or]
    | some e=>
     cases hr:e.isRef with
     | true=>simp only [je,hr,if_true,ih,hc,List.mem_cons,hk,false_or]
     | false=>simp only [je,hr,hc,lk,if_false,Bool.false_eq_true,ih,List.mem_cons,hk,p,false_or]
 intro ks
 induction ks with
 | nil=>intro _;rfl
 | cons a r ih=>
  intro h;have ha:=h a (by simp);have ih:=ih fun k hk=>h k (by simp [hk]);simp only [je,hl x a,ha,if_true,ih]
  cases lk env a with
  | none=>rfl
  | some e=>cases hr:e.isRef with
   | true=>simp only [hr,cond_true,if_true]
   | false=>simp only [cond_false,hr,Bool.false_eq_true,if_false]
theorem aag (body:Env→St→Out) (keep:List Nat) (env:Env) (s:St):gY body keep env s=gY body keep (je env keep) s:=by
 rw [LK,LK body keep (je env keep),Yz keep env keep fun _ h=>h]
theorem tV:∀{l:List Ax},zS l=0→∀x∈l,fH x=0
 | [],_,x,hx=>by cases hx
 | y::l,h,x,hx=>by
  unfold zS at h
  split at h
  ·rcases List.mem_cons.1 hx with rfl|hx
   ·assumption
   ·exact tV h x hx
  ·contradiction
abbrev SM:=List (Rl×List Rl)
def alz (G:SM):St:=G.map fun p=>.row au 1 p.2.length
@[simp] theorem aly (G:SM):(alz G).length=G.length:=by simp [alz]
@[simp] theorem anX {s r:St} {a:gq}:(s++a::r)[s.length]?=some a:=by simp
@[simp] theorem amO {s r:St} {a b:gq}:(s++a::r).set s.length b=s++b::r:=by simp
theorem Ve:∀V:List Rl,(qI V).mapM (fun p=>strOf p.1)=some V
 | []=>rfl
 | x::V=>by
  have ih:=Ve V;simp only [qI,List.map_cons,List.mapM_cons] at ih ⊢;rw [ih];rfl
theorem OH (n:Nat):∀l:List Rl,bY n (l.map .s)=true
 | []=>by simp [bY]
 | x::l=>by simp [bY,OH n l]
section
variable {α:Type} {E:List (α×α×Bool)}
inductive Wk (E:List (α×α×Bool)):α→List α→α→Bool→Prop where
 | nil (c:α):Wk E c [] c false
 | cons {c s:α} {f:Bool} {t:List α} {r:α} {b:Bool} (he:(c,s,f)∈E) (h:Wk E s t r b):Wk E c (s::t) r (f || b)
theorem Wk.append {c:α} {t:List α} {r:α} {b:Bool} (h:Wk E c t r b) {u:List α} {q:α} {b':Bool} (h':Wk E r u q b'):Wk E c (t++u) q (b || b'):=by
 induction h with
 | nil=>simpa using h'
 | cons he _ ih=>rw [Bool.or_assoc];exact .cons he (ih h')
theorem Wk.one {c s:α} {f:Bool} (h:(c,s,f)∈E):Wk E c [s] s f:=by
 have:=Wk.cons h (.nil s)
 rwa [Bool.or_false] at this
theorem Wk.split {u:List α} {q:α}:∀{t:List α} {c:α} {b:Bool},Wk E c (t++u) q b→∃r b1 b2,Wk E c t r b1∧Wk E r u q b2∧b=(b1 || b2)
 | [],c,b,h=>⟨c,false,b,.nil c,h,by simp⟩
 | s::t,c,b,h=>by
  cases h with
  | cons he h=>
   obtain ⟨r,b1,b2,h1,h2,rfl⟩:=Wk.split (t:=t) h;exact ⟨r,_,b2,.cons he h1,h2,by rw [Bool.or_assoc]⟩
theorem Wk.last {c:α} {t:List α} {x q:α} {b:Bool} (h:Wk E c (t++[x]) q b):q=x:=by
 obtain ⟨r,b1,b2,_,h2,_⟩:=h.split
 cases h2 with
 | cons h3 h4=>cases h4;rfl
theorem Wk.nil_eq {c q:α} {b:Bool} (h:Wk E c [] q b):q=c∧b=false:=by cases h;exact ⟨rfl,rfl⟩
theorem Wk.snoc_inv {c:α} {t:List α} {x q:α} {b:Bool} (h:Wk E c (t++[x]) q b):∃r b1 f,Wk E c t r b1∧(r,x,f)∈E∧b=(b1 || f)∧q=x:=by
 obtain ⟨r,b1,b2,h1,h2,rfl⟩:=h.split
 cases h2 with
 | cons he h4=>cases h4;exact ⟨r,b1,_,h1,he,by simp,rfl⟩
def U1 (E:List (α×α×Bool)) (l:List α):Prop:=∃c t r b f,l=c::t∧Wk E c t r b∧(r,c,f)∈E∧(b || f)=true
theorem ahF {p:α} {V:List α} (hV:V≠[]) (h:Wk E p V p true):∃l,U1 E l∧l.length=V.length:=by
 rcases List.eq_nil_or_concat V with rfl|⟨V',x,rfl⟩
 ·exact absurd rfl hV
 ·rw [List.concat_eq_append] at h ⊢;obtain ⟨r,b1,f,h1,h2,h3,rfl⟩:=h.snoc_inv;exact ⟨p::V',⟨p,V',r,b1,f,rfl,h1,h2,h3.symm⟩,by simp⟩
theorem ahh {x:α} {t:List α} (h:x∈t):∃V D,t=(V++[x])++D:=by
 obtain ⟨V,D,rfl⟩:=List.append_of_mem h;exact ⟨V,D,by simp⟩
theorem adS {r:α}:∀{t:List α} {c:α} {b:Bool},Wk E c t r b→¬(c::t).Nodup→∃U V D p b0 b1 b2,t=U++(V++D)∧V≠[]∧Wk E c U p b0∧Wk E p V p b1∧Wk E p D r b2∧b=(b0 || (b1 || b2))
 | [],c,b,_,hn=>absurd (by simp) hn
 | s::t,c,b,h,hn=>by
  by_cases hc:c∈s::t
  ·obtain ⟨V,D,he⟩:=ahh hc;rw [he] at h;obtain ⟨q,b1,b2,h1,h2,rfl⟩:=h.split;obtain rfl:=h1.last;exact ⟨[],V++[q],D,q,false,b1,b2,by rw [he];rfl,by simp,.nil q,h1,h2,by simp⟩
  ·cases h with
   | cons he h=>
    obtain ⟨U,V,D,p,b0,b1,b2,e,hV,h0,h1,h2,rfl⟩:=adS h fun hd=>hn (List.nodup_cons.2 ⟨hc,hd⟩);exact ⟨s::U,V,D,p,_,b1,b2,by rw [e];rfl,hV,.cons he h0,h1,h2,by rw [Bool.or_assoc]⟩
theorem afW {l:List α} (h:U1 E l) (hn:¬l.Nodup):∃d,U1 E d∧d.length<l.length:=by
 obtain ⟨c,t,r,b,f,rfl,hw,he,hb⟩:=h;obtain ⟨U,V,D,p,b0,b1,b2,rfl,hV,h0,h1,h2,rfl⟩:=adS hw hn;have x:=List.length_pos_iff.2 hV
 cases b1 with
 | true=>
  obtain ⟨d,hd,hl⟩:=ahF hV h1;exact ⟨d,hd,by simp;omega⟩
 | false=>
  refine ⟨c::(U++D),⟨c,U++D,r,_,f,rfl,h0.append h2,he, ?_⟩,by simp;omega⟩
  simpa using hb
theorem Wk.mono {E':List (α×α×Bool)} (hE:∀p∈E,p∈E') {c:α} {t:List α} {r:α} {b:Bool} (h:Wk E c t r b):Wk E' c t r b:=by
 induction h with
 | nil c=>exact .nil c
 | cons he _ ih=>exact .cons (hE _ he) ih
theorem U1.mono {E':List (α×α×Bool)} (hE:∀p∈E,p∈E') {l:List α} (h:U1 E l):U1 E' l:=by
 obtain ⟨c,t,r,b,f,e,h1,h2,h3⟩:=h;exact ⟨c,t,r,b,f,e,h1.mono hE,hE _ h2,h3⟩
theorem Wk.froms {c:α} {t:List α} {r:α} {b:Bool} (h:Wk E c t r b) (hr:r∈E.map (·.1)):∀x∈c::t,x∈E.map (·.1):=by
 induction h with
 | nil c=>intro x hx;simp at hx;subst hx;exact hr
 | @cons c s f t r b he _ ih=>
  intro x hx;rcases List.mem_cons.1 hx with rfl|hx
  ·exact List.mem_map.2 ⟨_,he,rfl⟩
  ·exact ih hr x hx
theorem U1.froms {l:List α} (h:U1 E l):∀x∈l,x∈E.map (·.1):=by
 obtain ⟨c,t,r,b,f,rfl,h1,h2,h3⟩:=h;exact h1.froms (List.mem_map.2 ⟨_,h2,rfl⟩)
def Lx (lt:α→α→Prop):List α→List α→Prop
 | a::l,b::m=>lt a b∨(a=b∧Lx lt l m)
 | _,_=>False
def Sl (lt:α→α→Prop) (l m:List α):Prop:=l.length<m.length∨(l.length=m.length∧Lx lt l m)
structure Lin (lt:α→α→Prop):Prop where
 irr:∀a,¬lt a a
 tr:∀a b c,lt a b→lt b c→lt a c
 tot:∀a b,lt a b∨a=b∨lt b a
variable {lt:α→α→Prop}
theorem Lx.irr (hl:Lin lt):∀{a:List α},¬Lx lt a a
 | [],h=>h
 | x::a,h=>by
  rcases h with h|⟨_,h⟩
  ·exact hl.irr _ h
  ·exact Lx.irr hl h
theorem Lx.tr (hl:Lin lt):∀{a b c:List α},Lx lt a b→Lx lt b c→Lx lt a c
 | [],_,_,h,_=>h.elim
 | _::_,[],_,h,_=>h.elim
 | _::_,_::_,[],_,h=>h.elim
 | x::a,y::b,z::c,h,h'=>by
  rcases h with h|⟨rfl,h⟩
  ·rcases h' with h' | ⟨rfl,h'⟩
   ·exact .inl (hl.tr _ _ _ h h')
   ·exact .inl h
  ·rcases h' with h' | ⟨rfl,h'⟩
   ·exact .inl h'
   ·exact .inr ⟨rfl,Lx.tr hl h h'⟩
theorem Lx.tot (hl:Lin lt):∀{a b:List α},a.length=b.length→Lx lt a b∨a=b∨Lx lt b a
 | [],[],_=>.inr (.inl rfl)
 | [],_::_,h=>by simp at h
 | _::_,[],h=>by simp at h
 | x::a,y::b,h=>by
  rcases hl.tot x y with hh|rfl|hh
  ·exact .inl (.inl hh)
  ·rcases Lx.tot hl (a:=a) (b:=b) (by simpa using h) with h|rfl|h
   ·exact .inl (.inr ⟨rfl,h⟩)
   ·exact .inr (.inl rfl)
   ·exact .inr (.inr (.inr ⟨rfl,h⟩))
  ·exact .inr (.inr (.inl hh))
theorem Lx.app_left:∀{a b:List α},Lx lt a b→∀u v:List α,Lx lt (a++u) (b++v)
 | [],_,h,_,_=>h.elim
 | _::_,[],h,_,_=>h.elim
 | _::_,_::_,h,u,v=>by
  rcases h with h|⟨rfl,h⟩
  ·exact .inl h
  ·exact .inr ⟨rfl,Lx.app_left h u v⟩
theorem Sl.irr (hl:Lin lt) {a:List α} (h:Sl lt a a):False:=by
 rcases h with h|⟨_,h⟩
 ·omega
 ·exact Lx.irr hl h
theorem Sl.tr (hl:Lin lt) {a b c:List α} (h:Sl lt a b) (h':Sl lt b c):Sl lt a c:=by
 rcases h with h|⟨e,h⟩<;>rcases h' with h' | ⟨e',h'⟩
 ·exact .inl (by omega)
 ·exact .inl (by omega)
 ·exact .inl (by omega)
 ·exact .inr ⟨by omega,h.tr hl h'⟩
theorem Sl.tot (hl:Lin lt) (a b:List α):Sl lt a b∨a=b∨Sl lt b a:=by
 rcases Nat.lt_trichotomy a.length b.length with h|h|h
 ·exact .inl (.inl h)
 ·rcases Lx.tot hl h with h' | h' | h'
  ·exact .inl (.inr ⟨h,h'⟩)
  ·exact .inr (.inl h')
  ·exact .inr (.inr (.inr ⟨h.symm,h'⟩))
 ·exact .inr (.inr (.inl h))
theorem Sl.app {a b:List α} (h:Sl lt a b) {u v:List α} (hu:u.length=v.length):Sl lt (a++u) (b++v):=by
 rcases h with h|⟨e,h⟩
 ·exact .inl (by simp;omega)
 ·exact .inr ⟨by simp;omega,h.app_left u v⟩
def agz (lt:α→α→Prop) (E:List (α×α×Bool)) (l:List α):Prop:=U1 E l∧∀d,U1 E d→¬Sl lt d l
theorem agz.nodup {l:List α} (h:agz lt E l):l.Nodup:=by
 by_cases hn:l.Nodup
 ·exact hn
 ·obtain ⟨d,h1,h2⟩:=afW h.1 hn;exact absurd (.inl h2) (h.2 d h1)
theorem agz.congr {E':List (α×α×Bool)} (hE:∀p,p∈E ↔ p∈E') {l:List α} (h:agz lt E l):agz lt E' l:=
 ⟨h.1.mono fun p hp=>(hE p).1 hp,fun d hd=>h.2 d (hd.mono fun p hp=>(hE p).2 hp)⟩
end
abbrev RE:=List (Rl×Rl×Bool)
abbrev PE:=List Rl×Bool
abbrev LxR:List Rl→List Rl→Prop:=Lx (fun a b:Rl=>a<b)
def ajb (p:PE):Rl:=p.1.getLastD []
def alv (y x:PE):Bool:=decide (y.2=x.2) && decide (ajb y=ajb x)
def Snd (E:RE) (n:Nat) (c:Rl) (p:PE):Prop:=∃t,p.1=c::t∧t.length+1=n∧Wk E c t (ajb p) p.2
theorem Snd.len {E:RE} {n:Nat} {c:Rl} {p:PE} (h:Snd E n c p):p.1.length=n:=by obtain ⟨t,e,hl,_⟩:=h;rw [e];simp [hl]
def Good (E:RE) (n:Nat) (c:Rl) (p:PE):Prop:=Snd E n c p∧∀q,Snd E n c q→alv q p=true→¬LxR q.1 p.1
def bxA (x:Ax):EV:=.bx (cellsA x)
def qJ (V:List Rl) (k:Rl):List Rl:=if k∈V then V else V++[k]
theorem LG {k:Rl}:∀{V:List Rl},k∈V→DV 1 (.s k) (.b true) (qI V)=some (qI V)
 | [],h=>by cases h
 | x::V,h=>by
  by_cases hk:k=x
  ·subst hk;simp [qI,DV,jH]
  ·have h':k∈V:=by
    rcases List.mem_cons.1 h with h|h
    ·exact absurd h hk
    ·exact h
   have ih:=LG h';simp only [qI] at ih ⊢;simp [DV,jH,hk,ih]
theorem ug (k:Rl) (V:List Rl):DV 1 (.s k) (.b true) (qI V)=some (qI (qJ V k)):=by
 unfold qJ;split
 ·rename_i h;exact LG h
 ·rename_i h;exact Vu h
theorem jd {V:List Rl} {k x:Rl}:x∈qJ V k ↔ x=k∨x∈V:=by
 unfold qJ;split
 ·rename_i h
  exact ⟨.inr,fun hh=>by rcases hh with rfl|hh<;>assumption⟩
 ·simp [or_comm]
theorem aad {V:List Rl} (hV:V.Nodup) (k:Rl):(qJ V k).Nodup:=by
 unfold qJ;split
 ·exact hV
 ·rename_i h;exact List.nodup_append.2 ⟨hV,by simp,fun a ha b hb=>by simp at hb;subst hb;exact fun e=>h (e ▸ ha)⟩
theorem Eu (V:List Rl) (k:Rl):(qJ V k).length≤V.length+1:=by
 unfold qJ
 split<;>simp
def IQ (V:List Rl) (k:Rl):List Rl:=V.erase k
theorem Vx (k:Rl):∀V:List Rl,JQ 1 (.s k) (qI V)=some (qI (IQ V k))
 | []=>rfl
 | x::V=>by
  have ih:=Vx k V;simp only [qI,IQ] at ih ⊢;by_cases hk:k=x
  ·subst hk;simp [JQ,jH]
  ·have p:¬x=k:=fun h=>hk h.symm;simp [JQ,jH,hk,ih,List.erase_cons,p]
structure V4 where
 c:List Rl
 r:List Rl
 f:List Rl
 i:List Rl
def V4.ob (v:V4):St:=[.map (qI v.c),.map (qI v.r),.map (qI v.f),.map (qI v.i)]
def V4.nil:V4:=⟨[],[],[],[]⟩
def V4.add (v:V4) (x:C):V4:=
 if x.kind=3 then { v with c:=qJ v.c x.name } else if x.kind=6 then { v with r:=qJ v.r x.name }
 else if x.kind=7 then { v with f:=qJ v.f x.name } else if x.kind=4 then { v with i:=qJ v.i x.name } else v
mutual
def ou:C→V4→V4
 | .mk k n l h z ps,v=>xU ps (v.add (.mk k n l h z ps))
def xU:List C→V4→V4
 | [],v=>v
 | p::r,v=>xU r (ou p v)
end
theorem BP (x:C) (v:V4):ou x v=xU x.parts (v.add x):=by cases x;simp [ou]
structure LB (n:Nat) (V:List Rl):Prop where
 nd:V.Nodup
 len:V.length≤n
 nm:∀x∈V,x.length≤7000
theorem LB.add {n:Nat} {V:List Rl} (h:LB n V) {k:Rl} (hk:k.length≤7000):LB (n+1) (qJ V k):=
 ⟨aad h.nd k,by have:=Eu V k;have:=h.len;omega,fun x hx=>by
  rcases jd.1 hx with rfl|hx
  ·exact hk
  ·exact h.nm x hx⟩
theorem LB.le {n m:Nat} {V:List Rl} (h:LB n V) (hm:n≤m):LB m V:=⟨h.nd,Nat.le_trans h.len hm,h.nm⟩
theorem LB.del {n:Nat} {V:List Rl} (h:LB n V) (k:Rl):LB n (IQ V k):=
 ⟨h.nd.sublist List.erase_sublist,Nat.le_trans List.erase_sublist.length_le h.len,fun x hx=>h.nm x (List.erase_sublist.subset hx)⟩
structure VB (n:Nat) (v:V4):Prop where
 c:LB n v.c
 r:LB n v.r
 f:LB n v.f
 i:LB n v.i
theorem VB.le {n m:Nat} {v:V4} (h:VB n v) (hm:n≤m):VB m v:=⟨h.c.le hm,h.r.le hm,h.f.le hm,h.i.le hm⟩
theorem VB.add {n:Nat} {v:V4} (h:VB n v) {x:C} (hx:x.name.length≤7000):VB (n+1) (v.add x):=by
 have h':=h.le (Nat.le_succ n);unfold V4.add;split
 ·exact ⟨h.c.add hx,h'.r,h'.f,h'.i⟩
 ·split
  ·exact ⟨h'.c,h.r.add hx,h'.f,h'.i⟩
  ·split
   ·exact ⟨h'.c,h'.r,h.f.add hx,h'.i⟩
   ·split
    ·exact ⟨h'.c,h'.r,h'.f,h.i.add hx⟩
    ·exact h'
theorem adV:∀(x:C),wC x≤150→∀(n:Nat) (v:V4),VB n v→VB (n+wC x) (ou x v):=by
 refine C.ind' fun x ih hw n v hv=>?_;have A:=hw;rw [FC] at A
 have hL:∀(l:List C),(∀p∈l,wC p≤150→∀(n:Nat) (v:V4),VB n v→VB (n+wC p) (ou p v))→wL l≤150→∀(n:Nat) (v:V4),VB n v→VB (n+wL l) (xU l v):=by
  intro l
  induction l with
  | nil=>intro _ _ n v hv;simpa [xU,wL] using hv
  | cons p r ihr=>
   intro h hl n v hv;simp only [wL] at hl ⊢;have h1:=h p (by simp) (by omega) n v hv;have h2:=ihr (fun q hq=>h q (by simp [hq])) (by omega) _ _ h1;simp only [xU];rw [show n+(wC p+wL r)=n+wC p+wL r by omega];exact h2
 rw [BP,FC];exact (hL x.parts ih (by omega) (n+1) (v.add x) (hv.add (by omega))).le (by omega)
def Fh (V:List Rl):List Rl→List Rl
 | []=>V
 | r::rs=>Fh (qJ V r) rs
theorem LB.Fh {rs:List Rl}:∀{n:Nat} {V:List Rl},LB n V→(∀r∈rs,r.length≤7000)→LB (n+rs.length) (Fh V rs):=by
 induction rs with
 | nil=>intro n V h _;exact h
 | cons r rs ih=>
  intro n V h hr
  have:=ih (h.add (hr r (by simp))) fun x hx=>hr x (by simp [hx])
  simp only [List.length_cons];rw [show n+(rs.length+1)=n+1+rs.length by omega];exact this
def Np (x:Ax) (v:V4):V4:=
 let u:=ou x.right (ou x.left v)
 ⟨u.c,qJ (Fh u.r x.roles) x.role,u.f,qJ (qJ u.i x.a) x.b⟩
theorem agL {x:Ax} (hx:x.Few) {n:Nat} {v:V4} (h:VB n v):VB (n+1000) (Np x v):=by
 have h1:=adV x.left hx.l n v h;have h2:=adV x.right hx.r _ _ h1;have l1:=hx.l;have l2:=hx.r;have l3:=hx.roles;have l4:=hx.role;have l5:=hx.a;have l6:=hx.b;refine ⟨h2.c.le (by omega),(((h2.r.Fh fun r hr=>?_).add (by omega)).le (by omega)),h2.f.le (by omega),((h2.i.add (by omega)).add (by omega)).le (by omega)⟩
 have:=hx.rs r hr;omega
def oz:List Ax→V4→V4
 | [],v=>v
 | x::r,v=>oz r (Np x v)
theorem U3:∀{l:List Ax},(∀x∈l,x.Few)→∀{n:Nat} {v:V4},VB n v→VB (n+1000 * l.length) (oz l v)
 | [],_,n,v,h=>h
 | x::l,hx,n,v,h=>by
  have h1:=U3 (l:=l) (fun y hy=>hx y (by simp [hy])) (agL (hx x (by simp)) h);simp only [List.length_cons,oz];rw [show n+1000 * (l.length+1)=n+1000+1000 * l.length by omega];exact h1
theorem VB.nil:VB 0 V4.nil:=⟨⟨by simp [V4.nil],by simp [V4.nil],by simp [V4.nil]⟩,⟨by simp [V4.nil],by simp [V4.nil],by simp [V4.nil]⟩,⟨by simp [V4.nil],by simp [V4.nil],by simp [V4.nil]⟩,⟨by simp [V4.nil],by simp [V4.nil],by simp [V4.nil]⟩⟩
def ofE (n:Nat):List (AV×AV):=[(.i .i64 3,.mp n),(.i .i64 6,.mp (n+1)),(.i .i64 7,.mp (n+2)),(.i .i64 4,.mp (n+3))]
def vcE (n:Nat) (lv sv:AV) (len i k:Int) (c:C):Env:=
 [(2,.v .u),(3,.v (.i .i64 0)),(7,.v (.mp n)),(8,.v (.mp (n+1))),(9,.v (.mp (n+2))),(10,.v (.mp (n+3))),(11,.v (.pt (n+5) 0)),(13,.v .u),(44,.v lv),(45,.v (.i .i64 len)),(46,.v (.i .i64 i)),(54,.v sv),(55,.v (.i .i64 2)),(56,.v (.i .i64 k)),(61,.v (.fn (.func jv) [] [.ip (aJ c).cells]))]
def vcL (n:Nat) (lv sv:AV) (len i k:Int) (c:C) (p:OB):gq:=.loop (vcE n lv sv len i k c) [62] nT fP p
def vcH (s:St) (v:V4) (r:St):St:=s++(.map (qI v.c)::.map (qI v.r)::.map (qI v.f)::.map (qI v.i)::.map (ofE s.length)::.cells [.mp (s.length+4)]::r)
section
variable {s r q:St} {v:V4}
@[simp] theorem anW:(vcH s v r)[s.length]?=some (.map (qI v.c)):=by simp [vcH]
@[simp] theorem anV:(vcH s v r)[s.length+1]?=some (.map (qI v.r)):=by simp [vcH]
@[simp] theorem anU:(vcH s v r)[s.length+2]?=some (.map (qI v.f)):=by simp [vcH]
@[simp] theorem anT:(vcH s v r)[s.length+3]?=some (.map (qI v.i)):=by simp [vcH]
@[simp] theorem anS:(vcH s v r)[s.length+4]?=some (.map (ofE s.length)):=by simp [vcH]
@[simp] theorem anR:(vcH s v r)[s.length+5]?=some (.cells [.mp (s.length+4)]):=by simp [vcH]
theorem U4 (p:Nat):(vcH s v r)[s.length+6+p]?=r[p]?:=by
 unfold vcH;rw [List.getElem?_append_right (by omega),show s.length+6+p - s.length=p+6 by omega];rfl
@[simp] theorem amo:(vcH s v r).length=s.length+6+r.length:=by simp [vcH];omega
@[simp] theorem agM:vcH s v r++q=vcH s v (r++q):=by simp [vcH]
@[simp] theorem ako {V:List Rl}:(vcH s v r).set s.length (.map (qI V))=vcH s { v with c:=V } r:=by simp [vcH]
@[simp] theorem akn {V:List Rl}:(vcH s v r).set (s.length+1) (.map (qI V))=vcH s { v with r:=V } r:=by
 unfold vcH;rw [List.set_append,if_neg (by omega)];simp
@[simp] theorem akm {V:List Rl}:(vcH s v r).set (s.length+2) (.map (qI V))=vcH s { v with f:=V } r:=by
 unfold vcH;rw [List.set_append,if_neg (by omega)];simp
@[simp] theorem akl {V:List Rl}:(vcH s v r).set (s.length+3) (.map (qI V))=vcH s { v with i:=V } r:=by
 unfold vcH;rw [List.set_append,if_neg (by omega)];simp
theorem KN (p:Nat) (o:gq):(vcH s v r).set (s.length+6+p) o=vcH s v (r.set p o):=by
 unfold vcH;rw [List.set_append,if_neg (by omega),show s.length+6+p - s.length=p+6 by omega];rfl
theorem adY (v':V4):(vcH s v' (r++q)).take (s.length+6+r.length)=vcH s v' r:=by
 rw [←agM,List.take_append_of_le_length (by simp),List.take_of_length_le (by simp)]
end
theorem agE (x:C) (s:St) (v:V4) (r:St) (lv sv:AV) (len i k:Int) (c:C) (cx:Ctx) (hb:cx.base≤s.length+6+r.length) (hl:cx.lim≤s.length):
  aB P0.glob (aj P0) cx true nT ((62,.v (aJ x))::vcE s.length lv sv len i k c) (vcH s v r)=
   .norm [(11,.v (.pt (s.length+5) 0)),(16,.v (.pt (s.length+6+r.length) 0))] (vcH s v (r++[.cells (aJ x).cells])):=by
 have h1:cx.lim≤s.length+6+r.length:=by omega
 have h2:=U4 (s:=s) (v:=v) (r:=r++[.cells [.i .i64 0,.s [],.i .i64 0,.i .i64 0,.ns]]) r.length;have h3:=KN (s:=s) (v:=v) (r:=r++[.cells [.i .i64 0,.s [],.i .i64 0,.i .i64 0,.ns]]) r.length (.cells (aJ x).cells);simp at h2 h3;simp [nT,vcE,hb,h1,h2,h3]
theorem agD (x:C) (s:St) (v:V4) (r:St) (m:Nat) (hm:r[m]?=some (.cells (aJ x).cells)) (cx:Ctx) (hl:cx.lim≤s.length):
  ∃e',aB P0.glob (aj P0) cx true fP [(11,.v (.pt (s.length+5) 0)),(16,.v (.pt (s.length+6+m) 0))] (vcH s v r)=.norm e' (vcH s (v.add x) r):=by
 have h1:=U4 (s:=s) (v:=v) (r:=r) m;rw [hm] at h1;simp at h1;have l1:cx.lim≤s.length+1:=by omega
 have l2:cx.lim≤s.length+2:=by omega
 have l3:cx.lim≤s.length+3:=by omega
 by_cases k3:x.kind=3
 ·exact ⟨_,by simp [fP,h1,ofE,find,jH,uN,k3,hl,ug,V4.add];rfl⟩
 by_cases k6:x.kind=6
 ·exact ⟨_,by simp [fP,h1,ofE,find,jH,uN,k6,hl,l1,ug,V4.add];rfl⟩
 by_cases k7:x.kind=7
 ·exact ⟨_,by simp [fP,h1,ofE,find,jH,uN,k7,hl,l2,ug,V4.add];rfl⟩
 by_cases k4:x.kind=4
 ·exact ⟨_,by simp [fP,h1,ofE,find,jH,uN,k4,hl,l3,ug,V4.add];rfl⟩
 ·exact ⟨_,by simp [fP,h1,ofE,find,jH,uN,k3,k4,k6,k7,hl,V4.add];rfl⟩
theorem akj (x:C) (s:St) (v:V4) (r:St) (lv sv:AV) (len i k:Int) (c:C) (p:Nat) (hp:r[p]?=some (vcL s.length lv sv len i k c .ready)) (cx:Ctx) (hb:cx.base≤s.length+6+r.length) (hl:cx.lim≤s.length):
  aj P0 (.yl (s.length+6+p)) [aJ x] (vcH s v r) cx=.ret (.b true) (vcH s (v.add x) (r++[.cells (aJ x).cells])):=by
 have J:p<r.length:=(List.getElem?_eq_some_iff.1 hp).1;have hA:=agE x s v r lv sv len i k c cx hb hl
 obtain ⟨e',hR⟩:=agD x s v ((r++[gq.cells (aJ x).cells]).set p (vcL s.length lv sv len i k c .busy)) r.length (by
  rw [List.getElem?_set_ne (by omega)];simp) cx hl
 refine Oz (by simp) ?_;unfold Jl;rw [U4,hp];have g1:(r++[gq.cells (aJ x).cells])[p]?=some (vcL s.length lv sv len i k c .ready):=by rw [List.getElem?_append_left J];exact hp
 have I:cx.lim≤s.length+6+p:=by omega
 have A:DF (vcE s.length lv sv len i k c) [62] [aJ x]=(62,.v (aJ x))::vcE s.length lv sv len i k c:=by simp [DF,put,vcE,lk]
 simp only [vcL,List.length_cons,List.length_nil,I,and_self,if_true,A,hA,yF];rw [U4,g1];simp only [vcL,KN];simp only [vcL] at hR;rw [hR];simp only [Ie,sS,U4];rw [List.getElem?_set_self (by simp;omega)];simp only [KN,List.set_set];have g2:=Q8 g1;simp only [vcL] at g2;rw [g2]
theorem O3 (x:C) (hw:wC x≤100000) (s:St) (r:St) (p:Nat) (cx:Ctx)
  (ih:∀y∈x.parts,∀v:V4,aj P0 (.fn (.func mJ) [] []) [aJ y,.yl (s.length+6+p)] (vcH s v r) cx=.ret (.b true) (vcH s (ou y v) r)):
  ∀(I:List C) (i:Nat) (v:V4),x.parts.drop i=I→
  ∃j:Int,gY (aB P0.glob (aj P0) cx false jP) [1,12,13,14] [(1,.v (.yl (s.length+6+p))),(12,.v (slf x.z (x.parts.map aJ))),(13,.v (.i .i64 x.parts.length)),(14,.v (.i .i64 i))] (vcH s v r)=
   .exit 0 [(1,.v (.yl (s.length+6+p))),(12,.v (slf x.z (x.parts.map aJ))),(13,.v (.i .i64 x.parts.length)),(14,.v (.i .i64 j)),(15,.v (.b false))] (vcH s (xU I v) r)
 | [],i,v,h=>by
  have h1:¬i<x.parts.length:=Nat.not_lt.2 (drop_nil h);refine ⟨i,ak fun K hK=>?_⟩;simp [jP,h1,xU]
 | y::I,i,v,h=>by
  obtain ⟨h1,h2,h3,h4⟩:=drop_cons h;have h5:=h4 h3;have hp:y∈x.parts:=by rw [←h5];exact List.getElem_mem h3
  have O:=QU x.parts;have J:=wI (i:=i) (by rw [FC] at hw;omega);have e1:=ih y hp v;obtain ⟨j,A⟩:=O3 x hw s r p cx ih I (i+1) (ou y v) h2;refine ⟨j,ak fun K hK=>?_⟩;rw [←hK] at A;clear hK h4 ih;simp at A;simp [jP,h3,h5,J,e1,A,xU]
theorem Zh (s:St) (lv sv:AV) (len i k:Int) (c:C) (p:Nat):∀(x:C),wC x≤100000→∀(r:St) (v:V4) (cx:Ctx),r[p]?=some (vcL s.length lv sv len i k c .ready)→cx.lim≤s.length→
   aj P0 (.fn (.func mJ) [] []) [aJ x,.yl (s.length+6+p)] (vcH s v r) cx=.ret (.b true) (vcH s (ou x v) r):=by
 refine C.ind' fun x ih hw r v cx hp hl=>?_;have I:p<r.length:=(List.getElem?_eq_some_iff.1 hp).1;have A:=hw;rw [FC] at A;have hy:=akj x s v r lv sv len i k c p hp ⟨cx.lim,s.length+6+r.length⟩ (Nat.le_refl _) hl
 obtain ⟨j,h⟩:=O3 x hw s (r++[gq.cells (aJ x).cells]) p ⟨cx.lim,s.length+6+r.length⟩
  (fun y hy v=>ih y hy (by have:=Nl hy;omega) (r++[gq.cells (aJ x).cells]) v _ (by rw [List.getElem?_append_left I];exact hp) hl) x.parts 0 (v.add x) rfl
 refine GR (by simp) ?_;rw [←BP] at h;simp at h;simp [af,oI,hy,h,frz,AV.under];exact adY _
theorem aaQ (s:St) (lv sv:AV) (len i k:Int) (c:C) (p:Nat) (hw:wC c≤100000) (r:St) (v:V4) (cx:Ctx) (hp:r[p]?=some (vcL s.length lv sv len i k c .ready)) (hl:cx.lim≤s.length):
  aj P0 (.fn (.func jv) [] [.ip (aJ c).cells]) [.yl (s.length+6+p)] (vcH s v r) cx=.ret (.tu []) (vcH s (ou c v) r):=by
 have hv:=Zh s lv sv len i k c p c hw r v ⟨cx.lim,s.length+6+r.length⟩ hp hl;refine FI (by simp) ?_;simp [af,tH,hv]
theorem ahL (s:St) (a:Nat) (cx:Ctx):aj P0 (.fn (.func bP) [] []) [.mp a] s cx=.ret (.fn (.func 91) [] [.kb (.mp a)]) s:=
 sW (h:=YF 91) rfl rfl
theorem Ij {n:Nat} {V:List Rl} (h:LB n V) (hn:n≤1048576) (s:St) (a:Nat) (ha:s[a]?=some (.map (qI V))) (cx:Ctx):aj P0 (.fn (.func jF) [] []) [.fn (.func 91) [] [.kb (.mp a)]] s cx=.ret (slS (wH V)) s:=by
 refine sW (h:=Ic [91]) rfl ?_;have h1:=QX (acT h.nd);have h2:Yy s (.mp a)=some V:=by simp only [Yy,ha];exact Ve V
 have h3:=h.len;have h4:V.length≤1048576:=by omega
 simp [Ic,h2,h1,h4];exact fun x hx=>by have:=h.nm x hx;omega
theorem aam (s:St) (x:Ax) (hx:x.Few) (lv:AV) (len i:Int) (cx:Ctx) (hl:cx.lim≤s.length) (hb:cx.base≤s.length):
  ∀(n k:Nat) (v:V4) (r:St),k+n=2→
  ∃(j:Int) (r':St),gY (aB P0.glob (aj P0) cx false kZ) [2,3,7,8,9,10,11,13,44,45,46,54,55,56]
    [(2,.bx [.ns,.ns,.ns,.ns]),(3,.v (.i .i64 0)),(7,.v (.mp s.length)),(8,.v (.mp (s.length+1))),(9,.v (.mp (s.length+2))),(10,.v (.mp (s.length+3))),(11,.v (.pt (s.length+5) 0)),(13,bxA x),(44,.v lv),(45,.v (.i .i64 len)),(46,.v (.i .i64 i)),(54,.v (.sl [aJ x.left,aJ x.right])),(55,.v (.i .i64 2)),(56,.v (.i .i64 k))] (vcH s v r)=
    .exit 4 [(2,.bx [.ns,.ns,.ns,.ns]),(3,.v (.i .i64 0)),(7,.v (.mp s.length)),(8,.v (.mp (s.length+1))),(9,.v (.mp (s.length+2))),(10,.v (.mp (s.length+3))),(11,.v (.pt (s.length+5) 0)),(13,bxA x),(44,.v lv),(45,.v (.i .i64 len)),(46,.v (.i .i64 i)),(54,.v (.sl [aJ x.left,aJ x.right])),(55,.v (.i .i64 2)),(56,.v (.i .i64 j)),(57,.v (.b false))]
    (vcH s (xU ([x.left,x.right].drop k) v) r')
 | 0,k,v,r,hk=>by
  obtain rfl:k=2:=by omega
  refine ⟨2,r,ak fun K hK=>?_⟩;simp [kZ,xU,bxA,cellsA]
 | n+1,k,v,r,hk=>by
  have hw:∀c:C,wC c≤150→∀k':Int,aj P0 (.fn (.func jv) [] [.ip (aJ c).cells]) [.yl (s.length+6+(r.length+1))] (vcH s v (r++[.dfr,vcL s.length lv (.sl [aJ x.left,aJ x.right]) len i k' c .ready])) cx=
    .ret (.tu []) (vcH s (ou c v) (r++[.dfr,vcL s.length lv (.sl [aJ x.left,aJ x.right]) len i k' c .ready])):=fun c hc k'=>
   aaQ s lv (.sl [aJ x.left,aJ x.right]) len i k' c (r.length+1) (by omega) _ v cx (by simp [List.getElem?_append_right]) hl
  have hg:∀(v':V4) (c:C) (k':Int),(vcH s v' (r++[.dfr,vcL s.length lv (.sl [aJ x.left,aJ x.right]) len i k' c .ready]))[s.length+6+(r.length+1)]?=some (vcL s.length lv (.sl [aJ x.left,aJ x.right]) len i k' c .ready):=fun v' c k'=>by
   rw [U4];simp [List.getElem?_append_right]
  have hs:∀(v':V4) (c:C) (k':Int),(vcH s v' (r++[.dfr,vcL s.length lv (.sl [aJ x.left,aJ x.right]) len i k' c .ready])).set (s.length+6+(r.length+1)) .dead=vcH s v' (r++[.dfr,.dead]):=fun v' c k'=>by
   rw [KN,List.set_append_right _ _ (by omega)];simp
  have e0:s.length+6+r.length+1=s.length+6+(r.length+1):=by omega
  have w1:IntKind.i64.wrap 1=1:=w64 (by omega) (by omega);have w2:IntKind.i64.wrap 2=2:=w64 (by omega) (by omega);have p:k=0∨k=1:=by omega
  rcases p with rfl|rfl
  ·obtain ⟨j,r',ih⟩:=aam s x hx lv len i cx hl hb n 1 (ou x.left v) (r++[.dfr,.dead]) (by omega);refine ⟨j,r',ak fun K hK=>?_⟩;rw [←hK] at ih;clear hK;have h1:=hw x.left hx.l 0;have h2:=hg (ou x.left v) x.left 0;have h3:=hs (ou x.left v) x.left 0;simp only [vcL,vcE] at h1 h2 h3;simp [bxA,cellsA,xU] at ih;simp at h1 h2 h3;simp [kZ,bxA,cellsA,xU,Gf,su,e0,h1,h2,h3,EJ,w1,w2,ih]
  ·obtain ⟨j,r',ih⟩:=aam s x hx lv len i cx hl hb n 2 (ou x.right v) (r++[.dfr,.dead]) (by omega);refine ⟨j,r',ak fun K hK=>?_⟩;rw [←hK] at ih;clear hK;have h1:=hw x.right hx.r 1;have h2:=hg (ou x.right v) x.right 1;have h3:=hs (ou x.right v) x.right 1;simp only [vcL,vcE] at h1 h2 h3;simp [bxA,cellsA,xU] at ih;simp at h1 h2 h3;simp [kZ,bxA,cellsA,xU,Gf,su,e0,h1,h2,h3,EJ,w1,w2,ih]
def vkE (n:Nat) (lv:AV) (len i:Int):Env:=
 [(2,.bx [.ns,.ns,.ns,.ns]),(3,.v (.i .i64 0)),(7,.v (.mp n)),(8,.v (.mp (n+1))),(9,.v (.mp (n+2))),(10,.v (.mp (n+3))),(11,.v (.pt (n+5) 0)),(44,.v lv),(45,.v (.i .i64 len)),(46,.v (.i .i64 i))]
theorem aeW (s:St) (x:Ax) (hx:x.roles.length≤1000) (lv:AV) (len i:Int) (cx:Ctx) (hl:cx.lim≤s.length) (hb:cx.base≤s.length):
  ∀(A:List Rl) (k:Nat) (v:V4) (r:St),x.roles.drop k=A→
  ∃j:Int,gY (aB P0.glob (aj P0) cx false nR) [2,3,7,8,9,10,11,13,44,45,46,76,77,78]
   [(2,.bx [.ns,.ns,.ns,.ns]),(3,.v (.i .i64 0)),(7,.v (.mp s.length)),(8,.v (.mp (s.length+1))),(9,.v (.mp (s.length+2))),(10,.v (.mp (s.length+3))),(11,.v (.pt (s.length+5) 0)),(13,bxA x),(44,.v lv),(45,.v (.i .i64 len)),(46,.v (.i .i64 i)),(76,.v (slf x.z (x.roles.map .s))),(77,.v (.i .i64 x.roles.length)),(78,.v (.i .i64 k))] (vcH s v r)=
   .exit 8 [(2,.bx [.ns,.ns,.ns,.ns]),(3,.v (.i .i64 0)),(7,.v (.mp s.length)),(8,.v (.mp (s.length+1))),(9,.v (.mp (s.length+2))),(10,.v (.mp (s.length+3))),(11,.v (.pt (s.length+5) 0)),(13,bxA x),(44,.v lv),(45,.v (.i .i64 len)),(46,.v (.i .i64 i)),(76,.v (slf x.z (x.roles.map .s))),(77,.v (.i .i64 x.roles.length)),(78,.v (.i .i64 j)),(79,.v (.b false))]
    (vcH s { v with r:=Fh v.r A } r)
 | [],k,v,r,h=>by
  have h1:¬k<x.roles.length:=Nat.not_lt.2 (drop_nil h);refine ⟨k,ak fun K hK=>?_⟩;simp [nR,h1,Fh,bxA,cellsA]
 | p::A,k,v,r,h=>by
  obtain ⟨g1,g2,g3,g4⟩:=drop_cons h;have g5:=g4 g3;have I:=wI (i:=k) (by omega);have l1:cx.lim≤s.length+1:=by omega
  obtain ⟨j,ih⟩:=aeW s x hx lv len i cx hl hb A (k+1) { v with r:=qJ v.r p } r g2;refine ⟨j,ak fun K hK=>?_⟩;rw [←hK,show ((k+1:Nat):Int)=(k:Int)+1 from rfl] at ih;clear hK g4;simp only [Fh,bxA,cellsA] at ih ⊢;rw [←ih];simp [nR,g3,g5,I,l1,ug,uN]
theorem aeX (z:Bool) (l:List Ax) (hl:l.length≤1024) (hx:∀x∈l,x.Few) (s:St) (cx:Ctx) (p:cx.lim≤s.length) (hb:cx.base≤s.length):
  ∀(A:List Ax) (i:Nat) (v:V4) (r:St),l.drop i=A→
  ∃(j:Int) (r':St),gY (aB P0.glob (aj P0) cx false nS) [2,3,7,8,9,10,11,44,45,46] (vkE s.length (slf z (l.map cu)) l.length i) (vcH s v r)=
    .exit 2 (vkE s.length (slf z (l.map cu)) l.length j++[(47,.v (.b false))]) (vcH s (oz A v) r')
 | [],i,v,r,h=>by
  have h1:¬i<l.length:=Nat.not_lt.2 (drop_nil h);refine ⟨i,r,ak fun K hK=>?_⟩;simp [nS,h1,oz,vkE]
 | x::A,i,v,r,h=>by
  obtain ⟨g1,g2,g3,g4⟩:=drop_cons h;have g5:=g4 g3;have J:=wI (i:=i) (by omega);have l1:cx.lim≤s.length+1:=by omega
  have l3:cx.lim≤s.length+3:=by omega
  have I:=hx x (by rw [←g5];exact List.getElem_mem g3);obtain ⟨j2,r2,e2⟩:=aam s x I (slf z (l.map cu)) l.length i cx p hb 2 0 v r (by omega);obtain ⟨j4,e4⟩:=aeW s x (by have:=I.roles;omega) (slf z (l.map cu)) l.length i cx p hb x.roles 0 (ou x.right (ou x.left v)) r2 rfl;obtain ⟨j,r',ih⟩:=aeX z l hl hx s cx p hb A (i+1) (Np x v) r2 g2;refine ⟨j,r',ak fun K hK=>?_⟩;rw [←hK,show ((i+1:Nat):Int)=(i:Int)+1 from rfl] at ih;clear hK g4 hx;simp only [List.drop_zero,xU,Int.ofNat_zero,bxA,cellsA] at e2 e4;simp only [oz];rw [←ih]
  try simp at e2
  try simp at e4
  simp [nS,vkE,show List.range 2=[0,1] from rfl,g3,g5,J,e2,e4,l1,l3,ug,uN,Np]
theorem aeY (z:Bool) (l:List Ax) (hl:l.length≤1024) (hx:∀x∈l,x.Few) (h0:zS l=0) (s:St) (cx:Ctx):
  ∀(p:List Ax) (i:Nat),l.drop i=p→
  ∃j:Int,gY (aB P0.glob (aj P0) cx false iH) [0,2,3,21,22,23]
   [(0,.v (slf z (l.map cu))),(2,.bx [.ns,.ns,.ns,.ns]),(3,.v (.i .i64 0)),(21,.v (slf z (l.map cu))),(22,.v (.i .i64 l.length)),(23,.v (.i .i64 i))] s=
   .exit 0 [(0,.v (slf z (l.map cu))),(2,.bx [.ns,.ns,.ns,.ns]),(3,.v (.i .i64 0)),(21,.v (slf z (l.map cu))),(22,.v (.i .i64 l.length)),(23,.v (.i .i64 j)),(24,.v (.b false))] s
 | [],i,h=>by
  have h1:¬i<l.length:=Nat.not_lt.2 (drop_nil h);refine ⟨i,ak fun K hK=>?_⟩;simp [iH,h1]
 | x::p,i,h=>by
  obtain ⟨g1,g2,g3,g4⟩:=drop_cons h;have g5:=g4 g3;have A:=wI (i:=i) (by omega);have hm:x∈l:=by rw [←g5];exact List.getElem_mem g3
  have e1:=BD x (hx x hm);have hc:=tV h0 x hm;rw [hc] at e1;obtain ⟨j,ih⟩:=aeY z l hl hx h0 s cx p (i+1) g2;refine ⟨j,ak fun K hK=>?_⟩;rw [←hK,show ((i+1:Nat):Int)=(i:Int)+1 from rfl] at ih;clear hK g4 hx;rw [←ih];simp [iH,g3,g5,A,e1]
theorem aiy {s r:St} {v:V4}:(vcH s v r).take s.length=s:=by simp [vcH]
theorem acj (n:Nat) (K:List Rl):(slS K).under n=true:=by
 cases K with
 | nil=>simp [slS,AV.under]
 | cons a K=>simp [slS,AV.under,bY,OH]
theorem ack (K:List Rl):(slS K).plain=slS K:=by cases K<;>rfl
theorem acn (K:List Rl):(slS K).cells=[slS K]:=by cases K<;>rfl
theorem ZL (K:List Rl):(slS K).plain1=slS K:=by cases K<;>rfl
theorem agQ (K:List Rl):(slS K).one=true:=by cases K<;>rfl
def vA (l:List Ax):List Rl:=wH (oz l V4.nil).c
def vR (l:List Ax):List Rl:=wH (IQ (oz l V4.nil).r [])
def vF (l:List Ax):List Rl:=wH (oz l V4.nil).f
def vI (l:List Ax):List Rl:=wH (IQ (oz l V4.nil).i [])
theorem IY (z:Bool) (l:List Ax) (hl:l.length≤1024) (hx:∀x∈l,x.Few) (h0:zS l=0) (s:St) (cx:Ctx):
  aj P0 (.fn (.func lW) [] []) [slf z (l.map cu)] s cx=.ret (.tu [.ag [slS (vA l),slS (vR l),slS (vF l),slS (vI l)],.i .i64 0]) s:=by
 have hv:=U3 hx VB.nil;rw [Nat.zero_add] at hv;have hv:=hv.le (show 1000 * l.length≤1024000 by omega);unfold vA vR vF vI;generalize hV:oz l V4.nil=V at hv;have hR:=hv.r.del [];have hI:=hv.i.del [];refine Af (by simp) ?_;obtain ⟨j0,e0⟩:=aeY z l (by omega) hx h0 s ⟨s.length,s.length⟩ l 0 rfl;obtain ⟨j1,r1,e1⟩:=aeX z l (by omega) hx s ⟨s.length,s.length⟩ (Nat.le_refl _) (Nat.le_refl _) l 0 V4.nil [] rfl;rw [hV] at e1;rw [show vcH s V4.nil []=s++[.map [],.map [],.map [],.map [],.map [(.i .i64 3,.mp s.length),(.i .i64 6,.mp (s.length+1)),(.i .i64 7,.mp (s.length+2)),(.i .i64 4,.mp (s.length+3))],.cells [.mp (s.length+4)]] from rfl] at e1;simp [vkE] at e0 e1;have k0:=Ij hv.c (by omega) (vcH s { V with r:=IQ V.r [],i:=IQ V.i [] } r1) s.length (by simp);have k1:=Ij hR (by omega) (vcH s { V with r:=IQ V.r [],i:=IQ V.i [] } r1) (s.length+1) (by simp);have k2:=Ij hv.f (by omega) (vcH s { V with r:=IQ V.r [],i:=IQ V.i [] } r1) (s.length+2) (by simp);have k3:=Ij hI (by omega) (vcH s { V with r:=IQ V.r [],i:=IQ V.i [] } r1) (s.length+3) (by simp);clear hv hR hI hV hx;simp [af,nI,e0,e1,ahL,k0,k1,k2,k3,Vx,uN,DV,jH,ack,ZL,acn,show ¬s.length+6+r1.length=s.length by omega,agQ,acj,dU,frz,AV.under,bY,aiy]
structure Ax.Good (x:Ax):Prop where
 k:x.kind=1∨x.kind=2∨x.kind=3∨x.kind=4∨x.kind=5∨x.kind=6∨x.kind=7∨x.kind=8∨x.kind=9
 l:x.kind=1∨x.kind=2∨x.kind=3→iL x.left=0
 r:x.kind=1∨x.kind=2∨x.kind=3∨x.kind=4∨x.kind=8→iL x.right=0
 r5:x.kind=5→x.roles.length=1
 r6:x.kind=6→2≤x.roles.length∧x.roles.length≤4
theorem aa3 {c:C} (h:vz c=0):iL c=0:=by
 unfold vz at h;split at h
 ·cases h
 ·exact h
theorem good {x:Ax} (h:fH x=0):x.Good:=by
 unfold fH at h
 split at h
 ·cases h
 split at h
 ·cases h
 rename_i hs hn;have hs:pJ x=true:=by simpa using hs
 unfold U9 at h
 split at h
 ·rename_i q;exact absurd h q.2
 split at h
 ·rename_i q;exact absurd h q.2
 rename_i ql qr;have hk:1≤x.kind∧x.kind≤9:=by simp [pJ,Dp] at hs;omega
 have hr:(kJ x.kind).lo≤x.roles.length∧(x.roles.length:Int)≤(kJ x.kind).hi:=by
  simp only [pJ,Bool.and_eq_true,decide_eq_true_eq] at hs;exact ⟨hs.1.2,hs.2⟩
 have p:x.kind=1∨x.kind=2∨x.kind=3∨x.kind=4∨x.kind=5∨x.kind=6∨x.kind=7∨x.kind=8∨x.kind=9:=by omega
 refine ⟨p,fun q=>?_,fun q=>?_,fun q=>?_,fun q=>?_⟩
 ·have hu:(kJ x.kind).l=true:=by rcases q with q|q|q<;>rw [q]<;>rfl
  exact aa3 (Classical.not_not.1 fun e=>ql ⟨hu,e⟩)
 ·have hu:(kJ x.kind).r=true:=by rcases q with q|q|q|q|q<;>rw [q]<;>rfl
  exact aa3 (Classical.not_not.1 fun e=>qr ⟨hu,e⟩)
 ·rw [q] at hr;simp [kJ] at hr;omega
 ·rw [q] at hr;simp [kJ] at hr;omega
end Go.Ai.Z
