/-
 Tokens as the lexer yields them, for all texts; tokens of printed texts.
-/
import Derived.Test.YtalbhlfigmlddaaGreatDoorAiLex1Lex2Y4Y5
import Derived.Test.YtalbhlfigmlddaaGreatDoorAiQB2
set_option maxRecDepth 100000
set_option linter.unusedSimpArgs false
set_option linter.unusedVariables false
set_option linter.unusedSectionVars false
namespace Go.Ai.Z
open Go.Lib (atoi itoa decNat decFrom digitVal decDigits)
open Go.Ai.Inj
inductive PR (α:Type) where
 | ok (v:α) (r:List Tok)
 | er (a e:Int) (r:List Tok)
def PR.bind {α β:Type} (x:PR α) (f:α→List Tok→PR β):PR β:=
 match x with
 | .ok v r=>f v r
 | .er a e r=>.er a e r
@[simp] theorem PR.bind_ok {α β:Type} (v:α) (r:List Tok) (f:α→List Tok→PR β):(PR.ok v r).bind f=f v r:=rfl
@[simp] theorem PR.bind_er {α β:Type} (a e:Int) (r:List Tok) (f:α→List Tok→PR β):(PR.er a e r).bind f=.er a e r:=rfl
structure ado (t:Tok):Prop where
 k:t.1=1∨t.1=2∨t.1=3
 ne:t.2.1≠[]
 len:t.2.1.length≤65536
 int:t.1=2→∃n,Go.Lib.atoi t.2.1=some n∧(t.2.1.length≤18∨(t.2.1.length=19∧t.2.1.head?=some 45))
inductive WT:List Tok→Prop
 | fin (a:Nat):WT [(4,[],a)]
 | cons (t:Tok) (r:List Tok):ado t→WT r→WT (t::r)
def hT (l:List Tok):Tok:=l.headD (4,[],0)
def txt (l:List Tok):List UInt8:=(hT l).2.1
@[simp] theorem zY (t:Tok) (r:List Tok):hT (t::r)=t:=rfl
@[simp] theorem IL (t:Tok) (r:List Tok):txt (t::r)=t.2.1:=rfl
theorem WT.ne {l:List Tok} (h:WT l):l≠[]:=by cases h<;>simp
theorem WT.tl {l:List Tok} (h:WT l) (ht:txt l≠[]∨(hT l).1≠4):∃t r,l=t::r∧ado t∧WT r:=by
 cases h with
 | fin a=>simp [txt,hT] at ht
 | cons t r h1 h2=>exact ⟨t,r,rfl,h1,h2⟩
theorem WT.kind {l:List Tok} (h:WT l):(hT l).1=1∨(hT l).1=2∨(hT l).1=3∨(hT l).1=4:=by
 cases h with
 | fin a=>exact .inr (.inr (.inr rfl))
 | cons t r h1 h2=>rcases h1.k with h|h|h<;>simp [h]
def Good' {α:Type} (l:List Tok) (x:PR α):Prop:=
 match x with
 | .ok _ r=>WT r∧∃p,p≠[]∧l=p++r
 | .er _ _ r=>WT r∧∃p,l=p++r
def Aa {α:Type} (l:List Tok) (x:PR α):Prop:=
 match x with
 | .ok _ r=>WT r∧∃p,l=p++r
 | .er _ _ r=>WT r∧∃p,l=p++r
theorem Good'.zero {α:Type} {l:List Tok} {x:PR α} (h:Good' l x):Aa l x:=by
 cases x with
 | ok v r=>obtain ⟨h1,p,_,h2⟩:=h;exact ⟨h1,p,h2⟩
 | er a e r=>exact h
theorem Good'.bind {α β:Type} {l:List Tok} {x:PR α} {f:α→List Tok→PR β} (h:Good' l x) (hf:∀v r,x=.ok v r→WT r→Aa r (f v r)):Good' l (x.bind f):=by
 cases x with
 | er a e r=>exact h
 | ok v r=>
  obtain ⟨h1,p,h2,h3⟩:=h
  have:=hf v r rfl h1
  simp only [PR.bind_ok]
  cases hx:f v r with
  | ok u r2=>rw [hx] at this;obtain ⟨q1,q,q2⟩:=this;exact ⟨q1,p++q,by simp [h2],by rw [h3,q2];simp⟩
  | er a e r2=>rw [hx] at this;obtain ⟨q1,q,q2⟩:=this;exact ⟨q1,p++q,by rw [h3,q2];simp⟩
theorem Aa.bind {α β:Type} {l:List Tok} {x:PR α} {f:α→List Tok→PR β} (h:Aa l x) (hf:∀v r,x=.ok v r→WT r→Aa r (f v r)):Aa l (x.bind f):=by
 cases x with
 | er a e r=>exact h
 | ok v r=>
  obtain ⟨h1,p,h3⟩:=h
  have:=hf v r rfl h1
  simp only [PR.bind_ok]
  cases hx:f v r with
  | ok u r2=>rw [hx] at this;obtain ⟨q1,q,q2⟩:=this;exact ⟨q1,p++q,by rw [h3,q2];simp⟩
  | er a e r2=>rw [hx] at this;obtain ⟨q1,q,q2⟩:=this;exact ⟨q1,p++q,by rw [h3,q2];simp⟩
theorem Good'.tok {β:Type} {l:List Tok} (h:WT l) (ht:txt l≠[]∨(hT l).1≠4) {x:PR β} (hx:∀r,WT r→r=l.tail→Aa r x):Good' l x:=by
 obtain ⟨t,r,rfl,h1,h2⟩:=h.tl ht
 have:=hx r h2 rfl
 cases x with
 | ok v r2=>obtain ⟨q1,q,q2⟩:=this;exact ⟨q1,t::q,by simp,by rw [q2];rfl⟩
 | er a e r2=>obtain ⟨q1,q,q2⟩:=this;exact ⟨q1,t::q,by rw [q2];rfl⟩
theorem FB {α:Type} (v:α) {l:List Tok} (h:WT l):Aa l (PR.ok v l):=⟨h,[],rfl⟩
theorem WS:∀(l:List UInt8) (acc:Nat),l.all JG=true→∃n,decFrom acc l=some n
 | [],acc,_=>⟨acc,rfl⟩
 | b::r,acc,h=>by
  simp only [List.all_cons,Bool.and_eq_true] at h
  have hd:digitVal b=some (b.toNat - 48):=by
   unfold digitVal
   have:=h.1
   unfold JG at this
   simp only [Bool.and_eq_true,decide_eq_true_eq] at this
   rw [if_pos this]
  obtain ⟨n,hn⟩:=WS r (acc * 10+(b.toNat - 48)) h.2
  exact ⟨n,by simp only [decFrom,hd];exact hn⟩
theorem Xf {l:List UInt8} (h:kY l=true):∃n,decNat l=some n:=by
 unfold kY at h
 simp only [Bool.and_eq_true,decide_eq_true_eq] at h
 obtain ⟨n,hn⟩:=WS l 0 h.2
 unfold decNat
 cases l with
 | nil=>simp at h
 | cons b r=>exact ⟨n,hn⟩
theorem acA {l:List UInt8} (h:jR l=true):∃n,atoi l=some n∧(l.length≤18∨(l.length=19∧l.head?=some 45)):=by
 unfold jR at h
 rw [Bool.or_eq_true] at h
 rcases h with h|h
 ·have:l=[48]:=by simpa using h
  subst this
  exact ⟨0,rfl,.inl (by decide)⟩
 ·cases l with
  | nil=>simp [kY] at h
  | cons b r=>
   by_cases hb:b=45
   ·subst hb
    simp only [List.head?_cons,if_true,List.drop_succ_cons,List.drop_zero] at h
    obtain ⟨n,hn⟩:=Xf h
    have hl:r.length≤18:=by unfold kY at h;simp only [Bool.and_eq_true,decide_eq_true_eq] at h;exact h.1.1.2
    refine ⟨-(n:Int),by simp [atoi,hn], ?_⟩
    by_cases h18:r.length=18
    ·exact .inr ⟨by simp [h18],rfl⟩
    ·exact .inl (by simp;omega)
   ·rw [if_neg (by simpa using hb)] at h
    obtain ⟨n,hn⟩:=Xf h
    have hl:(b::r).length≤18:=by unfold kY at h;simp only [Bool.and_eq_true,decide_eq_true_eq] at h;exact h.1.1.2
    have h43:(b == 43)=false:=by
     cases hq:(b == 43) with
     | false=>rfl
     | true=>
      rw [beq_iff_eq] at hq
      subst hq
      unfold kY at h
      simp only [List.all_cons,Bool.and_eq_true] at h
      exact absurd h.2.1 (by decide)
    exact ⟨n,by simp [atoi,hb,h43,hn],.inl hl⟩
theorem abD {b:List UInt8} {w:Nat} (h:gV b=(2,w)):jR (b.take w)=true:=by
 have hi:∀{x:List UInt8} {n:Nat},qj x n=(2,w)→jR (x.take w)=true:=by
  intro x n h
  unfold qj at h
  split at h
  ·rename_i hc;cases h;exact hc
  ·cases h
 cases b with
 | nil=>simp [gV] at h
 | cons c r=>
  rw [oM] at h
  split at h
  ·split at h
   ·split at h<;>cases h
   ·cases h
  ·split at h
   ·split at h
    ·cases h
    ·split at h
     ·cases h
     ·split at h
      ·exact hi h
      ·cases h
   ·split at h
    ·exact hi h
    ·split at h<;>cases h
theorem XG (b:List UInt8):(gV b).1=0∨(gV b).1=1∨(gV b).1=2∨(gV b).1=3:=by
 have hi:∀(x:List UInt8) (n:Nat),(qj x n).1=0∨(qj x n).1=1∨(qj x n).1=2∨(qj x n).1=3:=by
  intro x n;unfold qj;split<;>simp
 cases b with
 | nil=>simp [gV]
 | cons c r=>
  rw [oM]
  split
  ·split
   ·split<;>simp
   ·simp
  ·split
   ·split
    ·simp
    ·split
     ·simp
     ·split
      ·exact hi _ _
      ·simp
   ·split
    ·exact hi _ _
    ·split<;>simp
def tw:List Tok→Nat
 | []=>0
 | t::r=>1+t.2.1.length+tw r
theorem Ou:∀(n:Nat) (b:List UInt8) (a:Nat) (la:Int) (bad:List Pb) {res:List Tok} {bad':List Pb},b.length≤65536→xB n b a la bad=some (res,bad')→WT res∧tw res≤2 * b.length+1
 | 0,b,a,la,bad,res,bad',_,h=>by simp [xB] at h
 | n+1,b,a,la,bad,res,bad',hb,h=>by
  have hdl:=(List.dropWhile_sublist (p:=uf) (l:=b)).length_le
  unfold xB at h
  cases hx:b.dropWhile uf with
  | nil=>
   rw [hx] at h
   simp only [Option.some.injEq,Prod.mk.injEq] at h
   obtain ⟨rfl,_⟩:=h
   exact ⟨.fin _,by simp [tw]⟩
  | cons c r=>
   rw [hx] at h hdl
   simp only [] at h
   have hsp:=OV c r
   have hsl:=YL c r
   have hpos:1≤(c::r).length:=by simp
   split at h
   ·have hds:=(List.dropWhile_sublist (p:=fun x:UInt8=>decide (x≠10)) (l:=c::r)).length_le
    obtain ⟨h1,h2⟩:=Ou n _ _ _ _ (by omega) h
    exact ⟨h1,by omega⟩
   ·split at h
    ·obtain ⟨h1,h2⟩:=Ou n _ _ _ _ (by simp only [List.length_drop];omega) h
     simp only [List.length_drop] at h2
     exact ⟨h1,by omega⟩
    ·rename_i k0
     cases hlex:xB n ((c::r).drop (gV (c::r)).2) (a+(b.length - (c::r).length)+(gV (c::r)).2) la bad with
     | none=>rw [hlex] at h;cases h
     | some p=>
      obtain ⟨res1,bad1⟩:=p
      rw [hlex] at h
      simp only [Option.map_some,Option.some.injEq,Prod.mk.injEq] at h
      obtain ⟨rfl,_⟩:=h
      obtain ⟨h1,h2⟩:=Ou n _ _ _ _ (by simp only [List.length_drop];omega) hlex
      simp only [List.length_drop] at h2
      have hlen:((c::r).take (gV (c::r)).2).length=(gV (c::r)).2:=by rw [List.length_take];omega
      refine ⟨.cons _ _ ⟨?_, ?_, ?_, ?_⟩ h1, ?_⟩
      ·rcases XG (c::r) with h|h|h|h
       ·exact absurd h k0
       ·exact .inl h
       ·exact .inr (.inl h)
       ·exact .inr (.inr h)
      ·intro he
       have:=congrArg List.length he
       simp only [hlen,List.length_nil] at this
       omega
      ·show ((c::r).take (gV (c::r)).2).length≤65536
       omega
      ·intro hk
       exact acA (abD (Prod.ext hk rfl))
      ·simp only [tw,hlen];omega
theorem YZ {src:List UInt8} (h:src.length≤65536):WT (lexB src).1∧tw (lexB src).1≤2 * src.length+1:=Ou _ src 0 (-1) [] h (UB src)
theorem adW {x:Tk} (hk:x.1≠0) (hne:x.2≠[]) (hb0:∀c r,x.2=c::r→jI c≠1∧jI c≠2) {ws u:List UInt8} (hw:∀b∈ws,uf b=true) (hsc:gV (x.2++u)=(x.1,x.2.length)) (n a:Nat):
  ∃a1 a2,Qh (n+1) (ws++(x.2++u)) a=(Qh n u a2).map ((x.1,x.2,a1)::·):=by
 obtain ⟨c,q,e⟩:∃c q,x.2=c::q:=by
  cases hc:x.2 with
  | nil=>exact absurd hc hne
  | cons c q=>exact ⟨c,q,rfl⟩
 obtain ⟨b1,b2⟩:=hb0 c q e
 have hd:(ws++(x.2++u)).dropWhile uf=c::(q++u):=by
  have hb:uf c=false:=by simp [uf,b1]
  have h0:(x.2++u).dropWhile uf=c::(q++u):=by rw [e,List.cons_append,List.dropWhile_cons,hb];simp
  clear hsc
  induction ws with
  | nil=>exact h0
  | cons b ws ih=>rw [List.cons_append,List.dropWhile_cons,hw b (by simp),if_pos rfl];exact ih (fun y hy=>hw y (by simp [hy]))
 have hsc':gV (c::(q++u))=(x.1,x.2.length):=by rw [←List.cons_append,←e];exact hsc
 have hdr:(c::(q++u)).drop x.2.length=u:=by rw [←List.cons_append,←e];exact List.drop_left
 have htk:(c::(q++u)).take x.2.length=x.2:=by rw [←List.cons_append,←e];exact List.take_left
 refine ⟨a+((ws++(x.2++u)).length - (c::(q++u)).length),a+((ws++(x.2++u)).length - (c::(q++u)).length)+x.2.length, ?_⟩
 rw [Qh,hd]
 simp only [b2,if_false,hsc',hk,hdr,htk]
def Reads (n:Nat) (u:List UInt8) (M:List Tk):Prop:=∀a,∃res:List Tok,Qh n u a=some res∧res.map (fun t=>(t.1,t.2.1))=M
theorem Reads.tok {n:Nat} {u:List UInt8} {M:List Tk} (h:Reads n u M) {x:Tk} (hk:x.1≠0) (hne:x.2≠[]) (hb0:∀c r,x.2=c::r→jI c≠1∧jI c≠2) {ws:List UInt8} (hw:∀b∈ws,uf b=true) (hsc:gV (x.2++u)=(x.1,x.2.length)):
  Reads (n+1) (ws++(x.2++u)) (x::M):=by
 intro a
 obtain ⟨a1,a2,e⟩:=adW hk hne hb0 hw hsc n a
 obtain ⟨res,h1,h2⟩:=h a2
 exact ⟨(x.1,x.2,a1)::res,by rw [e,h1];rfl,by simp [h2]⟩
theorem acn:∀(n:Nat) (b:List UInt8) (a:Nat) (la:Int) (bad:List Pb) {res:List Tok},Qh n b a=some res→xB n b a la bad=some (res,bad)
 | 0,_,_,_,_,_,h=>by simp [Qh] at h
 | n+1,b,a,la,bad,res,h=>by
  unfold Qh at h
  unfold xB
  cases hx:b.dropWhile uf with
  | nil=>rw [hx] at h;simp at h;simp [h]
  | cons c r=>
   rw [hx] at h
   simp only [] at h ⊢
   split at h
   ·cases h
   rename_i c2
   split at h
   ·cases h
   rename_i k0
   rw [if_neg c2,if_neg k0]
   cases hl:Qh n ((c::r).drop (gV (c::r)).2) (a+(b.length - (c::r).length)+(gV (c::r)).2) with
   | none=>rw [hl] at h;cases h
   | some res1=>
    rw [hl] at h
    simp only [Option.map_some,Option.some.injEq] at h
    rw [acn n _ _ la bad hl,←h]
    rfl
theorem Fj:∀(n:Nat) (b:List UInt8) (a:Nat) (la:Int) (bad:List Pb) {p:List Tok×List Pb},xB n b a la bad=some p→xB (n+1) b a la bad=some p
 | 0,_,_,_,_,_,h=>by simp [xB] at h
 | n+1,b,a,la,bad,p,h=>by
  unfold xB at h
  rw [xB]
  cases hx:b.dropWhile uf with
  | nil=>rw [hx] at h;exact h
  | cons c r=>
   rw [hx] at h
   simp only [] at h ⊢
   split at h
   ·rename_i c2;rw [if_pos c2];exact Fj n _ _ _ _ h
   rename_i c2
   rw [if_neg c2]
   split at h
   ·rename_i k0;rw [if_pos k0];exact Fj n _ _ _ _ h
   rename_i k0
   rw [if_neg k0]
   cases hl:xB n ((c::r).drop (gV (c::r)).2) (a+(b.length - (c::r).length)+(gV (c::r)).2) la bad with
   | none=>rw [hl] at h;cases h
   | some q=>rw [hl] at h;rw [Fj n _ _ _ _ hl];exact h
theorem YX {n m:Nat} (hnm:n≤m) {b:List UInt8} {a:Nat} {la:Int} {bad:List Pb} {p:List Tok×List Pb} (h:xB n b a la bad=some p):xB m b a la bad=some p:=by
 induction hnm with
 | refl=>exact h
 | step _ ih=>exact Fj _ _ _ _ _ ih
theorem afO {n:Nat} {src:List UInt8} {res:List Tok} (h:Qh n src 0=some res):lexB src=(res,[]):=by
 have h1:=YX (Nat.le_max_left n (src.length+1)) (acn n src 0 (-1) [] h)
 have h2:=YX (Nat.le_max_right n (src.length+1)) (UB src)
 rw [h1] at h2
 exact (Option.some.inj h2).symm
def Fol (u:List UInt8):Prop:=∀b r,u=b::r→sF b=false∧b≠58
theorem Fol.stops {u:List UInt8} (h:Fol u):Stops sF u:=fun b r e=>(h b r e).1
theorem Fol.nil:Fol []:=fun b r e=>by cases e
theorem Fol.cons {b:UInt8} {r:List UInt8} (h1:sF b=false) (h2:b≠58):Fol (b::r):=fun c q e=>by obtain ⟨rfl,-⟩:=List.cons.inj e;exact ⟨h1,h2⟩
theorem XF {t u:List UInt8} {c:UInt8} {r:List UInt8} (e:t=c::r) (hc:jI c=3) (ht:∀b∈t,sF b=true) (hu:Fol u):gV (t++u)=(1,t.length):=by
 subst e
 have hr:=AL ht hu.stops
 rw [List.cons_append] at hr ⊢
 rw [oM,if_pos hc,hr]
 have hd:(c::(r++u)).drop (c::r).length=u:=by rw [←List.cons_append];exact List.drop_left
 rw [hd]
 cases u with
 | nil=>rfl
 | cons d q=>
  cases q with
  | nil=>rfl
  | cons e q=>simp [(hu d _ rfl).2]
theorem Vw {x y u:List UInt8} {c e:UInt8} {r q:List UInt8} (ex:x=c::r) (hc:jI c=3) (hx:∀b∈x,sF b=true) (ey:y=e::q) (he:jI e=3) (he':e≠95) (hy:∀b∈y,sF b=true) (hu:Fol u):
  gV ((x++58::y)++u)=(1,(x++58::y).length):=by
 have hr:=AL (u:=58::(y++u)) hx Stops.colon
 have hr2:=AL hy hu.stops
 have e0:(x++58::y)++u=c::(r++58::(y++u)):=by rw [ex];simp
 have e1:x++58::(y++u)=c::(r++58::(y++u)):=by rw [ex];simp
 rw [e1] at hr
 rw [e0,oM,if_pos hc,hr]
 have hd:(c::(r++58::(y++u))).drop x.length=58::e::(q++u):=by rw [←e1,List.drop_left,ey];rfl
 rw [hd]
 rw [ey,List.cons_append] at hr2
 simp only [he',he,ne_eq,not_false_eq_true,and_self,if_true,hr2]
 rw [ey];simp;omega
structure J4 (k:Int) (t:List UInt8):Prop where
 k0:k≠0
 ne:t≠[]
 b0:∀c r,t=c::r→jI c≠1∧jI c≠2
 sc:∀u,Fol u→gV (t++u)=(k,t.length)
theorem uO {t:List UInt8} {c:UInt8} {r:List UInt8} (e:t=c::r) (hc:jI c=3) (ht:∀b∈t,sF b=true):J4 1 t:=
 ⟨by decide,by rw [e];simp,fun c' r' e'=>by rw [e] at e';obtain ⟨rfl,-⟩:=List.cons.inj e';rw [hc];decide,fun u hu=>XF e hc ht hu⟩
theorem Xx {t:List UInt8} (h:Au t=true):J4 1 t:=by
 obtain ⟨⟨b,r,e,hb⟩,h2,_⟩:=wB h
 exact uO e (Oq hb).1 fun x hx=>by rw [←UF];exact uD h2 x hx
theorem BO {t:List UInt8} (h:jU t=true):J4 1 t:=by
 unfold jU at h
 rw [Bool.and_eq_true] at h
 have h:=h.2
 split at h
 ·rename_i x y ec
  have el:=zD ec
  rw [Bool.and_eq_true] at h
  obtain ⟨⟨b,r,e,hb⟩,t1,_⟩:=wB h.1
  obtain ⟨⟨b',r',e',hb'⟩,t2,_⟩:=wB h.2
  have hc:=(Oq hb).1
  have w1:∀z∈x,sF z=true:=fun z hz=>by rw [←UF];exact uD t1 z hz
  have w2:∀z∈y,sF z=true:=fun z hz=>by rw [←UF];exact uD t2 z hz
  refine ⟨by decide,by rw [el];simp,fun c q ec'=>?_,fun u hu=>?_⟩
  ·rw [el,e] at ec';obtain ⟨rfl,-⟩:=List.cons.inj ec';rw [hc];decide
  ·rw [el];exact Vw e hc w1 e' (Oq hb').1 (Oq hb').2 w2 hu
 ·exact Xx h
theorem Wn {n:Int} (h1:-1099511627776≤n) (h2:n≤1099511627776):J4 2 (itoa n):=by
 have hw:∀u,∀b∈decDigits u,sF b=true:=fun u b hb=>by unfold sF;rw [UN (wW u b hb)];rfl
 by_cases hneg:n<0
 ·have hpos:0<n.natAbs:=by omega
  obtain ⟨b,r,e,hb⟩:=QC n.natAbs hpos
  have ei:itoa n=45::decDigits n.natAbs:=by unfold itoa;rw [if_pos hneg]
  have hbd:Jj b=true:=wW n.natAbs b (by rw [e];simp)
  refine ⟨by decide,by rw [ei];simp,fun c q ec=>?_,fun u hu=>?_⟩
  ·rw [ei] at ec;obtain ⟨rfl,-⟩:=List.cons.inj ec;decide
  ·have hu':=hu
   have hr:=AL (hw n.natAbs) hu'.stops
   rw [ei,List.cons_append,oM,if_neg (by decide),if_pos (by decide)]
   have hne:b≠62:=fun h=>by rw [h] at hbd;exact absurd hbd (by decide)
   have hint:jR (45::decDigits n.natAbs)=true:=by
    simp [jR,WU hpos (by omega)]
   have htk:(45::(decDigits n.natAbs++u)).take (1+(decDigits n.natAbs).length)=45::decDigits n.natAbs:=by
    rw [Nat.add_comm,List.take_succ_cons,List.take_left]
   have hr':=hr
   rw [e] at hr' ⊢
   simp only [List.cons_append] at hr' ⊢
   rw [if_neg hne,if_pos (UN hbd),hr']
   unfold qj
   rw [e] at htk hint
   simp only [List.cons_append] at htk
   rw [htk,if_pos hint]
   simp;omega
 ·have ei:itoa n=decDigits n.toNat:=by unfold itoa;rw [if_neg hneg]
  have hint:jR (decDigits n.toNat)=true:=by
   by_cases h0:n.toNat=0
   ·rw [h0,yY (by omega)];decide
   ·obtain ⟨b,r,e,hb⟩:=QC n.toNat (by omega)
    have hbd:Jj b=true:=wW n.toNat b (by rw [e];simp)
    have h45:¬(decDigits n.toNat).head?=some 45:=by
     rw [e];simp;intro h;rw [h] at hbd;exact absurd hbd (by decide)
    simp [jR,h45,WU (u:=n.toNat) (by omega) (by omega)]
  obtain ⟨b,r,e⟩:∃b r,decDigits n.toNat=b::r:=by
   cases hd:decDigits n.toNat with
   | nil=>exact absurd hd (ac7 _)
   | cons b r=>exact ⟨b,r,rfl⟩
  have hbd:Jj b=true:=wW n.toNat b (by rw [e];simp)
  have hc:=UN hbd
  refine ⟨by decide,by rw [ei];exact ac7 _,fun c q ec=>?_,fun u hu=>?_⟩
  ·rw [ei,e] at ec;obtain ⟨rfl,-⟩:=List.cons.inj ec;rw [hc];decide
  ·have hu':=hu
   have hr:=AL (hw n.toNat) hu'.stops
   have htk:(decDigits n.toNat++u).take (decDigits n.toNat).length=decDigits n.toNat:=List.take_left
   rw [ei]
   rw [e] at hr htk hint ⊢
   simp only [List.cons_append] at hr htk ⊢
   rw [oM,if_neg (by rw [hc];decide),if_neg (by rw [hc];decide),if_pos hc,hr]
   unfold qj
   rw [htk,if_pos hint]
theorem Reads.tk {n:Nat} {u:List UInt8} {M:List Tk} (h:Reads n u M) {x:Tk} (hx:J4 x.1 x.2) (hu:Fol u) (ws:List UInt8) (hw:∀b∈ws,uf b=true):Reads (n+1) (ws++(x.2++u)) (x::M):=
 h.tok hx.k0 hx.ne hx.b0 hw (hx.sc u hu)
theorem Reads.fin:Reads 1 [] [(4,[])]:=fun a=>⟨[(4,[],a)],by simp [Qh],rfl⟩
end Go.Ai.Z
namespace Go.Ai.Z
open Go.Ai
theorem Np (l:List UInt8) (b:UInt8) (s:St) (cx:Ctx):aj P0 (.fn (.func mF) [] []) [.s l,.s [b]] s cx=.ret (.b (decide (b∈l))) s:=by
 have e1:∀s cx,aj P0 (.fn (.func qH) [] []) [.s l,.s [b]] s cx=.ret (.i .i64 (Go.Lib.indexByte l b)) s:=fun s cx=>by
  refine Le (by simp) ?_
  simp [af,sK,U2]
 refine Gh (by simp) ?_
 cases hc:yj b l with
 | none=>
  have h1:=index_none hc
  have h2:=TJ.1 hc
  simp [af,lF,e1,h1,h2]
 | some p=>
  obtain ⟨x,y⟩:=p
  have h1:=Ii hc
  have h2:b∈l:=by rw [zD hc];simp
  have h3:(0:Int)≤x.length:=by omega
  simp [af,lF,e1,h1,h2,h3]
def qO (r:List Tok):dA:=.cells [.sl (r.map fM)]
structure Sr (S:List Tok→St) (l N:Nat):Prop where
 cell:∀r,(S r)[l]?=some (qO r)
 sets:∀r q,(S r).set l (qO q)=S q
 n:∀r,(S r).length=N
theorem Sr.lt {S:List Tok→St} {l N:Nat} (h:Sr S l N):l<N:=by
 have:=(List.getElem?_eq_some_iff.1 (h.cell [])).1
 rw [h.n] at this;exact this
theorem Sr.app {S:List Tok→St} {l N:Nat} (h:Sr S l N) (X:St):Sr (fun r=>S r++X) l (N+X.length):=by
 have hl:=h.lt
 refine ⟨fun r=>?_,fun r q=>?_,fun r=>by simp [h.n]⟩
 ·rw [List.getElem?_append_left (by rw [h.n];exact hl)];exact h.cell r
 ·rw [List.set_append_left _ _ (by rw [h.n];exact hl),h.sets]
theorem aaN (u:List Tok):(AV.sl (u.map fM)).flat=true:=by
 show (u.map fM).all AV.flat2=true
 rw [List.all_eq_true]
 intro x hx
 obtain ⟨t,_,rfl⟩:=List.mem_map.1 hx
 rfl
theorem ZC (u:List Tok):(u.map fM).take u.length=u.map fM:=List.take_of_length_le (by simp)
def wrg (a:Int):AV:=.ifc oD (.ag [.i .i64 a])
@[simp] theorem ajx (S:St) (n:Nat) (a:Int):frz S n (wrg a)=some (wrg a):=by simp [frz,wrg,AV.under]
@[simp] theorem aiq (S:St) (n:Nat) (a:Int):frz S n (.ifc oD (.ag [.i .i64 a]))=some (.ifc oD (.ag [.i .i64 a])):=by simp [frz,AV.under]
def Ro {α:Type} (enc:α→AV) (S:List Tok→St) (x:PR α):CO:=
 match x with
 | .ok v r=>.ret (enc v) (S r)
 | .er a _ r=>.pan (wrg a) (S r)
@[simp] theorem Vb {α:Type} (enc:α→AV) (S:List Tok→St) (v:α) (r:List Tok):Ro enc S (.ok v r)=.ret (enc v) (S r):=rfl
@[simp] theorem CX {α:Type} (enc:α→AV) (S:List Tok→St) (a e:Int) (r:List Tok):Ro enc S (.er a e r:PR α)=.pan (wrg a) (S r):=rfl
theorem Ad {α:Type} (enc:α→AV) (S:List Tok→St) (x:PR α):Ro enc S x≠.fail:=by cases x<;>simp
def qEr {α:Type} (l:List Tok):PR α:=.er (hT l).2.2 0 l
def isQ (w:List UInt8) (l:List Tok):Bool:=decide (txt l=w) && (decide ((hT l).1=3) || decide ((hT l).1=1))
def wo (w:List UInt8) (l:List Tok):PR Unit:=if isQ w l=true then .ok () l.tail else qEr l
def CZ (l:List Tok):PR (List UInt8):=if (hT l).1=1∧kwS (txt l)=false then .ok (txt l) l.tail else qEr l
def Rw (l:List Tok):PR Int:=if (hT l).1=2 then (match Go.Lib.atoi (txt l) with|some n=>.ok n l.tail|none=>qEr l) else qEr l
def adX (l:List UInt8):Bool:=match l with | []=>false|b::_=>Ph b.toNat
def Kw (l:List Tok):PR (List UInt8):=if (hT l).1=1∧adX (txt l)=true∧58 ∉ txt l then .ok (63::txt l) l.tail else qEr l
def AU (l:List Tok):PR (List UInt8):=if isQ [63] l=true then Kw l.tail else CZ l
theorem Qj {w:List UInt8} {l:List Tok} (hl:WT l) (h:isQ w l=true):∃t r,l=t::r∧ado t∧WT r:=by
 refine hl.tl (.inr fun h4=>?_)
 unfold isQ at h
 rw [h4] at h
 simp at h
theorem WT.tail_len {l:List Tok} {t:Tok} {r:List Tok} (hr:WT r) (_:l=t::r):0<r.length:=by
 have:=hr.ne
 cases r with
 | nil=>exact absurd rfl this
 | cons=>simp
section
variable {S:List Tok→St} {l N:Nat} (hE:Sr S l N)
include hE
theorem Pj {r:List Tok} (h:WT r) (cx:Ctx):aj P0 (.fn (.func dP) [] []) [.pt l 0] (S r) cx=.pan (wrg (hT r).2.2) (S r):=by
 have hc:=hE.cell r
 obtain ⟨t,u,rfl⟩:∃t u,r=t::u:=by cases h with|fin a=>exact ⟨_,_,rfl⟩|cons t u=>exact ⟨t,u,rfl⟩
 unfold qO at hc
 refine EH (by simp) ?_
 simp [af,nK,hc,fM,jS,splice,wrg]
theorem Ur {t:Tok} {u:List Tok} (hu:WT u) (cx:Ctx) (hl:cx.lim≤l):aj P0 (.fn (.func fV) [] []) [.pt l 0] (S (t::u)) cx=.ret (fM t) (S u):=by
 have hc:=hE.cell (t::u)
 have hs:=hE.sets (t::u) u
 have hlen:=hu.tail_len (t:=t) rfl
 have hn:¬u.length=0:=by omega
 have h1:(1:Int)<(u.length:Int)+1:=by omega
 unfold qO at hc hs
 have hf:=aaN u
 have ht:=ZC u
 have hU:(u.map fM).length=u.length:=by simp
 have hcl:∀x,x∈u.map fM→x.cells.length=3:=fun x hx=>by obtain ⟨t,_,rfl⟩:=List.mem_map.1 hx;rfl
 simp only [List.map_cons] at hc
 refine EF (by simp) ?_
 generalize u.map fM=U at *
 simp [af,nJ,hE.n,hc,fM,splice,h1,hl,hs,hf,ht,hU]
 rw [if_pos hcl]
 simp [hl,hf,hs,splice,hc,hE.n]
theorem ah9 {r:List Tok} (h:WT r) (w:List UInt8) (cx:Ctx):aj P0 (.fn (.func nV) [] []) [.pt l 0,.s w] (S r) cx=.ret (.b (isQ w r)) (S r):=by
 have hc:=hE.cell r
 obtain ⟨t,u,rfl⟩:∃t u,r=t::u:=by cases h with|fin a=>exact ⟨_,_,rfl⟩|cons t u=>exact ⟨t,u,rfl⟩
 unfold qO at hc
 refine Io (by simp) ?_
 unfold isQ
 by_cases h1:t.2.1=w<;>by_cases h3:t.1=3<;>by_cases h4:t.1=1<;>simp [af,qg,hE.n,hc,fM,splice,h1,h3,h4]
theorem wK {r:List Tok} (h:WT r) {w:List UInt8} (hw:isQ w r=false) (cx:Ctx):aj P0 (.fn (.func bP) [] []) [.pt l 0,.s w] (S r) cx=.ret (.b false) (S r):=by
 have h1:=ah9 hE h w
 rw [hw] at h1
 refine xH (by simp) ?_
 simp [af,kS,hE.n,h1]
theorem uG {r:List Tok} (h:WT r) {w:List UInt8} (hw:isQ w r=true) (cx:Ctx) (hl:cx.lim≤l):aj P0 (.fn (.func bP) [] []) [.pt l 0,.s w] (S r) cx=.ret (.b true) (S r.tail):=by
 have h1:=ah9 hE h w
 rw [hw] at h1
 obtain ⟨t,u,rfl,_,hu⟩:=Qj h hw
 have h2:=Ur hE (t:=t) hu ⟨cx.lim,(S (t::u)).length⟩ hl
 simp only [hE.n] at h2
 refine xH (by simp) ?_
 simp [af,kS,hE.n,h1,h2]
theorem Kv {r:List Tok} (h:WT r) (w:List UInt8) (cx:Ctx) (hl:cx.lim≤l):aj P0 (.fn (.func dO) [] []) [.pt l 0,.s w] (S r) cx=Ro (fun _=>.tu []) S (wo w r):=by
 refine Ez (Ad _ _ _) ?_
 unfold wo
 by_cases hw:isQ w r=true
 ·have h1:=uG hE h hw ⟨cx.lim,(S r).length⟩ hl
  simp only [hE.n] at h1
  rw [if_pos hw]
  simp [af,kQ,hE.n,h1]
 ·have h1:=wK hE h (by simpa using hw)
  have h2:=Pj hE h
  rw [if_neg hw]
  simp [af,kQ,hE.n,h1,h2,qEr]
theorem abV {r:List Tok} (h:WT r) (cx:Ctx) (hl:cx.lim≤l):aj P0 (.fn (.func jG) [] []) [.pt l 0] (S r) cx=Ro .s S (CZ r):=by
 refine EG (Ad _ _ _) ?_
 unfold CZ
 have hc:=hE.cell r
 unfold qO at hc
 by_cases hk:(Z.hT r).1=1∧kwS (txt r)=false
 ·rw [if_pos hk]
  obtain ⟨t,u,rfl,_,hu⟩:=h.tl (.inr (by rw [hk.1];decide))
  have h2:=Ur hE (t:=t) hu ⟨cx.lim,(S (t::u)).length⟩ hl
  simp only [hE.n] at h2
  simp only [zY,IL] at hk
  simp [af,je,hE.n,hc,fM,splice,hk,h2]
 ·have h2:=Pj hE h
  rw [if_neg hk]
  obtain ⟨t,u,rfl⟩:∃t u,r=t::u:=by cases h with|fin a=>exact ⟨_,_,rfl⟩|cons t u=>exact ⟨t,u,rfl⟩
  simp only [zY,IL] at hk h2
  by_cases h1:t.1=1
  ·have h3:kwS t.2.1=true:=by
    cases h4:kwS t.2.1 with
    | true=>rfl
    | false=>exact absurd ⟨h1,h4⟩ hk
   simp [af,je,hE.n,hc,fM,splice,h1,h3,h2,qEr]
  ·simp [af,je,hE.n,hc,fM,splice,h1,h2,qEr]
theorem aeP {r:List Tok} (h:WT r) (cx:Ctx) (hl:cx.lim≤l):aj P0 (.fn (.func iC) [] []) [.pt l 0] (S r) cx=Ro (.i .i64) S (Rw r):=by
 refine Bf (Ad _ _ _) ?_
 unfold Rw
 have hc:=hE.cell r
 unfold qO at hc
 by_cases hk:(Z.hT r).1=2
 ·rw [if_pos hk]
  obtain ⟨t,u,rfl,ht,hu⟩:=h.tl (.inr (by rw [hk];decide))
  have h2:=Ur hE (t:=t) hu ⟨cx.lim,(S (t::u)).length⟩ hl
  simp only [hE.n] at h2
  simp only [zY] at hk
  obtain ⟨n,hn,hl18⟩:=ht.int hk
  have e2:∀(s:St) (cx:Ctx),aj P0 (.fn (.func zQ) [] []) [.s t.2.1] s cx=.ret (.tu [.i .i64 n,.ni]) s:=fun s cx=>
   vM (h:=Gt Wy) rfl (by simp only [Gt,Wy,List.nil_append,List.append_nil];rw [if_pos hl18,hn];rfl)
  simp [af,jg,hE.n,hc,fM,splice,hk,h2,e2,hn,Uw]
 ·have h2:=Pj hE h
  rw [if_neg hk]
  obtain ⟨t,u,rfl⟩:∃t u,r=t::u:=by cases h with|fin a=>exact ⟨_,_,rfl⟩|cons t u=>exact ⟨t,u,rfl⟩
  simp only [zY] at hk h2
  simp [af,jg,hE.n,hc,fM,splice,hk,h2,qEr]
theorem aeO {r:List Tok} (h:WT r) (cx:Ctx) (hl:cx.lim≤l):aj P0 (.fn (.func gB) [] []) [.pt l 0] (S r) cx=Ro .s S (Kw r):=by
 refine Aj (Ad _ _ _) ?_
 unfold Kw
 have hc:=hE.cell r
 unfold qO at hc
 by_cases hk:(Z.hT r).1=1∧adX (txt r)=true∧58 ∉ txt r
 ·rw [if_pos hk]
  obtain ⟨t,u,rfl,htk,hu⟩:=h.tl (.inr (by rw [hk.1];decide))
  have h2:=Ur hE (t:=t) hu ⟨cx.lim,(S (t::u)).length⟩ hl
  simp only [hE.n] at h2
  simp only [zY,IL] at hk
  obtain ⟨k1,k2,k3⟩:=hk
  have hlen:=htk.len
  have e1:=Np t.2.1 58
  cases hx:t.2.1 with
  | nil=>rw [hx] at k2;cases k2
  | cons b v=>
   rw [hx] at k2 k3 e1 hlen
   simp only [adX] at k2
   simp only [List.length_cons] at hlen
   have hl2:v.length≤4611686018427387902:=by omega
   simp [af,dB,hE.n,hc,fM,splice,hx,k1,k2,k3,h2,e1,hl2]
 ·have h2:=Pj hE h
  rw [if_neg hk]
  obtain ⟨t,u,rfl⟩:∃t u,r=t::u:=by cases h with|fin a=>exact ⟨_,_,rfl⟩|cons t u=>exact ⟨t,u,rfl⟩
  simp only [zY,IL] at hk h2
  have e1:=Np t.2.1 58
  by_cases h1:t.1=1
  ·cases hx:t.2.1 with
   | nil=>simp [af,dB,hE.n,hc,fM,splice,hx,h1,h2,qEr]
   | cons b v=>
    rw [hx] at hk e1
    by_cases h3:Ph b.toNat=true
    ·have h4:58∈b::v:=by
      rcases Classical.em (58∈b::v) with h|h
      ·exact h
      ·exact absurd ⟨h1,h3,h⟩ hk
     simp [af,dB,hE.n,hc,fM,splice,hx,h1,h2,h3,e1,h4,qEr]
    ·simp [af,dB,hE.n,hc,fM,splice,hx,h1,h2,h3,qEr]
  ·simp [af,dB,hE.n,hc,fM,splice,h1,h2,qEr]
theorem abT {r:List Tok} (h:WT r) (cx:Ctx) (hl:cx.lim≤l):aj P0 (.fn (.func jE) [] []) [.pt l 0] (S r) cx=Ro .s S (AU r):=by
 refine EC (Ad _ _ _) ?_
 unfold AU
 by_cases hw:isQ [63] r=true
 ·rw [if_pos hw]
  have h1:=uG hE h hw ⟨cx.lim,(S r).length⟩ hl
  obtain ⟨t,u,rfl,_,hu⟩:=Qj h hw
  have h2:=aeO hE hu ⟨cx.lim,(S (t::u)).length⟩ hl
  simp only [hE.n,List.tail_cons] at h1 h2 ⊢
  cases hx:Kw u<;>rw [hx] at h2<;>simp [af,kR,hE.n,h1,h2]
 ·rw [if_neg hw]
  have h1:=wK hE h (by simpa using hw)
  have h2:=abV hE h ⟨cx.lim,(S r).length⟩ hl
  simp only [hE.n] at h2
  cases hx:CZ r<;>rw [hx] at h2<;>simp [af,kR,hE.n,h1,h2]
end
end Go.Ai.Z
namespace Go.Ai.Z
open Go.Ai
def qIn:List UInt8:=[105,110]
def qTo:List UInt8:=[116,111]
def He:List UInt8:=[97,110,100]
def qOr:List UInt8:=[111,114]
def BN:List UInt8:=[115,101,108,101,99,116]
def Ru:List UInt8:=[119,104,101,114,101]
def abX (nm x:List UInt8) (l:List Tok):PR At:=
 (Rw l).bind fun lo l6=>(wo qTo l6).bind fun _ l7=>(Rw l7).bind fun hi l8=>.ok ⟨3,nm,x,[],lo,hi⟩ l8
def DX (l:List Tok):PR At:=
 (CZ l).bind fun nm l1=>(wo [40] l1).bind fun _ l2=>(AU l2).bind fun x l3=>
  if isQ [44] l3=true then (AU l3.tail).bind fun y l4=>(wo [41] l4).bind fun _ l5=>.ok ⟨2,nm,x,y,0,0⟩ l5
  else (wo [41] l3).bind fun _ l4=>if isQ qIn l4=true then abX nm x l4.tail else .ok ⟨1,nm,x,[],0,0⟩ l4
theorem xG {α:Type} {l:List Tok} (h:WT l):Good' l (qEr l:PR α):=⟨h,[],rfl⟩
theorem lu {w:List UInt8} {l:List Tok} (h:WT l):Good' l (wo w l):=by
 unfold wo
 split
 ·rename_i h1
  obtain ⟨t,r,rfl,_,hr⟩:=Qj h h1
  exact ⟨hr,[t],by simp,rfl⟩
 ·exact xG h
theorem Cb {l:List Tok} (h:WT l):Good' l (CZ l):=by
 unfold CZ
 split
 ·rename_i h1
  obtain ⟨t,r,rfl,_,hr⟩:=h.tl (.inr (by rw [h1.1];decide))
  exact ⟨hr,[t],by simp,rfl⟩
 ·exact xG h
theorem KX {l:List Tok} (h:WT l):Good' l (Rw l):=by
 unfold Rw
 split
 ·rename_i h1
  split
  ·obtain ⟨t,r,rfl,_,hr⟩:=h.tl (.inr (by rw [h1];decide))
   exact ⟨hr,[t],by simp,rfl⟩
  ·exact xG h
 ·exact xG h
theorem Fz {l:List Tok} (h:WT l):Good' l (Kw l):=by
 unfold Kw
 split
 ·rename_i h1
  obtain ⟨t,r,rfl,_,hr⟩:=h.tl (.inr (by rw [h1.1];decide))
  exact ⟨hr,[t],by simp,rfl⟩
 ·exact xG h
theorem Good'.isQ {β:Type} {w:List UInt8} {l:List Tok} (h:WT l) (ht:isQ w l=true) {x:PR β} (hx:Aa l.tail x):Good' l x:=by
 obtain ⟨t,r,rfl,_,hr⟩:=Qj h ht
 cases x with
 | ok v r2=>obtain ⟨q1,q,q2⟩:=hx;exact ⟨q1,t::q,by simp,by rw [show r=q++r2 from q2];rfl⟩
 | er a e r2=>obtain ⟨q1,q,q2⟩:=hx;exact ⟨q1,t::q,by rw [show r=q++r2 from q2];rfl⟩
theorem WT.isQ_tail {w:List UInt8} {l:List Tok} (h:WT l) (ht:isQ w l=true):WT l.tail∧l.tail.length+1=l.length:=by
 obtain ⟨t,r,rfl,_,hr⟩:=Qj h ht
 exact ⟨hr,rfl⟩
theorem zA {l:List Tok} (h:WT l):Good' l (AU l):=by
 unfold AU
 split
 ·rename_i h1;exact .isQ h h1 (Fz (h.isQ_tail h1).1).zero
 ·exact Cb h
theorem aal {nm x:List UInt8} {l:List Tok} (h:WT l):Good' l (abX nm x l):=
 (KX h).bind fun lo l6 _ h6=>((lu h6).bind fun _ l7 _ h7=>((KX h7).bind fun hi l8 _ h8=>FB _ h8).zero).zero
theorem wS {l:List Tok} (h:WT l):Good' l (DX l):=
 (Cb h).bind fun nm l1 _ h1=>((lu h1).bind fun _ l2 _ h2=>((zA h2).bind fun x l3 _ h3=>by
  split
  ·rename_i h4
   exact (Good'.isQ h3 h4 ((zA (h3.isQ_tail h4).1).bind fun y l4 _ h4=>((lu h4).bind fun _ l5 _ h5=>FB _ h5).zero).zero).zero
  ·refine ((lu h3).bind fun _ l4 _ h4=>?_).zero
   split
   ·rename_i h5
    exact (Good'.isQ h4 h5 (aal (h4.isQ_tail h5).1).zero).zero
   ·exact FB _ h4).zero).zero
theorem Good'.ok {α:Type} {l r:List Tok} {x:PR α} {v:α} (h:Good' l x) (hx:x=.ok v r):WT r∧r.length<l.length:=by
 rw [hx] at h
 obtain ⟨h1,p,h2,h3⟩:=h
 refine ⟨h1, ?_⟩
 rw [h3]
 cases p with
 | nil=>exact absurd rfl h2
 | cons a p=>simp;omega
section
variable {S:List Tok→St} {l N:Nat} (hE:Sr S l N)
include hE
theorem abW {r:List Tok} (h:WT r) (cx:Ctx) (hl:cx.lim≤l):aj P0 (.fn (.func jH) [] []) [.pt l 0] (S r) cx=Ro aX S (DX r):=by
 refine EI (Ad _ _ _) ?_
 have hN:=hE.n
 unfold DX
 have e1:=abV hE h ⟨cx.lim,N⟩ hl
 cases x1:CZ r with
 | er a e r'=>rw [x1] at e1;simp [af,aS,hN,e1]
 | ok nm l1=>
  rw [x1] at e1
  have w1:=((Cb h).ok x1).1
  have e2:=Kv hE w1 [40] ⟨cx.lim,N⟩ hl
  simp only [PR.bind_ok]
  cases x2:wo [40] l1 with
  | er a e r'=>rw [x2] at e2;simp [af,aS,hN,e1,e2,splice,jS]
  | ok _ l2=>
   rw [x2] at e2
   have w2:=((lu w1).ok x2).1
   have e3:=abT hE w2 ⟨cx.lim,N⟩ hl
   simp only [PR.bind_ok]
   cases x3:AU l2 with
   | er a e r'=>rw [x3] at e3;simp [af,aS,hN,e1,e2,e3,splice,jS]
   | ok x l3=>
    rw [x3] at e3
    have w3:=((zA w2).ok x3).1
    simp only [PR.bind_ok]
    by_cases c4:isQ [44] l3=true
    ·have e4:=uG hE w3 c4 ⟨cx.lim,N⟩ hl
     have w4:=(w3.isQ_tail c4).1
     have e5:=abT hE w4 ⟨cx.lim,N⟩ hl
     rw [if_pos c4]
     cases x5:AU l3.tail with
     | er a e r'=>rw [x5] at e5;simp [af,aS,hN,e1,e2,e3,e4,e5,splice,jS]
     | ok y l5=>
      rw [x5] at e5
      have w5:=((zA w4).ok x5).1
      have e6:=Kv hE w5 [41] ⟨cx.lim,N⟩ hl
      simp only [PR.bind_ok]
      cases x6:wo [41] l5 with
      | er a e r'=>rw [x6] at e6;simp [af,aS,hN,e1,e2,e3,e4,e5,e6,splice,jS]
      | ok _ l6=>rw [x6] at e6;simp [af,aS,hN,e1,e2,e3,e4,e5,e6,splice,jS,aX]
    ·have e4:=wK hE w3 (by simpa using c4)
     have e5:=Kv hE w3 [41] ⟨cx.lim,N⟩ hl
     rw [if_neg c4]
     cases x5:wo [41] l3 with
     | er a e r'=>rw [x5] at e5;simp [af,aS,hN,e1,e2,e3,e4,e5,splice,jS]
     | ok _ l4=>
      rw [x5] at e5
      have w4:=((lu w3).ok x5).1
      simp only [PR.bind_ok]
      by_cases c6:isQ qIn l4=true
      ·have e6:=uG hE w4 c6 ⟨cx.lim,N⟩ hl
       have w6:=(w4.isQ_tail c6).1
       have e7:=aeP hE w6 ⟨cx.lim,N⟩ hl
       rw [if_pos c6]
       unfold abX
       simp only [qIn] at e6
       cases x7:Rw l4.tail with
       | er a e r'=>rw [x7] at e7;simp [af,aS,hN,e1,e2,e3,e4,e5,e6,e7,splice,jS]
       | ok lo l7=>
        rw [x7] at e7
        have w7:=((KX w6).ok x7).1
        have e8:=Kv hE w7 qTo ⟨cx.lim,N⟩ hl
        simp only [PR.bind_ok]
        cases x8:wo qTo l7 with
        | er a e r'=>rw [x8] at e8;simp only [qTo] at e8;simp [af,aS,hN,e1,e2,e3,e4,e5,e6,e7,e8,splice,jS]
        | ok _ l8=>
         rw [x8] at e8
         have w8:=((lu w7).ok x8).1
         have e9:=aeP hE w8 ⟨cx.lim,N⟩ hl
         simp only [PR.bind_ok]
         simp only [qTo] at e8
         cases x9:Rw l8 with
         | er a e r'=>rw [x9] at e9;simp [af,aS,hN,e1,e2,e3,e4,e5,e6,e7,e8,e9,splice,jS]
         | ok hi l9=>rw [x9] at e9;simp [af,aS,hN,e1,e2,e3,e4,e5,e6,e7,e8,e9,splice,jS,aX]
      ·have e6:=wK hE w4 (by simpa using c6)
       rw [if_neg c6]
       simp only [qIn] at e6
       simp [af,aS,hN,e1,e2,e3,e4,e5,e6,splice,jS,aX]
end
end Go.Ai.Z
