/-
 Tokens as the lexer yields them, for all texts; tokens of printed texts.
-/
import Derived.Test.YtdjjghikaijfpaaGreatDoorAiLex1Lex2Y4Y5
import Derived.Test.YtdjjghikaijfpaaGreatDoorAiQA5QA6QA7QB1QB2
set_option maxRecDepth 100000
set_option linter.unusedSimpArgs false
set_option linter.unusedVariables false
set_option linter.unusedSectionVars false
namespace Go.Ai.Z
open Go.Lib (atoi itoa decNat decFrom digitVal decDigits)
open Go.Ai.Inj
inductive PR (α:Type) where
 | ok (v:α) (r:List Tok)
 | er (a e:Int) (r:List Tok)
def PR.bind {α β:Type} (x:PR α) (f:α→List Tok→PR β):PR β:=
 match x with
 | .ok v r=>f v r
 | .er a e r=>.er a e r
@[simp] theorem PR.bind_ok {α β:Type} (v:α) (r:List Tok) (f:α→List Tok→PR β):(PR.ok v r).bind f=f v r:=rfl
@[simp] theorem PR.bind_er {α β:Type} (a e:Int) (r:List Tok) (f:α→List Tok→PR β):(PR.er a e r).bind f=.er a e r:=rfl
structure afL (t:Tok):Prop where
 k:t.1=1∨t.1=2∨t.1=3
 ne:t.2.1≠[]
 len:t.2.1.length≤65536
 int:t.1=2→∃n,Go.Lib.atoi t.2.1=some n∧(t.2.1.length≤18∨(t.2.1.length=19∧t.2.1.head?=some 45))
inductive WT:List Tok→Prop
 | fin (a:Nat):WT [(4,[],a)]
 | cons (t:Tok) (r:List Tok):afL t→WT r→WT (t::r)
def hT (l:List Tok):Tok:=l.headD (4,[],0)
def txt (l:List Tok):List UInt8:=(hT l).2.1
@[simp] theorem CV (t:Tok) (r:List Tok):hT (t::r)=t:=rfl
@[simp] theorem LK (t:Tok) (r:List Tok):txt (t::r)=t.2.1:=rfl
theorem WT.ne {l:List Tok} (h:WT l):l≠[]:=by cases h<;>simp
theorem WT.tl {l:List Tok} (h:WT l) (ht:txt l≠[]∨(hT l).1≠4):∃t r,l=t::r∧afL t∧WT r:=by
 cases h with
 | fin a=>simp [txt,hT] at ht
 | cons t r h1 h2=>exact ⟨t,r,rfl,h1,h2⟩
theorem WT.kind {l:List Tok} (h:WT l):(hT l).1=1∨(hT l).1=2∨(hT l).1=3∨(hT l).1=4:=by
 cases h with
 | fin a=>exact .inr (.inr (.inr rfl))
 | cons t r h1 h2=>rcases h1.k with h|h|h<;>simp [h]
def Good' {α:Type} (l:List Tok) (x:PR α):Prop:=
 match x with
 | .ok _ r=>WT r∧∃p,p≠[]∧l=p++r
 | .er _ _ r=>WT r∧∃p,l=p++r
def CX {α:Type} (l:List Tok) (x:PR α):Prop:=
 match x with
 | .ok _ r=>WT r∧∃p,l=p++r
 | .er _ _ r=>WT r∧∃p,l=p++r
theorem Good'.zero {α:Type} {l:List Tok} {x:PR α} (h:Good' l x):CX l x:=by
 cases x with
 | ok v r=>obtain ⟨h1,p,_,h2⟩:=h;exact ⟨h1,p,h2⟩
 | er a e r=>exact h
theorem Good'.bind {α β:Type} {l:List Tok} {x:PR α} {f:α→List Tok→PR β} (h:Good' l x) (hf:∀v r,x=.ok v r→WT r→CX r (f v r)):Good' l (x.bind f):=by
 cases x with
 | er a e r=>exact h
 | ok v r=>
  obtain ⟨h1,p,h2,h3⟩:=h
  have:=hf v r rfl h1
  simp only [PR.bind_ok]
  cases hx:f v r with
  | ok u r2=>rw [hx] at this;obtain ⟨q1,q,q2⟩:=this;exact ⟨q1,p++q,by simp [h2],by rw [h3,q2];simp⟩
  | er a e r2=>rw [hx] at this;obtain ⟨q1,q,q2⟩:=this;exact ⟨q1,p++q,by rw [h3,q2];simp⟩
theorem CX.bind {α β:Type} {l:List Tok} {x:PR α} {f:α→List Tok→PR β} (h:CX l x) (hf:∀v r,x=.ok v r→WT r→CX r (f v r)):CX l (x.bind f):=by
 cases x with
 | er a e r=>exact h
 | ok v r=>
  obtain ⟨h1,p,h3⟩:=h
  have:=hf v r rfl h1
  simp only [PR.bind_ok]
  cases hx:f v r with
  | ok u r2=>rw [hx] at this;obtain ⟨q1,q,q2⟩:=this;exact ⟨q1,p++q,by rw [h3,q2];simp⟩
  | er a e r2=>rw [hx] at this;obtain ⟨q1,q,q2⟩:=this;exact ⟨q1,p++q,by rw [h3,q2];simp⟩
theorem Good'.tok {β:Type} {l:List Tok} (h:WT l) (ht:txt l≠[]∨(hT l).1≠4) {x:PR β} (hx:∀r,WT r→r=l.tail→CX r x):Good' l x:=by
 obtain ⟨t,r,rfl,h1,h2⟩:=h.tl ht
 have:=hx r h2 rfl
 cases x with
 | ok v r2=>obtain ⟨q1,q,q2⟩:=this;exact ⟨q1,t::q,by simp,by rw [q2];rfl⟩
 | er a e r2=>obtain ⟨q1,q,q2⟩:=this;exact ⟨q1,t::q,by rw [q2];rfl⟩
theorem Jl {α:Type} (v:α) {l:List Tok} (h:WT l):CX l (PR.ok v l):=⟨h,[],rfl⟩
theorem Zo:∀(l:List UInt8) (acc:Nat),l.all Np=true→∃n,decFrom acc l=some n
 | [],acc,_=>⟨acc,rfl⟩
 | b::r,acc,h=>by
  simp only [List.all_cons,Bool.and_eq_true] at h
  have hd:digitVal b=some (b.toNat - 48):=by
   unfold digitVal
   have:=h.1
   unfold Np at this
   simp only [Bool.and_eq_true,decide_eq_true_eq] at this
   rw [if_pos this]
  obtain ⟨n,hn⟩:=Zo r (acc * 10+(b.toNat - 48)) h.2
  exact ⟨n,by simp only [decFrom,hd];exact hn⟩
theorem ZE {l:List UInt8} (h:lQ l=true):∃n,decNat l=some n:=by
 unfold lQ at h
 simp only [Bool.and_eq_true,decide_eq_true_eq] at h
 obtain ⟨n,hn⟩:=Zo l 0 h.2
 unfold decNat
 cases l with
 | nil=>simp at h
 | cons b r=>exact ⟨n,hn⟩
theorem ae0 {l:List UInt8} (h:kE l=true):∃n,atoi l=some n∧(l.length≤18∨(l.length=19∧l.head?=some 45)):=by
 unfold kE at h
 rw [Bool.or_eq_true] at h
 rcases h with h|h
 ·have:l=[48]:=by simpa using h
  subst this
  exact ⟨0,rfl,.inl (by decide)⟩
 ·cases l with
  | nil=>simp [lQ] at h
  | cons b r=>
   by_cases hb:b=45
   ·subst hb
    simp only [List.head?_cons,if_true,List.drop_succ_cons,List.drop_zero] at h
    obtain ⟨n,hn⟩:=ZE h
    have hl:r.length≤18:=by unfold lQ at h;simp only [Bool.and_eq_true,decide_eq_true_eq] at h;exact h.1.1.2
    refine ⟨-(n:Int),by simp [atoi,hn], ?_⟩
    by_cases h18:r.length=18
    ·exact .inr ⟨by simp [h18],rfl⟩
    ·exact .inl (by simp;omega)
   ·rw [if_neg (by simpa using hb)] at h
    obtain ⟨n,hn⟩:=ZE h
    have hl:(b::r).length≤18:=by unfold lQ at h;simp only [Bool.and_eq_true,decide_eq_true_eq] at h;exact h.1.1.2
    have h43:(b == 43)=false:=by
     cases hq:(b == 43) with
     | false=>rfl
     | true=>
      rw [beq_iff_eq] at hq
      subst hq
      unfold lQ at h
      simp only [List.all_cons,Bool.and_eq_true] at h
      exact absurd h.2.1 (by decide)
    exact ⟨n,by simp [atoi,hb,h43,hn],.inl hl⟩
theorem aea {b:List UInt8} {w:Nat} (h:iw b=(2,w)):kE (b.take w)=true:=by
 have hi:∀{x:List UInt8} {n:Nat},rq x n=(2,w)→kE (x.take w)=true:=by
  intro x n h
  unfold rq at h
  split at h
  ·rename_i hc;cases h;exact hc
  ·cases h
 cases b with
 | nil=>simp [iw] at h
 | cons c r=>
  rw [ql] at h
  split at h
  ·split at h
   ·split at h<;>cases h
   ·cases h
  ·split at h
   ·split at h
    ·cases h
    ·split at h
     ·cases h
     ·split at h
      ·exact hi h
      ·cases h
   ·split at h
    ·exact hi h
    ·split at h<;>cases h
theorem aai (b:List UInt8):(iw b).1=0∨(iw b).1=1∨(iw b).1=2∨(iw b).1=3:=by
 have hi:∀(x:List UInt8) (n:Nat),(rq x n).1=0∨(rq x n).1=1∨(rq x n).1=2∨(rq x n).1=3:=by
  intro x n;unfold rq;split<;>simp
 cases b with
 | nil=>simp [iw]
 | cons c r=>
  rw [ql]
  split
  ·split
   ·split<;>simp
   ·simp
  ·split
   ·split
    ·simp
    ·split
     ·simp
     ·split
      ·exact hi _ _
      ·simp
   ·split
    ·exact hi _ _
    ·split<;>simp
def tw:List Tok→Nat
 | []=>0
 | t::r=>1+t.2.1.length+tw r
theorem Rx:∀(n:Nat) (b:List UInt8) (a:Nat) (la:Int) (bad:List Pb) {res:List Tok} {bad':List Pb},b.length≤65536→zx n b a la bad=some (res,bad')→WT res∧tw res≤2 * b.length+1
 | 0,b,a,la,bad,res,bad',_,h=>by simp [zx] at h
 | n+1,b,a,la,bad,res,bad',hb,h=>by
  have hdl:=(List.dropWhile_sublist (p:=vI) (l:=b)).length_le
  unfold zx at h
  cases hx:b.dropWhile vI with
  | nil=>
   rw [hx] at h
   simp only [Option.some.injEq,Prod.mk.injEq] at h
   obtain ⟨rfl,_⟩:=h
   exact ⟨.fin _,by simp [tw]⟩
  | cons c r=>
   rw [hx] at h hdl
   simp only [] at h
   have hsp:=SA c r
   have hsl:=abg c r
   have hpos:1≤(c::r).length:=by simp
   split at h
   ·have hds:=(List.dropWhile_sublist (p:=fun x:UInt8=>decide (x≠10)) (l:=c::r)).length_le
    obtain ⟨h1,h2⟩:=Rx n _ _ _ _ (by omega) h
    exact ⟨h1,by omega⟩
   ·split at h
    ·obtain ⟨h1,h2⟩:=Rx n _ _ _ _ (by simp only [List.length_drop];omega) h
     simp only [List.length_drop] at h2
     exact ⟨h1,by omega⟩
    ·rename_i k0
     cases hlex:zx n ((c::r).drop (iw (c::r)).2) (a+(b.length - (c::r).length)+(iw (c::r)).2) la bad with
     | none=>rw [hlex] at h;cases h
     | some p=>
      obtain ⟨res1,bad1⟩:=p
      rw [hlex] at h
      simp only [Option.map_some,Option.some.injEq,Prod.mk.injEq] at h
      obtain ⟨rfl,_⟩:=h
      obtain ⟨h1,h2⟩:=Rx n _ _ _ _ (by simp only [List.length_drop];omega) hlex
      simp only [List.length_drop] at h2
      have hlen:((c::r).take (iw (c::r)).2).length=(iw (c::r)).2:=by rw [List.length_take];omega
      refine ⟨.cons _ _ ⟨?_, ?_, ?_, ?_⟩ h1, ?_⟩
      ·rcases aai (c::r) with h|h|h|h
       ·exact absurd h k0
       ·exact .inl h
       ·exact .inr (.inl h)
       ·exact .inr (.inr h)
      ·intro he
       have:=congrArg List.length he
       simp only [hlen,List.length_nil] at this
       omega
      ·show ((c::r).take (iw (c::r)).2).length≤65536
       omega
      ·intro hk
       exact ae0 (aea (Prod.ext hk rfl))
      ·simp only [tw,hlen];omega
theorem abx {src:List UInt8} (h:src.length≤65536):WT (lexB src).1∧tw (lexB src).1≤2 * src.length+1:=Rx _ src 0 (-1) [] h (XB src)
theorem agl {x:Tk} (hk:x.1≠0) (hne:x.2≠[]) (hb0:∀c r,x.2=c::r→jS c≠1∧jS c≠2) {ws u:List UInt8} (hw:∀b∈ws,vI b=true) (hsc:iw (x.2++u)=(x.1,x.2.length)) (n a:Nat):
  ∃a1 a2,Uf (n+1) (ws++(x.2++u)) a=(Uf n u a2).map ((x.1,x.2,a1)::·):=by
 obtain ⟨c,q,e⟩:∃c q,x.2=c::q:=by
  cases hc:x.2 with
  | nil=>exact absurd hc hne
  | cons c q=>exact ⟨c,q,rfl⟩
 obtain ⟨b1,b2⟩:=hb0 c q e
 have hd:(ws++(x.2++u)).dropWhile vI=c::(q++u):=by
  have hb:vI c=false:=by simp [vI,b1]
  have h0:(x.2++u).dropWhile vI=c::(q++u):=by rw [e,List.cons_append,List.dropWhile_cons,hb];simp
  clear hsc
  induction ws with
  | nil=>exact h0
  | cons b ws ih=>rw [List.cons_append,List.dropWhile_cons,hw b (by simp),if_pos rfl];exact ih (fun y hy=>hw y (by simp [hy]))
 have hsc':iw (c::(q++u))=(x.1,x.2.length):=by rw [←List.cons_append,←e];exact hsc
 have hdr:(c::(q++u)).drop x.2.length=u:=by rw [←List.cons_append,←e];exact List.drop_left
 have htk:(c::(q++u)).take x.2.length=x.2:=by rw [←List.cons_append,←e];exact List.take_left
 refine ⟨a+((ws++(x.2++u)).length - (c::(q++u)).length),a+((ws++(x.2++u)).length - (c::(q++u)).length)+x.2.length, ?_⟩
 rw [Uf,hd]
 simp only [b2,if_false,hsc',hk,hdr,htk]
def Reads (n:Nat) (u:List UInt8) (M:List Tk):Prop:=∀a,∃res:List Tok,Uf n u a=some res∧res.map (fun t=>(t.1,t.2.1))=M
theorem Reads.tok {n:Nat} {u:List UInt8} {M:List Tk} (h:Reads n u M) {x:Tk} (hk:x.1≠0) (hne:x.2≠[]) (hb0:∀c r,x.2=c::r→jS c≠1∧jS c≠2) {ws:List UInt8} (hw:∀b∈ws,vI b=true) (hsc:iw (x.2++u)=(x.1,x.2.length)):
  Reads (n+1) (ws++(x.2++u)) (x::M):=by
 intro a
 obtain ⟨a1,a2,e⟩:=agl hk hne hb0 hw hsc n a
 obtain ⟨res,h1,h2⟩:=h a2
 exact ⟨(x.1,x.2,a1)::res,by rw [e,h1];rfl,by simp [h2]⟩
theorem aeO:∀(n:Nat) (b:List UInt8) (a:Nat) (la:Int) (bad:List Pb) {res:List Tok},Uf n b a=some res→zx n b a la bad=some (res,bad)
 | 0,_,_,_,_,_,h=>by simp [Uf] at h
 | n+1,b,a,la,bad,res,h=>by
  unfold Uf at h
  unfold zx
  cases hx:b.dropWhile vI with
  | nil=>rw [hx] at h;simp at h;simp [h]
  | cons c r=>
   rw [hx] at h
   simp only [] at h ⊢
   split at h
   ·cases h
   rename_i c2
   split at h
   ·cases h
   rename_i k0
   rw [if_neg c2,if_neg k0]
   cases hl:Uf n ((c::r).drop (iw (c::r)).2) (a+(b.length - (c::r).length)+(iw (c::r)).2) with
   | none=>rw [hl] at h;cases h
   | some res1=>
    rw [hl] at h
    simp only [Option.map_some,Option.some.injEq] at h
    rw [aeO n _ _ la bad hl,←h]
    rfl
theorem Jg:∀(n:Nat) (b:List UInt8) (a:Nat) (la:Int) (bad:List Pb) {p:List Tok×List Pb},zx n b a la bad=some p→zx (n+1) b a la bad=some p
 | 0,_,_,_,_,_,h=>by simp [zx] at h
 | n+1,b,a,la,bad,p,h=>by
  unfold zx at h
  rw [zx]
  cases hx:b.dropWhile vI with
  | nil=>rw [hx] at h;exact h
  | cons c r=>
   rw [hx] at h
   simp only [] at h ⊢
   split at h
   ·rename_i c2;rw [if_pos c2];exact Jg n _ _ _ _ h
   rename_i c2
   rw [if_neg c2]
   split at h
   ·rename_i k0;rw [if_pos k0];exact Jg n _ _ _ _ h
   rename_i k0
   rw [if_neg k0]
   cases hl:zx n ((c::r).drop (iw (c::r)).2) (a+(b.length - (c::r).length)+(iw (c::r)).2) la bad with
   | none=>rw [hl] at h;cases h
   | some q=>rw [hl] at h;rw [Jg n _ _ _ _ hl];exact h
theorem abw {n m:Nat} (hnm:n≤m) {b:List UInt8} {a:Nat} {la:Int} {bad:List Pb} {p:List Tok×List Pb} (h:zx n b a la bad=some p):zx m b a la bad=some p:=by
 induction hnm with
 | refl=>exact h
 | step _ ih=>exact Jg _ _ _ _ _ ih
theorem aii {n:Nat} {src:List UInt8} {res:List Tok} (h:Uf n src 0=some res):lexB src=(res,[]):=by
 have h1:=abw (Nat.le_max_left n (src.length+1)) (aeO n src 0 (-1) [] h)
 have h2:=abw (Nat.le_max_right n (src.length+1)) (XB src)
 rw [h1] at h2
 exact (Option.some.inj h2).symm
def Fol (u:List UInt8):Prop:=∀b r,u=b::r→uH b=false∧b≠58
theorem Fol.stops {u:List UInt8} (h:Fol u):Stops uH u:=fun b r e=>(h b r e).1
theorem Fol.nil:Fol []:=fun b r e=>by cases e
theorem Fol.cons {b:UInt8} {r:List UInt8} (h1:uH b=false) (h2:b≠58):Fol (b::r):=fun c q e=>by obtain ⟨rfl,-⟩:=List.cons.inj e;exact ⟨h1,h2⟩
theorem aah {t u:List UInt8} {c:UInt8} {r:List UInt8} (e:t=c::r) (hc:jS c=3) (ht:∀b∈t,uH b=true) (hu:Fol u):iw (t++u)=(1,t.length):=by
 subst e
 have hr:=DJ ht hu.stops
 rw [List.cons_append] at hr ⊢
 rw [ql,if_pos hc,hr]
 have hd:(c::(r++u)).drop (c::r).length=u:=by rw [←List.cons_append];exact List.drop_left
 rw [hd]
 cases u with
 | nil=>rfl
 | cons d q=>
  cases q with
  | nil=>rfl
  | cons e q=>simp [(hu d _ rfl).2]
theorem Yv {x y u:List UInt8} {c e:UInt8} {r q:List UInt8} (ex:x=c::r) (hc:jS c=3) (hx:∀b∈x,uH b=true) (ey:y=e::q) (he:jS e=3) (he':e≠95) (hy:∀b∈y,uH b=true) (hu:Fol u):
  iw ((x++58::y)++u)=(1,(x++58::y).length):=by
 have hr:=DJ (u:=58::(y++u)) hx Stops.colon
 have hr2:=DJ hy hu.stops
 have e0:(x++58::y)++u=c::(r++58::(y++u)):=by rw [ex];simp
 have e1:x++58::(y++u)=c::(r++58::(y++u)):=by rw [ex];simp
 rw [e1] at hr
 rw [e0,ql,if_pos hc,hr]
 have hd:(c::(r++58::(y++u))).drop x.length=58::e::(q++u):=by rw [←e1,List.drop_left,ey];rfl
 rw [hd]
 rw [ey,List.cons_append] at hr2
 simp only [he',he,ne_eq,not_false_eq_true,and_self,if_true,hr2]
 rw [ey];simp;omega
structure NQ (k:Int) (t:List UInt8):Prop where
 k0:k≠0
 ne:t≠[]
 b0:∀c r,t=c::r→jS c≠1∧jS c≠2
 sc:∀u,Fol u→iw (t++u)=(k,t.length)
theorem wO {t:List UInt8} {c:UInt8} {r:List UInt8} (e:t=c::r) (hc:jS c=3) (ht:∀b∈t,uH b=true):NQ 1 t:=
 ⟨by decide,by rw [e];simp,fun c' r' e'=>by rw [e] at e';obtain ⟨rfl,-⟩:=List.cons.inj e';rw [hc];decide,fun u hu=>aah e hc ht hu⟩
theorem Z7 {t:List UInt8} (h:CJ t=true):NQ 1 t:=by
 obtain ⟨⟨b,r,e,hb⟩,h2,_⟩:=vY h
 exact wO e (Rw hb).1 fun x hx=>by rw [←XF];exact tJ h2 x hx
theorem EN {t:List UInt8} (h:jc t=true):NQ 1 t:=by
 unfold jc at h
 rw [Bool.and_eq_true] at h
 have h:=h.2
 split at h
 ·rename_i x y ec
  have el:=nM ec
  rw [Bool.and_eq_true] at h
  obtain ⟨⟨b,r,e,hb⟩,t1,_⟩:=vY h.1
  obtain ⟨⟨b',r',e',hb'⟩,t2,_⟩:=vY h.2
  have hc:=(Rw hb).1
  have w1:∀z∈x,uH z=true:=fun z hz=>by rw [←XF];exact tJ t1 z hz
  have w2:∀z∈y,uH z=true:=fun z hz=>by rw [←XF];exact tJ t2 z hz
  refine ⟨by decide,by rw [el];simp,fun c q ec'=>?_,fun u hu=>?_⟩
  ·rw [el,e] at ec';obtain ⟨rfl,-⟩:=List.cons.inj ec';rw [hc];decide
  ·rw [el];exact Yv e hc w1 e' (Rw hb').1 (Rw hb').2 w2 hu
 ·exact Z7 h
theorem Y3 {n:Int} (h1:-1099511627776≤n) (h2:n≤1099511627776):NQ 2 (itoa n):=by
 have hw:∀u,∀b∈decDigits u,uH b=true:=fun u b hb=>by unfold uH;rw [XT (yV u b hb)];rfl
 by_cases hneg:n<0
 ·have hpos:0<n.natAbs:=by omega
  obtain ⟨b,r,e,hb⟩:=UG n.natAbs hpos
  have ei:itoa n=45::decDigits n.natAbs:=by unfold itoa;rw [if_pos hneg]
  have hbd:ML b=true:=yV n.natAbs b (by rw [e];simp)
  refine ⟨by decide,by rw [ei];simp,fun c q ec=>?_,fun u hu=>?_⟩
  ·rw [ei] at ec;obtain ⟨rfl,-⟩:=List.cons.inj ec;decide
  ·have hu':=hu
   have hr:=DJ (hw n.natAbs) hu'.stops
   rw [ei,List.cons_append,ql,if_neg (by decide),if_pos (by decide)]
   have hne:b≠62:=fun h=>by rw [h] at hbd;exact absurd hbd (by decide)
   have hint:kE (45::decDigits n.natAbs)=true:=by
    simp [kE,Zp hpos (by omega)]
   have htk:(45::(decDigits n.natAbs++u)).take (1+(decDigits n.natAbs).length)=45::decDigits n.natAbs:=by
    rw [Nat.add_comm,List.take_succ_cons,List.take_left]
   have hr':=hr
   rw [e] at hr' ⊢
   simp only [List.cons_append] at hr' ⊢
   rw [if_neg hne,if_pos (XT hbd),hr']
   unfold rq
   rw [e] at htk hint
   simp only [List.cons_append] at htk
   rw [htk,if_pos hint]
   simp;omega
 ·have ei:itoa n=decDigits n.toNat:=by unfold itoa;rw [if_neg hneg]
  have hint:kE (decDigits n.toNat)=true:=by
   by_cases h0:n.toNat=0
   ·rw [h0,AX (by omega)];decide
   ·obtain ⟨b,r,e,hb⟩:=UG n.toNat (by omega)
    have hbd:ML b=true:=yV n.toNat b (by rw [e];simp)
    have h45:¬(decDigits n.toNat).head?=some 45:=by
     rw [e];simp;intro h;rw [h] at hbd;exact absurd hbd (by decide)
    simp [kE,h45,Zp (u:=n.toNat) (by omega) (by omega)]
  obtain ⟨b,r,e⟩:∃b r,decDigits n.toNat=b::r:=by
   cases hd:decDigits n.toNat with
   | nil=>exact absurd hd (afx _)
   | cons b r=>exact ⟨b,r,rfl⟩
  have hbd:ML b=true:=yV n.toNat b (by rw [e];simp)
  have hc:=XT hbd
  refine ⟨by decide,by rw [ei];exact afx _,fun c q ec=>?_,fun u hu=>?_⟩
  ·rw [ei,e] at ec;obtain ⟨rfl,-⟩:=List.cons.inj ec;rw [hc];decide
  ·have hu':=hu
   have hr:=DJ (hw n.toNat) hu'.stops
   have htk:(decDigits n.toNat++u).take (decDigits n.toNat).length=decDigits n.toNat:=List.take_left
   rw [ei]
   rw [e] at hr htk hint ⊢
   simp only [List.cons_append] at hr htk ⊢
   rw [ql,if_neg (by rw [hc];decide),if_neg (by rw [hc];decide),if_pos hc,hr]
   unfold rq
   rw [htk,if_pos hint]
theorem Reads.tk {n:Nat} {u:List UInt8} {M:List Tk} (h:Reads n u M) {x:Tk} (hx:NQ x.1 x.2) (hu:Fol u) (ws:List UInt8) (hw:∀b∈ws,vI b=true):Reads (n+1) (ws++(x.2++u)) (x::M):=
 h.tok hx.k0 hx.ne hx.b0 hw (hx.sc u hu)
theorem Reads.fin:Reads 1 [] [(4,[])]:=fun a=>⟨[(4,[],a)],by simp [Uf],rfl⟩
end Go.Ai.Z
namespace Go.Ai.Z
open Go.Ai
theorem IW (l:List UInt8) (b:UInt8) (s:St) (cx:Ctx):aj P0 (.fn (.func kN) [] []) [.s l,.s [b]] s cx=.ret (.b (decide (b∈l))) s:=by
 have e1:∀s cx,aj P0 (.fn (.func jV) [] []) [.s l,.s [b]] s cx=.ret (.i .i64 (Go.Lib.indexByte l b)) s:=fun s cx=>by
  refine Eg (by simp) ?_
  simp [af,qA,RH]
 refine JQ (by simp) ?_
 cases hc:mJ b l with
 | none=>
  have h1:=index_none hc
  have h2:=Jp.1 hc
  simp [af,lZ,e1,h1,h2]
 | some p=>
  obtain ⟨x,y⟩:=p
  have h1:=BA hc
  have h2:b∈l:=by rw [nM hc];simp
  have h3:(0:Int)≤x.length:=by omega
  simp [af,lZ,e1,h1,h2,h3]
def qO (r:List Tok):dJ:=.cells [.sl (r.map fO)]
structure VQ (S:List Tok→St) (l N:Nat):Prop where
 cell:∀r,(S r)[l]?=some (qO r)
 sets:∀r q,(S r).set l (qO q)=S q
 n:∀r,(S r).length=N
theorem VQ.lt {S:List Tok→St} {l N:Nat} (h:VQ S l N):l<N:=by
 have:=(List.getElem?_eq_some_iff.1 (h.cell [])).1
 rw [h.n] at this;exact this
theorem VQ.app {S:List Tok→St} {l N:Nat} (h:VQ S l N) (X:St):VQ (fun r=>S r++X) l (N+X.length):=by
 have hl:=h.lt
 refine ⟨fun r=>?_,fun r q=>?_,fun r=>by simp [h.n]⟩
 ·rw [List.getElem?_append_left (by rw [h.n];exact hl)];exact h.cell r
 ·rw [List.set_append_left _ _ (by rw [h.n];exact hl),h.sets]
theorem adl (u:List Tok):(AV.sl (u.map fO)).flat=true:=by
 show (u.map fO).all AV.flat2=true
 rw [List.all_eq_true]
 intro x hx
 obtain ⟨t,_,rfl⟩:=List.mem_map.1 hx
 rfl
theorem acf (u:List Tok):(u.map fO).take u.length=u.map fO:=List.take_of_length_le (by simp)
def wrg (a:Int):AV:=.ifc pO (.ag [.i .i64 a])
@[simp] theorem al7 (S:St) (n:Nat) (a:Int):frz S n (wrg a)=some (wrg a):=by simp [frz,wrg,AV.under]
@[simp] theorem akR (S:St) (n:Nat) (a:Int):frz S n (.ifc pO (.ag [.i .i64 a]))=some (.ifc pO (.ag [.i .i64 a])):=by simp [frz,AV.under]
def Vk {α:Type} (enc:α→AV) (S:List Tok→St) (x:PR α):CO:=
 match x with
 | .ok v r=>.ret (enc v) (S r)
 | .er a _ r=>.pan (wrg a) (S r)
@[simp] theorem Yd {α:Type} (enc:α→AV) (S:List Tok→St) (v:α) (r:List Tok):Vk enc S (.ok v r)=.ret (enc v) (S r):=rfl
@[simp] theorem FU {α:Type} (enc:α→AV) (S:List Tok→St) (a e:Int) (r:List Tok):Vk enc S (.er a e r:PR α)=.pan (wrg a) (S r):=rfl
theorem CZ {α:Type} (enc:α→AV) (S:List Tok→St) (x:PR α):Vk enc S x≠.fail:=by cases x<;>simp
def qEr {α:Type} (l:List Tok):PR α:=.er (hT l).2.2 0 l
def isQ (w:List UInt8) (l:List Tok):Bool:=decide (txt l=w) && (decide ((hT l).1=3) || decide ((hT l).1=1))
def yw (w:List UInt8) (l:List Tok):PR Unit:=if isQ w l=true then .ok () l.tail else qEr l
def FX (l:List Tok):PR (List UInt8):=if (hT l).1=1∧kwS (txt l)=false then .ok (txt l) l.tail else qEr l
def Vq (l:List Tok):PR Int:=if (hT l).1=2 then (match Go.Lib.atoi (txt l) with|some n=>.ok n l.tail|none=>qEr l) else qEr l
def agm (l:List UInt8):Bool:=match l with | []=>false|b::_=>SY b.toNat
def Oj (l:List Tok):PR (List UInt8):=if (hT l).1=1∧agm (txt l)=true∧58 ∉ txt l then .ok (63::txt l) l.tail else qEr l
def DT (l:List Tok):PR (List UInt8):=if isQ [63] l=true then Oj l.tail else FX l
theorem Ui {w:List UInt8} {l:List Tok} (hl:WT l) (h:isQ w l=true):∃t r,l=t::r∧afL t∧WT r:=by
 refine hl.tl (.inr fun h4=>?_)
 unfold isQ at h
 rw [h4] at h
 simp at h
theorem WT.tail_len {l:List Tok} {t:Tok} {r:List Tok} (hr:WT r) (_:l=t::r):0<r.length:=by
 have:=hr.ne
 cases r with
 | nil=>exact absurd rfl this
 | cons=>simp
section
variable {S:List Tok→St} {l N:Nat} (hE:VQ S l N)
include hE
theorem S9 {r:List Tok} (h:WT r) (cx:Ctx):aj P0 (.fn (.func eF) [] []) [.pt l 0] (S r) cx=.pan (wrg (hT r).2.2) (S r):=by
 have hc:=hE.cell r
 obtain ⟨t,u,rfl⟩:∃t u,r=t::u:=by cases h with|fin a=>exact ⟨_,_,rfl⟩|cons t u=>exact ⟨t,u,rfl⟩
 unfold qO at hc
 refine Iq (by simp) ?_
 simp [af,oU,hc,fO,iI,splice,wrg]
theorem Xr {t:Tok} {u:List Tok} (hu:WT u) (cx:Ctx) (hl:cx.lim≤l):aj P0 (.fn (.func gu) [] []) [.pt l 0] (S (t::u)) cx=.ret (fO t) (S u):=by
 have hc:=hE.cell (t::u)
 have hs:=hE.sets (t::u) u
 have hlen:=hu.tail_len (t:=t) rfl
 have hn:¬u.length=0:=by omega
 have h1:(1:Int)<(u.length:Int)+1:=by omega
 unfold qO at hc hs
 have hf:=adl u
 have ht:=acf u
 have hU:(u.map fO).length=u.length:=by simp
 have hcl:∀x,x∈u.map fO→x.cells.length=3:=fun x hx=>by obtain ⟨t,_,rfl⟩:=List.mem_map.1 hx;rfl
 simp only [List.map_cons] at hc
 refine Io (by simp) ?_
 generalize u.map fO=U at *
 simp [af,oQ,hE.n,hc,fO,splice,h1,hl,hs,hf,ht,hU]
 rw [if_pos hcl]
 simp [hl,hf,hs,splice,hc,hE.n]
theorem akA {r:List Tok} (h:WT r) (w:List UInt8) (cx:Ctx):aj P0 (.fn (.func pq) [] []) [.pt l 0,.s w] (S r) cx=.ret (.b (isQ w r)) (S r):=by
 have hc:=hE.cell r
 obtain ⟨t,u,rfl⟩:∃t u,r=t::u:=by cases h with|fin a=>exact ⟨_,_,rfl⟩|cons t u=>exact ⟨t,u,rfl⟩
 unfold qO at hc
 refine Lc (by simp) ?_
 unfold isQ
 by_cases h1:t.2.1=w<;>by_cases h3:t.1=3<;>by_cases h4:t.1=1<;>simp [af,qZ,hE.n,hc,fO,splice,h1,h3,h4]
theorem yJ {r:List Tok} (h:WT r) {w:List UInt8} (hw:isQ w r=false) (cx:Ctx):aj P0 (.fn (.func bY) [] []) [.pt l 0,.s w] (S r) cx=.ret (.b false) (S r):=by
 have h1:=akA hE h w
 rw [hw] at h1
 refine zF (by simp) ?_
 simp [af,lF,hE.n,h1]
theorem wB {r:List Tok} (h:WT r) {w:List UInt8} (hw:isQ w r=true) (cx:Ctx) (hl:cx.lim≤l):aj P0 (.fn (.func bY) [] []) [.pt l 0,.s w] (S r) cx=.ret (.b true) (S r.tail):=by
 have h1:=akA hE h w
 rw [hw] at h1
 obtain ⟨t,u,rfl,_,hu⟩:=Ui h hw
 have h2:=Xr hE (t:=t) hu ⟨cx.lim,(S (t::u)).length⟩ hl
 simp only [hE.n] at h2
 refine zF (by simp) ?_
 simp [af,lF,hE.n,h1,h2]
theorem Oi {r:List Tok} (h:WT r) (w:List UInt8) (cx:Ctx) (hl:cx.lim≤l):aj P0 (.fn (.func eu) [] []) [.pt l 0,.s w] (S r) cx=Vk (fun _=>.tu []) S (yw w r):=by
 refine Ij (CZ _ _ _) ?_
 unfold yw
 by_cases hw:isQ w r=true
 ·have h1:=wB hE h hw ⟨cx.lim,(S r).length⟩ hl
  simp only [hE.n] at h1
  rw [if_pos hw]
  simp [af,lC,hE.n,h1]
 ·have h1:=yJ hE h (by simpa using hw)
  have h2:=S9 hE h
  rw [if_neg hw]
  simp [af,lC,hE.n,h1,h2,qEr]
theorem aes {r:List Tok} (h:WT r) (cx:Ctx) (hl:cx.lim≤l):aj P0 (.fn (.func jP) [] []) [.pt l 0] (S r) cx=Vk .s S (FX r):=by
 refine Ip (CZ _ _ _) ?_
 unfold FX
 have hc:=hE.cell r
 unfold qO at hc
 by_cases hk:(Z.hT r).1=1∧kwS (txt r)=false
 ·rw [if_pos hk]
  obtain ⟨t,u,rfl,_,hu⟩:=h.tl (.inr (by rw [hk.1];decide))
  have h2:=Xr hE (t:=t) hu ⟨cx.lim,(S (t::u)).length⟩ hl
  simp only [hE.n] at h2
  simp only [CV,LK] at hk
  simp [af,jl,hE.n,hc,fO,splice,hk,h2]
 ·have h2:=S9 hE h
  rw [if_neg hk]
  obtain ⟨t,u,rfl⟩:∃t u,r=t::u:=by cases h with|fin a=>exact ⟨_,_,rfl⟩|cons t u=>exact ⟨t,u,rfl⟩
  simp only [CV,LK] at hk h2
  by_cases h1:t.1=1
  ·have h3:kwS t.2.1=true:=by
    cases h4:kwS t.2.1 with
    | true=>rfl
    | false=>exact absurd ⟨h1,h4⟩ hk
   simp [af,jl,hE.n,hc,fO,splice,h1,h3,h2,qEr]
  ·simp [af,jl,hE.n,hc,fO,splice,h1,h2,qEr]
theorem ahf {r:List Tok} (h:WT r) (cx:Ctx) (hl:cx.lim≤l):aj P0 (.fn (.func iH) [] []) [.pt l 0] (S r) cx=Vk (.i .i64) S (Vq r):=by
 refine Eh (CZ _ _ _) ?_
 unfold Vq
 have hc:=hE.cell r
 unfold qO at hc
 by_cases hk:(Z.hT r).1=2
 ·rw [if_pos hk]
  obtain ⟨t,u,rfl,ht,hu⟩:=h.tl (.inr (by rw [hk];decide))
  have h2:=Xr hE (t:=t) hu ⟨cx.lim,(S (t::u)).length⟩ hl
  simp only [hE.n] at h2
  simp only [CV] at hk
  obtain ⟨n,hn,hl18⟩:=ht.int hk
  have e2:∀(s:St) (cx:Ctx),aj P0 (.fn (.func xZ) [] []) [.s t.2.1] s cx=.ret (.tu [.i .i64 n,.ni]) s:=fun s cx=>
   rE (h:=Bj Y8) rfl (by simp only [Bj,Y8,List.nil_append,List.append_nil];rw [if_pos hl18,hn];rfl)
  simp [af,jm,hE.n,hc,fO,splice,hk,h2,e2,hn,Xw]
 ·have h2:=S9 hE h
  rw [if_neg hk]
  obtain ⟨t,u,rfl⟩:∃t u,r=t::u:=by cases h with|fin a=>exact ⟨_,_,rfl⟩|cons t u=>exact ⟨t,u,rfl⟩
  simp only [CV] at hk h2
  simp [af,jm,hE.n,hc,fO,splice,hk,h2,qEr]
theorem ahe {r:List Tok} (h:WT r) (cx:Ctx) (hl:cx.lim≤l):aj P0 (.fn (.func gV) [] []) [.pt l 0] (S r) cx=Vk .s S (Oj r):=by
 refine Dq (CZ _ _ _) ?_
 unfold Oj
 have hc:=hE.cell r
 unfold qO at hc
 by_cases hk:(Z.hT r).1=1∧agm (txt r)=true∧58 ∉ txt r
 ·rw [if_pos hk]
  obtain ⟨t,u,rfl,htk,hu⟩:=h.tl (.inr (by rw [hk.1];decide))
  have h2:=Xr hE (t:=t) hu ⟨cx.lim,(S (t::u)).length⟩ hl
  simp only [hE.n] at h2
  simp only [CV,LK] at hk
  obtain ⟨k1,k2,k3⟩:=hk
  have hlen:=htk.len
  have e1:=IW t.2.1 58
  cases hx:t.2.1 with
  | nil=>rw [hx] at k2;cases k2
  | cons b v=>
   rw [hx] at k2 k3 e1 hlen
   simp only [agm] at k2
   simp only [List.length_cons] at hlen
   have hl2:v.length≤4611686018427387902:=by omega
   simp [af,dK,hE.n,hc,fO,splice,hx,k1,k2,k3,h2,e1,hl2]
 ·have h2:=S9 hE h
  rw [if_neg hk]
  obtain ⟨t,u,rfl⟩:∃t u,r=t::u:=by cases h with|fin a=>exact ⟨_,_,rfl⟩|cons t u=>exact ⟨t,u,rfl⟩
  simp only [CV,LK] at hk h2
  have e1:=IW t.2.1 58
  by_cases h1:t.1=1
  ·cases hx:t.2.1 with
   | nil=>simp [af,dK,hE.n,hc,fO,splice,hx,h1,h2,qEr]
   | cons b v=>
    rw [hx] at hk e1
    by_cases h3:SY b.toNat=true
    ·have h4:58∈b::v:=by
      rcases Classical.em (58∈b::v) with h|h
      ·exact h
      ·exact absurd ⟨h1,h3,h⟩ hk
     simp [af,dK,hE.n,hc,fO,splice,hx,h1,h2,h3,e1,h4,qEr]
    ·simp [af,dK,hE.n,hc,fO,splice,hx,h1,h2,h3,qEr]
  ·simp [af,dK,hE.n,hc,fO,splice,h1,h2,qEr]
theorem aep {r:List Tok} (h:WT r) (cx:Ctx) (hl:cx.lim≤l):aj P0 (.fn (.func jM) [] []) [.pt l 0] (S r) cx=Vk .s S (DT r):=by
 refine Ik (CZ _ _ _) ?_
 unfold DT
 by_cases hw:isQ [63] r=true
 ·rw [if_pos hw]
  have h1:=wB hE h hw ⟨cx.lim,(S r).length⟩ hl
  obtain ⟨t,u,rfl,_,hu⟩:=Ui h hw
  have h2:=ahe hE hu ⟨cx.lim,(S (t::u)).length⟩ hl
  simp only [hE.n,List.tail_cons] at h1 h2 ⊢
  cases hx:Oj u<;>rw [hx] at h2<;>simp [af,lD,hE.n,h1,h2]
 ·rw [if_neg hw]
  have h1:=yJ hE h (by simpa using hw)
  have h2:=aes hE h ⟨cx.lim,(S r).length⟩ hl
  simp only [hE.n] at h2
  cases hx:FX r<;>rw [hx] at h2<;>simp [af,lD,hE.n,h1,h2]
end
end Go.Ai.Z
namespace Go.Ai.Z
open Go.Ai
def qIn:List UInt8:=[105,110]
def qTo:List UInt8:=[116,111]
def KG:List UInt8:=[97,110,100]
def qOr:List UInt8:=[111,114]
def EM:List UInt8:=[115,101,108,101,99,116]
def Vp:List UInt8:=[119,104,101,114,101]
def aev (nm x:List UInt8) (l:List Tok):PR At:=
 (Vq l).bind fun lo l6=>(yw qTo l6).bind fun _ l7=>(Vq l7).bind fun hi l8=>.ok ⟨3,nm,x,[],lo,hi⟩ l8
def G5 (l:List Tok):PR At:=
 (FX l).bind fun nm l1=>(yw [40] l1).bind fun _ l2=>(DT l2).bind fun x l3=>
  if isQ [44] l3=true then (DT l3.tail).bind fun y l4=>(yw [41] l4).bind fun _ l5=>.ok ⟨2,nm,x,y,0,0⟩ l5
  else (yw [41] l3).bind fun _ l4=>if isQ qIn l4=true then aev nm x l4.tail else .ok ⟨1,nm,x,[],0,0⟩ l4
theorem zD {α:Type} {l:List Tok} (h:WT l):Good' l (qEr l:PR α):=⟨h,[],rfl⟩
theorem lW {w:List UInt8} {l:List Tok} (h:WT l):Good' l (yw w l):=by
 unfold yw
 split
 ·rename_i h1
  obtain ⟨t,r,rfl,_,hr⟩:=Ui h h1
  exact ⟨hr,[t],by simp,rfl⟩
 ·exact zD h
theorem Fg {l:List Tok} (h:WT l):Good' l (FX l):=by
 unfold FX
 split
 ·rename_i h1
  obtain ⟨t,r,rfl,_,hr⟩:=h.tl (.inr (by rw [h1.1];decide))
  exact ⟨hr,[t],by simp,rfl⟩
 ·exact zD h
theorem OO {l:List Tok} (h:WT l):Good' l (Vq l):=by
 unfold Vq
 split
 ·rename_i h1
  split
  ·obtain ⟨t,r,rfl,_,hr⟩:=h.tl (.inr (by rw [h1];decide))
   exact ⟨hr,[t],by simp,rfl⟩
  ·exact zD h
 ·exact zD h
theorem Jk {l:List Tok} (h:WT l):Good' l (Oj l):=by
 unfold Oj
 split
 ·rename_i h1
  obtain ⟨t,r,rfl,_,hr⟩:=h.tl (.inr (by rw [h1.1];decide))
  exact ⟨hr,[t],by simp,rfl⟩
 ·exact zD h
theorem Good'.isQ {β:Type} {w:List UInt8} {l:List Tok} (h:WT l) (ht:isQ w l=true) {x:PR β} (hx:CX l.tail x):Good' l x:=by
 obtain ⟨t,r,rfl,_,hr⟩:=Ui h ht
 cases x with
 | ok v r2=>obtain ⟨q1,q,q2⟩:=hx;exact ⟨q1,t::q,by simp,by rw [show r=q++r2 from q2];rfl⟩
 | er a e r2=>obtain ⟨q1,q,q2⟩:=hx;exact ⟨q1,t::q,by rw [show r=q++r2 from q2];rfl⟩
theorem WT.isQ_tail {w:List UInt8} {l:List Tok} (h:WT l) (ht:isQ w l=true):WT l.tail∧l.tail.length+1=l.length:=by
 obtain ⟨t,r,rfl,_,hr⟩:=Ui h ht
 exact ⟨hr,rfl⟩
theorem BF {l:List Tok} (h:WT l):Good' l (DT l):=by
 unfold DT
 split
 ·rename_i h1;exact .isQ h h1 (Jk (h.isQ_tail h1).1).zero
 ·exact Fg h
theorem acT {nm x:List UInt8} {l:List Tok} (h:WT l):Good' l (aev nm x l):=
 (OO h).bind fun lo l6 _ h6=>((lW h6).bind fun _ l7 _ h7=>((OO h7).bind fun hi l8 _ h8=>Jl _ h8).zero).zero
theorem yS {l:List Tok} (h:WT l):Good' l (G5 l):=
 (Fg h).bind fun nm l1 _ h1=>((lW h1).bind fun _ l2 _ h2=>((BF h2).bind fun x l3 _ h3=>by
  split
  ·rename_i h4
   exact (Good'.isQ h3 h4 ((BF (h3.isQ_tail h4).1).bind fun y l4 _ h4=>((lW h4).bind fun _ l5 _ h5=>Jl _ h5).zero).zero).zero
  ·refine ((lW h3).bind fun _ l4 _ h4=>?_).zero
   split
   ·rename_i h5
    exact (Good'.isQ h4 h5 (acT (h4.isQ_tail h5).1).zero).zero
   ·exact Jl _ h4).zero).zero
theorem Good'.ok {α:Type} {l r:List Tok} {x:PR α} {v:α} (h:Good' l x) (hx:x=.ok v r):WT r∧r.length<l.length:=by
 rw [hx] at h
 obtain ⟨h1,p,h2,h3⟩:=h
 refine ⟨h1, ?_⟩
 rw [h3]
 cases p with
 | nil=>exact absurd rfl h2
 | cons a p=>simp;omega
section
variable {S:List Tok→St} {l N:Nat} (hE:VQ S l N)
include hE
theorem aeu {r:List Tok} (h:WT r) (cx:Ctx) (hl:cx.lim≤l):aj P0 (.fn (.func jQ) [] []) [.pt l 0] (S r) cx=Vk bG S (G5 r):=by
 refine Ir (CZ _ _ _) ?_
 have hN:=hE.n
 unfold G5
 have e1:=aes hE h ⟨cx.lim,N⟩ hl
 cases x1:FX r with
 | er a e r'=>rw [x1] at e1;simp [af,aU,hN,e1]
 | ok nm l1=>
  rw [x1] at e1
  have w1:=((Fg h).ok x1).1
  have e2:=Oi hE w1 [40] ⟨cx.lim,N⟩ hl
  simp only [PR.bind_ok]
  cases x2:yw [40] l1 with
  | er a e r'=>rw [x2] at e2;simp [af,aU,hN,e1,e2,splice,iI]
  | ok _ l2=>
   rw [x2] at e2
   have w2:=((lW w1).ok x2).1
   have e3:=aep hE w2 ⟨cx.lim,N⟩ hl
   simp only [PR.bind_ok]
   cases x3:DT l2 with
   | er a e r'=>rw [x3] at e3;simp [af,aU,hN,e1,e2,e3,splice,iI]
   | ok x l3=>
    rw [x3] at e3
    have w3:=((BF w2).ok x3).1
    simp only [PR.bind_ok]
    by_cases c4:isQ [44] l3=true
    ·have e4:=wB hE w3 c4 ⟨cx.lim,N⟩ hl
     have w4:=(w3.isQ_tail c4).1
     have e5:=aep hE w4 ⟨cx.lim,N⟩ hl
     rw [if_pos c4]
     cases x5:DT l3.tail with
     | er a e r'=>rw [x5] at e5;simp [af,aU,hN,e1,e2,e3,e4,e5,splice,iI]
     | ok y l5=>
      rw [x5] at e5
      have w5:=((BF w4).ok x5).1
      have e6:=Oi hE w5 [41] ⟨cx.lim,N⟩ hl
      simp only [PR.bind_ok]
      cases x6:yw [41] l5 with
      | er a e r'=>rw [x6] at e6;simp [af,aU,hN,e1,e2,e3,e4,e5,e6,splice,iI]
      | ok _ l6=>rw [x6] at e6;simp [af,aU,hN,e1,e2,e3,e4,e5,e6,splice,iI,bG]
    ·have e4:=yJ hE w3 (by simpa using c4)
     have e5:=Oi hE w3 [41] ⟨cx.lim,N⟩ hl
     rw [if_neg c4]
     cases x5:yw [41] l3 with
     | er a e r'=>rw [x5] at e5;simp [af,aU,hN,e1,e2,e3,e4,e5,splice,iI]
     | ok _ l4=>
      rw [x5] at e5
      have w4:=((lW w3).ok x5).1
      simp only [PR.bind_ok]
      by_cases c6:isQ qIn l4=true
      ·have e6:=wB hE w4 c6 ⟨cx.lim,N⟩ hl
       have w6:=(w4.isQ_tail c6).1
       have e7:=ahf hE w6 ⟨cx.lim,N⟩ hl
       rw [if_pos c6]
       unfold aev
       simp only [qIn] at e6
       cases x7:Vq l4.tail with
       | er a e r'=>rw [x7] at e7;simp [af,aU,hN,e1,e2,e3,e4,e5,e6,e7,splice,iI]
       | ok lo l7=>
        rw [x7] at e7
        have w7:=((OO w6).ok x7).1
        have e8:=Oi hE w7 qTo ⟨cx.lim,N⟩ hl
        simp only [PR.bind_ok]
        cases x8:yw qTo l7 with
        | er a e r'=>rw [x8] at e8;simp only [qTo] at e8;simp [af,aU,hN,e1,e2,e3,e4,e5,e6,e7,e8,splice,iI]
        | ok _ l8=>
         rw [x8] at e8
         have w8:=((lW w7).ok x8).1
         have e9:=ahf hE w8 ⟨cx.lim,N⟩ hl
         simp only [PR.bind_ok]
         simp only [qTo] at e8
         cases x9:Vq l8 with
         | er a e r'=>rw [x9] at e9;simp [af,aU,hN,e1,e2,e3,e4,e5,e6,e7,e8,e9,splice,iI]
         | ok hi l9=>rw [x9] at e9;simp [af,aU,hN,e1,e2,e3,e4,e5,e6,e7,e8,e9,splice,iI,bG]
      ·have e6:=yJ hE w4 (by simpa using c6)
       rw [if_neg c6]
       simp only [qIn] at e6
       simp [af,aU,hN,e1,e2,e3,e4,e5,e6,splice,iI,bG]
end
end Go.Ai.Z
