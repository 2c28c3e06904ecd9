/-
 What the lexer yields is well formed; what a parsed concept weighs.
-/
import Derived.Test.YtpnlnnfcaeednaaGreatDoorAiY1Y2Y3
import Derived.Test.YtpnlnnfcaeednaaGreatDoorAiY4Y5
set_option maxRecDepth 100000
set_option linter.unusedSimpArgs false
set_option linter.unusedVariables false
set_option linter.unusedSectionVars false
namespace Go.Ai.Z
open Go.Lib (atoi decNat decFrom digitVal)
theorem X7:∀(l:List UInt8) (acc:Nat),l.all O5=true→∃n,decFrom acc l=some n
 | [],acc,_=>⟨acc,rfl⟩
 | b::r,acc,h=>by
  simp only [List.all_cons,Bool.and_eq_true] at h
  have hd:digitVal b=some (b.toNat - 48):=by
   unfold digitVal
   have:=h.1
   unfold O5 at this
   simp only [Bool.and_eq_true,decide_eq_true_eq] at this
   rw [if_pos this]
  obtain ⟨n,hn⟩:=X7 r (acc * 10+(b.toNat - 48)) h.2
  exact ⟨n,by simp only [decFrom,hd];exact hn⟩
theorem Yg {l:List UInt8} (h:pJ l=true):∃n,decNat l=some n:=by
 unfold pJ at h
 simp only [Bool.and_eq_true,decide_eq_true_eq] at h
 obtain ⟨n,hn⟩:=X7 l 0 h.2
 unfold decNat
 cases l with
 | nil=>simp at h
 | cons b r=>exact ⟨n,hn⟩
theorem ade {l:List UInt8} (h:qA l=true):∃n,atoi l=some n∧(l.length≤18∨(l.length=19∧l.head?=some 45)):=by
 unfold qA at h
 rw [Bool.or_eq_true] at h
 rcases h with h|h
 ·have:l=[48]:=by simpa using h
  subst this
  exact ⟨0,rfl,.inl (by decide)⟩
 ·cases l with
  | nil=>simp [pJ] at h
  | cons b r=>
   by_cases hb:b=45
   ·subst hb
    simp only [List.head?_cons,if_true,List.drop_succ_cons,List.drop_zero] at h
    obtain ⟨n,hn⟩:=Yg h
    have hl:r.length≤18:=by unfold pJ at h;simp only [Bool.and_eq_true,decide_eq_true_eq] at h;exact h.1.1.2
    refine ⟨-(n:Int),by simp [atoi,hn], ?_⟩
    by_cases h18:r.length=18
    ·exact .inr ⟨by simp [h18],rfl⟩
    ·exact .inl (by simp;omega)
   ·rw [if_neg (by simpa using hb)] at h
    obtain ⟨n,hn⟩:=Yg h
    have hl:(b::r).length≤18:=by unfold pJ at h;simp only [Bool.and_eq_true,decide_eq_true_eq] at h;exact h.1.1.2
    have h43:(b == 43)=false:=by
     cases hq:(b == 43) with
     | false=>rfl
     | true=>
      rw [beq_iff_eq] at hq
      subst hq
      unfold pJ at h
      simp only [List.all_cons,Bool.and_eq_true] at h
      exact absurd h.2.1 (by decide)
    exact ⟨n,by simp [atoi,hb,h43,hn],.inl hl⟩
theorem acz {b:List UInt8} {w:Nat} (h:eu b=(2,w)):qA (b.take w)=true:=by
 have hi:∀{x:List UInt8} {n:Nat},rG x n=(2,w)→qA (x.take w)=true:=by
  intro x n h
  unfold rG at h
  split at h
  ·rename_i hc;cases h;exact hc
  ·cases h
 cases b with
 | nil=>simp [eu] at h
 | cons c r=>
  rw [qX] at h
  split at h
  ·split at h
   ·split at h<;>cases h
   ·cases h
  ·split at h
   ·split at h
    ·cases h
    ·split at h
     ·cases h
     ·split at h
      ·exact hi h
      ·cases h
   ·split at h
    ·exact hi h
    ·split at h<;>cases h
theorem Qj (b:List UInt8):(eu b).1=0∨(eu b).1=1∨(eu b).1=2∨(eu b).1=3:=by
 have hi:∀(x:List UInt8) (n:Nat),(rG x n).1=0∨(rG x n).1=1∨(rG x n).1=2∨(rG x n).1=3:=by
  intro x n;unfold rG;split<;>simp
 cases b with
 | nil=>simp [eu]
 | cons c r=>
  rw [qX]
  split
  ·split
   ·split<;>simp
   ·simp
  ·split
   ·split
    ·simp
    ·split
     ·simp
     ·split
      ·exact hi _ _
      ·simp
   ·split
    ·exact hi _ _
    ·split<;>simp
def tw:List Tok→Nat
 | []=>0
 | t::r=>1+t.2.1.length+tw r
theorem Py:∀(n:Nat) (b:List UInt8) (a:Nat) (la:Int) (bad:List Pb) {res:List Tok} {bad':List Pb},b.length≤65536→EM n b a la bad=some (res,bad')→WT res∧tw res≤2 * b.length+1
 | 0,b,a,la,bad,res,bad',_,h=>by simp [EM] at h
 | n+1,b,a,la,bad,res,bad',hb,h=>by
  have hdl:=(List.dropWhile_sublist (p:=pO) (l:=b)).length_le
  unfold EM at h
  cases hx:b.dropWhile pO with
  | nil=>
   rw [hx] at h
   simp only [Option.some.injEq,Prod.mk.injEq] at h
   obtain ⟨rfl,_⟩:=h
   exact ⟨.fin _,by simp [tw]⟩
  | cons c r=>
   rw [hx] at h hdl
   simp only [] at h
   have hsp:=BV c r
   have hsl:=Va c r
   have hpos:1≤(c::r).length:=by simp
   split at h
   ·have hds:=(List.dropWhile_sublist (p:=fun x:UInt8=>decide (x≠10)) (l:=c::r)).length_le
    obtain ⟨h1,h2⟩:=Py n _ _ _ _ (by omega) h
    exact ⟨h1,by omega⟩
   ·split at h
    ·obtain ⟨h1,h2⟩:=Py n _ _ _ _ (by simp only [List.length_drop];omega) h
     simp only [List.length_drop] at h2
     exact ⟨h1,by omega⟩
    ·rename_i k0
     cases hlex:EM n ((c::r).drop (eu (c::r)).2) (a+(b.length - (c::r).length)+(eu (c::r)).2) la bad with
     | none=>rw [hlex] at h;cases h
     | some p=>
      obtain ⟨res1,bad1⟩:=p
      rw [hlex] at h
      simp only [Option.map_some,Option.some.injEq,Prod.mk.injEq] at h
      obtain ⟨rfl,_⟩:=h
      obtain ⟨h1,h2⟩:=Py n _ _ _ _ (by simp only [List.length_drop];omega) hlex
      simp only [List.length_drop] at h2
      have hlen:((c::r).take (eu (c::r)).2).length=(eu (c::r)).2:=by rw [List.length_take];omega
      refine ⟨.cons _ _ ⟨?_, ?_, ?_, ?_⟩ h1, ?_⟩
      ·rcases Qj (c::r) with h|h|h|h
       ·exact absurd h k0
       ·exact .inl h
       ·exact .inr (.inl h)
       ·exact .inr (.inr h)
      ·intro he
       have:=congrArg List.length he
       simp only [hlen,List.length_nil] at this
       omega
      ·show ((c::r).take (eu (c::r)).2).length≤65536
       omega
      ·intro hk
       exact ade (acz (Prod.ext hk rfl))
      ·simp only [tw,hlen];omega
theorem zG {src:List UInt8} (h:src.length≤65536):WT (lexB src).1∧tw (lexB src).1≤2 * src.length+1:=Py _ src 0 (-1) [] h (Vy src)
theorem U4:∀l:List Tok,l.length≤tw l
 | []=>Nat.le_refl _
 | t::r=>by have:=U4 r;simp only [List.length_cons,tw];omega
theorem aci (p r:List Tok):tw (p++r)=tw p+tw r:=by
 induction p with
 | nil=>simp [tw]
 | cons t p ih=>simp only [List.cons_append,tw,ih];omega
def Wgt (l:List Tok) (x:PR C):Prop:=∀c r,x=.ok c r→wC c+tw r≤tw l
theorem Vs {l r:List Tok} {nm:List UInt8} (hw:WT l) (h:ig l=.ok nm r):1+nm.length+tw r=tw l:=by
 unfold ig at h
 split at h
 ·rename_i h1
  obtain ⟨t,q,rfl,_,_⟩:=hw.tl (.inr (by rw [h1.1];decide))
  split at h
  ·cases h;simp [tw]
  ·cases h
 ·cases h
theorem Yu {w:List UInt8} {l r:List Tok} {u:Unit} (h:kG w l=.ok u r):tw r≤tw l:=by
 unfold kG at h
 split at h
 ·cases h
  cases l with
  | nil=>exact Nat.le_refl _
  | cons t q=>simp [tw]
 ·cases h
theorem afn {least n:Int} {l r:List Tok} (h:yu least l=.ok n r):tw r≤tw l:=by
 unfold yu at h
 split at h
 ·split at h
  ·split at h
   ·cases h
   ·cases h
    cases l with
    | nil=>exact Nat.le_refl _
    | cons t q=>simp [tw]
  ·cases h
 ·cases h
theorem Yy {l:List Tok} {w:List UInt8} (hw:WT l) (h:txt l=w) (hn:w≠[]):1+w.length+tw l.tail=tw l:=by
 obtain ⟨t,q,rfl,_,_⟩:=hw.tl (.inl (by rw [h];exact hn))
 simp only [dM] at h
 simp [tw,h]
theorem aA {α β:Type} {x:PR α} {f:α→List Tok→PR β} {v:β} {r:List Tok}:x.bind f=.ok v r ↔ ∃u q,x=.ok u q∧f u q=.ok v r:=by
 cases x with
 | ok u q=>exact ⟨fun h=>⟨u,q,rfl,h⟩,fun ⟨u',q',h1,h2⟩=>by cases h1;exact h2⟩
 | er a e q=>exact ⟨fun h=>(by cases h),fun ⟨u',q',h1,h2⟩=>(by cases h1)⟩
theorem Gq (k:Int) (nm:List UInt8) (lo hi:Int) (z:Bool):wC (.mk k nm lo hi z [])=1+nm.length / 40:=by rw [qj];simp [C.name,C.parts,wL]
theorem afI (a b:List C):wL (a++b)=wL a+wL b:=by
 induction a with
 | nil=>simp [wL]
 | cons p r ih=>simp only [List.cons_append,wL,ih];omega
theorem Z4:∀n:Nat,(∀l,WT l→Wgt l (gZ n l))∧(∀l,WT l→Wgt l (uQ n l))∧∀l cs,WT l→cs≠[]→∀c r,jM n l cs=.ok c r→wC c+tw r≤wL cs+tw l+(if 2≤cs.length then 1 else 0)
 | 0=>⟨fun l _ c r h=>(by unfold gZ at h;cases h),fun l _ c r h=>(by unfold uQ at h;cases h),fun l cs _ _ c r h=>(by unfold jM at h;cases h)⟩
 | n+1=>by
  obtain ⟨i1,i2,i3⟩:=Z4 n
  have wt:∀{α:Type} {l r:List Tok} {x:PR α} {v:α},Good' l x→x=.ok v r→WT r:=by
   intro α l r x v hg e;rw [e] at hg;exact hg.1
  refine ⟨fun l hw c r h=>?_,fun l hw c r h=>?_,fun l cs hw hcs c r h=>?_⟩
  ·unfold gZ at h
   split at h
   ·rename_i h1;cases h
    have:=Yy hw h1 (by decide)
    rw [Gq];simp;omega
   split at h
   ·rename_i h1;cases h
    have:=Yy hw h1 (by decide)
    rw [Gq];simp;omega
   split at h
   ·rename_i h1
    obtain ⟨nm,l1,e1,g1⟩:=aA.1 h
    obtain ⟨u,l2,e2,g2⟩:=aA.1 g1
    cases g2
    obtain ⟨t,q,rfl,_,hq⟩:=hw.tl (.inl (by rw [h1];decide))
    have a1:=Vs hq e1
    have a2:=Yu e2
    rw [Gq];simp only [tw,List.tail_cons] at a1 ⊢;omega
   split at h
   ·rename_i h1
    obtain ⟨nm,l1,e1,g1⟩:=aA.1 h
    obtain ⟨c',l2,e2,g2⟩:=aA.1 g1
    cases g2
    obtain ⟨t,q,rfl,_,hq⟩:=hw.tl (.inl (by rw [h1];decide))
    have a1:=Vs hq e1
    have a2:=i1 l1 (wt (bG hq) e1) _ _ e2
    rw [qj];simp only [C.name,C.parts,wL];simp only [tw,List.tail_cons] at a1 ⊢;omega
   split at h
   ·rename_i h1
    obtain ⟨c',l1,e1,g1⟩:=aA.1 h
    obtain ⟨u,l2,e2,g2⟩:=aA.1 g1
    cases g2
    obtain ⟨t,q,rfl,_,hq⟩:=hw.tl (.inl (by rw [h1];decide))
    have a1:=i2 q hq _ _ e1
    have a2:=Yu e2
    simp only [tw];omega
   ·obtain ⟨nm,l1,e1,g2⟩:=aA.1 h
    have a1:=Vs hw e1
    split at g2
    ·rename_i h2
     obtain ⟨lo,l2,e2,g3⟩:=aA.1 g2
     obtain ⟨u,l3,e3,g4⟩:=aA.1 g3
     obtain ⟨hi,l4,e4,g5⟩:=aA.1 g4
     cases g5
     have a2:=Yy (wt (bG hw) e1) h2 (by decide)
     have a3:=afn e2
     have a4:=Yu e3
     have a5:=afn e4
     rw [Gq];omega
    ·cases g2
     rw [Gq];omega
  ·unfold uQ at h
   obtain ⟨c',l1,e1,g1⟩:=aA.1 h
   have a1:=i1 l hw c' l1 e1
   have a2:=i3 l1 [c'] (wt ((iL n).1 l hw) e1) (by simp) c r g1
   simp [wL] at a2
   omega
  ·unfold jM at h
   split at h
   ·rename_i h1
    obtain ⟨c',l1,e1,g1⟩:=aA.1 h
    obtain ⟨t,q,rfl,_,hq⟩:=hw.tl (.inl (by rw [h1];decide))
    have a1:=i1 q hq c' l1 e1
    have a2:=i3 l1 (cs++[c']) (wt ((iL n).1 q hq) e1) (by simp) c r g1
    rw [afI] at a2
    have hn:1≤t.2.1.length:=by simp only [dM] at h1;rw [h1];decide
    simp only [wL] at a2
    simp only [tw]
    split at a2<;>split<;>omega
   ·cases h
    rcases cs with _|⟨d,_|⟨f,q⟩⟩
    ·exact absurd rfl hcs
    ·simp [Yj,wL]
    ·simp only [Yj,List.length_cons]
     rw [qj]
     simp only [C.name,C.parts,List.length_nil]
     split<;>omega
theorem MW {l r:List Tok} {c:C} (hw:WT l) (h:kH l=.ok c r):wC c+tw r≤tw l:=(Z4 _).2.1 l hw c r h
end Go.Ai.Z
namespace Go.Ai.Z
def qO:Nat→List UInt8→Nat→Int→Option (List Tok×List Pb)
 | 0,_,_,_=>none
 | n+1,b,a,la=>
  match b.dropWhile pO with
  | []=>some ([(4,[],a+b.length)],[])
  | c::r=>
   let a1:=a+(b.length - (c::r).length)
   if o9 c=2 then
    let d:=(c::r).dropWhile fun x=>decide (x≠10)
    qO n d (a1+((c::r).length - d.length)) la
   else if (eu (c::r)).1=0 then
    (qO n ((c::r).drop (eu (c::r)).2) (a1+(eu (c::r)).2) ((a1+(eu (c::r)).2:Nat):Int)).map fun p=>(p.1,if (a1:Int)≠la then ((a1:Int),10)::p.2 else p.2)
   else (qO n ((c::r).drop (eu (c::r)).2) (a1+(eu (c::r)).2) la).map fun p=>(((eu (c::r)).1,(c::r).take (eu (c::r)).2,a1)::p.1,p.2)
theorem I5:∀(n:Nat) (b:List UInt8) (a:Nat) (la:Int) (bad:List Pb),bad.length≤64→EM n b a la bad=(qO n b a la).map fun p=>(p.1,(bad++p.2).take 64)
 | 0,b,a,la,bad,h=>rfl
 | n+1,b,a,la,bad,h=>by
  unfold EM qO
  cases hx:b.dropWhile pO with
  | nil=>simp only [Option.map_some,List.append_nil];rw [List.take_of_length_le h]
  | cons c r=>
   simp only []
   split
   ·exact I5 n _ _ _ bad h
   ·split
    ·by_cases h1:((a+(b.length - (c::r).length):Nat):Int)≠la
     ·by_cases h2:bad.length<64
      ·rw [if_pos ⟨h1,h2⟩,I5 n _ _ _ _ (by simp;omega),Option.map_map]
       congr 1
       funext p
       simp only [Function.comp_apply,if_pos h1,List.append_assoc,List.singleton_append]
      ·rw [if_neg (fun hh=>h2 hh.2),I5 n _ _ _ _ h,Option.map_map]
       congr 1
       funext p
       simp only [Function.comp_apply,if_pos h1]
       rw [List.take_append_of_le_length (by omega),List.take_append_of_le_length (by omega)]
     ·rw [if_neg (fun hh=>h1 hh.1),I5 n _ _ _ _ h,Option.map_map]
      congr 1
      funext p
      simp only [Function.comp_apply,if_neg h1]
    ·rw [I5 n _ _ _ _ h,Option.map_map,Option.map_map]
     rfl
theorem YU (n:Nat) (b:List UInt8) (a:Nat) (la:Int) (h:b.length<n):∃p,qO n b a la=some p:=by
 obtain ⟨p,hp⟩:=Ar n b a la [] h
 rw [I5 n b a la [] (by simp)] at hp
 cases hr:qO n b a la with
 | none=>rw [hr] at hp;cases hp
 | some q=>exact ⟨q,rfl⟩
theorem Pv {x:UInt8} (hx:o9 x=1):∀(b y:List UInt8),iF (b++x::y)=iF b
 | [],y=>by rw [List.nil_append,uO,show Lp x=false by simp [Lp,hx]];rfl
 | c::r,y=>by rw [List.cons_append,uO,uO,Pv hx r y]
theorem Xd (b:List UInt8):iF b≤b.length:=DI b
theorem Uu {b y:List UInt8} {n:Nat} (h:n≤b.length):rG (b++y) n=rG b n:=by
 unfold rG
 rw [List.take_append_of_le_length h]
theorem aek {x:UInt8} (hx:o9 x=1) (c:UInt8) (r y:List UInt8):eu (c::r++x::y)=eu (c::r):=by
 have e0:c::r++x::y=c::(r++x::y):=rfl
 have hrun:=Pv hx (c::r) y
 have hle:=Xd (c::r)
 rw [e0] at hrun ⊢
 rw [qX,qX,hrun]
 by_cases h3:o9 c=3
 ·rw [if_pos h3,if_pos h3]
  have hd:(c::(r++x::y)).drop (iF (c::r))=(c::r).drop (iF (c::r))++x::y:=by rw [←e0,List.drop_append_of_le_length hle]
  rw [hd]
  rcases hq:(c::r).drop (iF (c::r)) with _|⟨d,_|⟨e,q⟩⟩
  ·have h58:¬x=58:=by rintro rfl;exact absurd hx (by decide)
   cases y with
   | nil=>rfl
   | cons f y=>simp [h58]
  ·have:o9 x≠3:=by omega
   simp [this]
  ·simp only [List.cons_append]
   have:=Pv hx (e::q) y
   rw [List.cons_append] at this
   rw [this]
 ·rw [if_neg h3,if_neg h3]
  by_cases h5:o9 c=5
  ·rw [if_pos h5,if_pos h5]
   cases r with
   | nil=>
    have h1:¬x=62:=by rintro rfl;exact absurd hx (by decide)
    have h2:¬o9 x=4:=by omega
    simp [h1,h2]
   | cons d q=>
    simp only [List.cons_append]
    have h6:=Pv hx (d::q) y
    have h7:=Xd (d::q)
    rw [List.cons_append] at h6
    rw [h6]
    have h8:=Uu (b:=c::d::q) (y:=x::y) (n:=1+iF (d::q)) (by simp only [List.length_cons] at *;omega)
    simp only [List.cons_append] at h8
    rw [h8]
  ·rw [if_neg h5,if_neg h5]
   have h8:=Uu (b:=c::r) (y:=x::y) (n:=iF (c::r)) hle
   simp only [List.cons_append] at h8
   rw [h8]
theorem aej (c:UInt8) (r y:List UInt8):eu (c::r++10::y)=eu (c::r):=aek (by decide) c r y
theorem BK {α:Type} {p:α→Bool}:∀(x y:List α),(x++y).dropWhile p=if x.dropWhile p=[] then y.dropWhile p else x.dropWhile p++y
 | [],y=>by simp
 | c::r,y=>by
  rw [List.cons_append,List.dropWhile_cons,List.dropWhile_cons]
  split
  ·exact BK r y
  ·simp
theorem aev {n:Nat} {y:List UInt8} {a:Nat} {la:Int}:qO n (10::y) a la=qO n y (a+1) la:=by
 cases n with
 | zero=>rfl
 | succ n=>
  have hd:(10::y).dropWhile pO=y.dropWhile pO:=by rw [List.dropWhile_cons,show pO 10=true by decide,if_pos rfl]
  have hl:=(List.dropWhile_sublist (p:=pO) (l:=y)).length_le
  rw [qO,qO,hd]
  cases hx:y.dropWhile pO with
  | nil=>simp;omega
  | cons c r=>
   rw [hx] at hl
   have e:a+((10::y).length - (c::r).length)=a+1+(y.length - (c::r).length):=by simp only [List.length_cons] at *;omega
   simp only [e]
theorem I4:∀{n:Nat} (x y:List UInt8) {a:Nat} {la:Int},x.dropWhile pO=[]→qO n (x++y) a la=qO n y (a+x.length) la
 | n,[],y,a,la,_=>rfl
 | n,c::x,y,a,la,h=>by
  have hc:pO c=true:=by
   cases hb:pO c with
   | true=>rfl
   | false=>rw [List.dropWhile_cons,hb] at h;simp at h
  have hx:x.dropWhile pO=[]:=by rw [List.dropWhile_cons,hc,if_pos rfl] at h;exact h
  have ih:=I4 (n:=n) x y (a:=a+1) (la:=la) hx
  rw [List.length_cons,show a+(x.length+1)=a+1+x.length by omega,←ih]
  cases n with
  | zero=>rfl
  | succ n=>
   have hd:(c::(x++y)).dropWhile pO=(x++y).dropWhile pO:=by rw [List.dropWhile_cons,hc,if_pos rfl]
   have hl:=(List.dropWhile_sublist (p:=pO) (l:=x++y)).length_le
   rw [List.cons_append,qO,qO,hd]
   cases hq:(x++y).dropWhile pO with
   | nil=>simp;omega
   | cons d r=>
    rw [hq] at hl
    have e:a+((c::(x++y)).length - (d::r).length)=a+1+((x++y).length - (d::r).length):=by simp only [List.length_cons] at *;omega
    simp only [e]
def After (n:Nat) (x y:List UInt8) (a:Nat) (la:Int):Prop:=
 ∃(tx:List Tok) (bx:List Pb) (la':Int),qO n x a la=some (tx++[(4,[],a+x.length)],bx)∧(la'=la∨(a:Int)<la'∧la'≤a+x.length)∧(∀t∈tx,a≤t.2.2∧t.2.2<a+x.length∧t.1≠4)∧(∀p∈bx,(a:Int)≤p.1∧p.1<a+x.length∧p.2=10)∧
   ∀m:Nat,y.length<m→qO (n+m) (x++10::y) a la=(qO m y (a+x.length+1) la').map fun p=>(tx++p.1,bx++p.2)
theorem CU:∀(n m:Nat) (b:List UInt8) (a:Nat) (la:Int),b.length<n→b.length<m→qO n b a la=qO m b a la
 | 0,m,b,a,la,h,_=>by omega
 | n+1,0,b,a,la,_,h=>by omega
 | n+1,m+1,b,a,la,h1,h2=>by
  have hdl:=(List.dropWhile_sublist (p:=pO) (l:=b)).length_le
  unfold qO
  cases hx:b.dropWhile pO with
  | nil=>rfl
  | cons c r=>
   rw [hx] at hdl
   simp only []
   have hsp:=BV c r
   have hpos:1≤(c::r).length:=by simp
   split
   ·rename_i c2
    have h10:c≠10:=fun h=>by rw [h] at c2;exact absurd c2 (by decide)
    have:((c::r).dropWhile fun x=>decide (x≠10)).length<(c::r).length:=by
     have e1:(c::r).dropWhile (fun x=>decide (x≠10))=r.dropWhile fun x=>decide (x≠10):=by rw [List.dropWhile_cons,if_pos (by simpa using h10)]
     have:=(List.dropWhile_sublist (p:=fun x:UInt8=>decide (x≠10)) (l:=r)).length_le
     rw [e1]
     simp only [List.length_cons]
     omega
    exact CU n m _ _ _ (by omega) (by omega)
   ·split
    ·rw [CU n m _ _ _ (by simp only [List.length_drop];omega) (by simp only [List.length_drop];omega)]
    ·rw [CU n m _ _ _ (by simp only [List.length_drop];omega) (by simp only [List.length_drop];omega)]
theorem DU:∀(n:Nat) (x y:List UInt8) (a:Nat) (la:Int),x.length<n→After n x y a la
 | 0,x,y,a,la,h=>by omega
 | n+1,x,y,a,la,h=>by
  have hdl:=(List.dropWhile_sublist (p:=pO) (l:=x)).length_le
  cases hx:x.dropWhile pO with
  | nil=>
   refine ⟨[],[],la,by rw [qO,hx];rfl,.inl rfl,fun t ht=>(by cases ht),fun p hp=>(by cases hp),fun m hm=>?_⟩
   rw [I4 x (10::y) hx,aev,CU (n+1+m) m _ _ _ (by omega) hm]
   cases qO m y (a+x.length+1) la<;>rfl
  | cons c r=>
   rw [hx] at hdl
   have hsp:=BV c r
   have hsl:=Va c r
   have hpos:1≤(c::r).length:=by simp
   have hdw:(x++10::y).dropWhile pO=c::(r++10::y):=by rw [BK,hx];simp
   have hlen:(x++10::y).length - (c::(r++10::y)).length=x.length - (c::r).length:=by simp only [List.length_append,List.length_cons] at *;omega
   generalize ha1:a+(x.length - (c::r).length)=a1
   by_cases c2:o9 c=2
   ·have h10:c≠10:=fun h=>by rw [h] at c2;exact absurd c2 (by decide)
    have hds:((c::r).dropWhile fun x=>decide (x≠10)).length<(c::r).length:=by
     have e1:(c::r).dropWhile (fun x=>decide (x≠10))=r.dropWhile fun x=>decide (x≠10):=by rw [List.dropWhile_cons,if_pos (by simpa using h10)]
     have:=(List.dropWhile_sublist (p:=fun x:UInt8=>decide (x≠10)) (l:=r)).length_le
     rw [e1]
     simp only [List.length_cons]
     omega
    generalize hdd:((c::r).dropWhile fun x=>decide (x≠10))=dd at hds
    have hdd2:(c::(r++10::y)).dropWhile (fun x=>decide (x≠10))=dd++10::y:=by
     have:=BK (p:=fun x:UInt8=>decide (x≠10)) (c::r) (10::y)
     rw [List.cons_append,hdd] at this
     rw [this]
     cases dd with
     | nil=>simp
     | cons d q=>simp
    obtain ⟨tx,bx,la',q1,q2,q3,q4,q5⟩:=DU n dd y (a1+((c::r).length - dd.length)) la (by omega)
    have hend:a1+((c::r).length - dd.length)+dd.length=a+x.length:=by omega
    rw [hend] at q1 q3 q5
    refine ⟨tx,bx,la', ?_, ?_,fun t ht=>?_,fun p hp=>?_,fun m hm=>?_⟩
    ·rw [qO,hx];simp only [c2,if_true,hdd,ha1];exact q1
    ·rcases q2 with q2|q2
     ·exact .inl q2
     ·exact .inr ⟨by omega,by omega⟩
    ·have:=q3 t ht;exact ⟨by omega,this.2⟩
    ·have:=q4 p hp;exact ⟨by omega,by omega,this.2.2⟩
    ·have q6:=q5 m hm
     rw [show n+1+m=(n+m)+1 by omega,qO,hdw]
     simp only [c2,if_true,hdd2,hlen,ha1]
     have e2:(c::(r++10::y)).length - (dd++10::y).length=(c::r).length - dd.length:=by simp only [List.length_append,List.length_cons] at *;omega
     rw [e2];exact q6
   ·have hscn:eu (c::(r++10::y))=eu (c::r):=aej c r y
    have hdrp:(c::(r++10::y)).drop (eu (c::r)).2=(c::r).drop (eu (c::r)).2++10::y:=by
     have:c::(r++10::y)=(c::r)++10::y:=rfl
     rw [this,List.drop_append_of_le_length hsl]
    have htk:(c::(r++10::y)).take (eu (c::r)).2=(c::r).take (eu (c::r)).2:=by
     have:c::(r++10::y)=(c::r)++10::y:=rfl
     rw [this,List.take_append_of_le_length hsl]
    have hdl2:((c::r).drop (eu (c::r)).2).length=(c::r).length - (eu (c::r)).2:=List.length_drop
    have hend:a1+(eu (c::r)).2+((c::r).drop (eu (c::r)).2).length=a+x.length:=by omega
    by_cases k0:(eu (c::r)).1=0
    ·obtain ⟨tx,bx,la',q1,q2,q3,q4,q5⟩:=DU n ((c::r).drop (eu (c::r)).2) y (a1+(eu (c::r)).2) ((a1+(eu (c::r)).2:Nat):Int) (by omega)
     rw [hend] at q1 q3 q5
     refine ⟨tx,if (a1:Int)≠la then ((a1:Int),10)::bx else bx,la', ?_, ?_,fun t ht=>?_,fun p hp=>?_,fun m hm=>?_⟩
     ·rw [qO,hx];simp only [c2,if_false,k0,if_true,ha1,q1,Option.map_some]
     ·rcases q2 with q2|q2
      ·exact .inr ⟨by omega,by omega⟩
      ·exact .inr ⟨by omega,by omega⟩
     ·have:=q3 t ht;exact ⟨by omega,this.2⟩
     ·have old:∀p∈bx,(a:Int)≤p.1∧p.1<a+x.length∧p.2=10:=fun p hp=>by have:=q4 p hp;exact ⟨by omega,by omega,this.2.2⟩
      split at hp
      ·rcases List.mem_cons.1 hp with rfl|hp
       ·exact ⟨by simp only [];omega,by simp only [];omega,rfl⟩
       ·exact old p hp
      ·exact old p hp
     ·have q6:=q5 m hm
      rw [show n+1+m=(n+m)+1 by omega,qO,hdw]
      simp only [c2,if_false,hscn,k0,if_true,hdrp,hlen,ha1,q6,Option.map_map]
      congr 1
      funext p
      simp only [Function.comp_apply]
      split<;>simp
    ·obtain ⟨tx,bx,la',q1,q2,q3,q4,q5⟩:=DU n ((c::r).drop (eu (c::r)).2) y (a1+(eu (c::r)).2) la (by omega)
     rw [hend] at q1 q3 q5
     refine ⟨((eu (c::r)).1,(c::r).take (eu (c::r)).2,a1)::tx,bx,la', ?_, ?_,fun t ht=>?_,fun p hp=>?_,fun m hm=>?_⟩
     ·rw [qO,hx];simp only [c2,if_false,k0,ha1,q1,Option.map_some];rfl
     ·rcases q2 with q2|q2
      ·exact .inl q2
      ·exact .inr ⟨by omega,by omega⟩
     ·rcases List.mem_cons.1 ht with rfl|ht
      ·have:(eu (c::r)).1≠4:=by rcases Qj (c::r) with h|h|h|h<;>rw [h]<;>decide
       exact ⟨by simp only [];omega,by simp only [];omega,this⟩
      ·have:=q3 t ht;exact ⟨by omega,this.2⟩
     ·have:=q4 p hp;exact ⟨by omega,by omega,this.2.2⟩
     ·have q6:=q5 m hm
      rw [show n+1+m=(n+m)+1 by omega,qO,hdw]
      simp only [c2,if_false,hscn,k0,hdrp,htk,hlen,ha1,q6,Option.map_map]
      congr 1
end Go.Ai.Z
namespace Go.Ai.Z
def shT (k:Nat) (t:Tok):Tok:=(t.1,t.2.1,t.2.2+k)
def shP (k:Nat) (p:Pb):Pb:=(p.1+k,p.2)
theorem wO (k:Nat):∀(n:Nat) (b:List UInt8) (a:Nat) (la la':Int),(la'=la+k∨(la<a∧la'<a+k))→qO n b (a+k) la'=(qO n b a la).map fun p=>(p.1.map (shT k),p.2.map (shP k))
 | 0,b,a,la,la',h=>rfl
 | n+1,b,a,la,la',h=>by
  have hdl:=(List.dropWhile_sublist (p:=pO) (l:=b)).length_le
  unfold qO
  cases hx:b.dropWhile pO with
  | nil=>simp [shT];omega
  | cons c r=>
   rw [hx] at hdl
   simp only []
   have e1:a+k+(b.length - (c::r).length)=a+(b.length - (c::r).length)+k:=by omega
   rw [e1]
   generalize ha1:a+(b.length - (c::r).length)=a1
   split
   ·generalize hd:((c::r).length - ((c::r).dropWhile fun x=>decide (x≠10)).length)=d
    rw [show a1+k+d=a1+d+k by omega]
    exact wO k n _ _ la la' (by rcases h with h|h;exact .inl h;exact .inr ⟨by omega,by omega⟩)
   ·rw [show a1+k+(eu (c::r)).2=a1+(eu (c::r)).2+k by omega]
    split
    ·rw [wO k n _ (a1+(eu (c::r)).2) ((a1+(eu (c::r)).2:Nat):Int) ((a1+(eu (c::r)).2+k:Nat):Int) (.inl (by omega)),Option.map_map,Option.map_map]
     congr 1
     funext p
     have hiff:((a1+k:Nat):Int)≠la' ↔ (a1:Int)≠la:=by
      rcases h with h|h
      ·rw [h];constructor<;>intro h2 h3<;>exact h2 (by omega)
      ·constructor<;>intro _ h3<;>omega
     simp only [Function.comp_apply]
     by_cases hh:(a1:Int)≠la
     ·rw [if_pos hh,if_pos (hiff.2 hh)];simp [shP]
     ·rw [if_neg hh,if_neg (fun h2=>hh (hiff.1 h2))]
    ·rw [wO k n _ _ la la' (by rcases h with h|h;exact .inl h;exact .inr ⟨by omega,by omega⟩),Option.map_map,Option.map_map]
     rfl
def fM (src:List UInt8):List Tok×List Pb:=(qO (src.length+1) src 0 (-1)).getD ([],[])
theorem wB (src:List UInt8) {n:Nat} (h:src.length<n):qO n src 0 (-1)=some (fM src):=by
 obtain ⟨p,hp⟩:=YU (src.length+1) src 0 (-1) (by omega)
 rw [CU n (src.length+1) src 0 (-1) h (by omega)]
 unfold fM;rw [hp];rfl
theorem FK (src:List UInt8):lexB src=((fM src).1,(fM src).2.take 64):=by
 have h:=Vy src
 rw [I5 _ _ _ _ [] (by simp),wB src (by omega)] at h
 simpa using (Option.some.inj h).symm
def body (x:List UInt8):List Tok:=(fM x).1.dropLast
structure Cat (x y:List UInt8):Prop where
 x1:(fM x).1=body x++[(4,[],x.length)]
 bd:∀t∈body x,t.2.2<x.length∧t.1≠4
 x2:∀p∈(fM x).2,0≤p.1∧p.1<x.length∧p.2=10
 t:(fM (x++10::y)).1=body x++(fM y).1.map (shT (x.length+1))
 p:(fM (x++10::y)).2=(fM x).2++(fM y).2.map (shP (x.length+1))
theorem yR (x y:List UInt8):Cat x y:=by
 obtain ⟨tx,bx,la',q1,q2,q3,q4,q5⟩:=DU (x.length+1) x y 0 (-1) (by omega)
 rw [wB x (by omega)] at q1
 simp only [Nat.zero_add] at q1 q3 q4 q5
 have h1:fM x=(tx++[(4,[],x.length)],bx):=Option.some.inj q1
 have hb:body x=tx:=by unfold body;rw [h1];simp
 have h2:=q5 (y.length+1) (by omega)
 rw [wB (x++10::y) (by simp only [List.length_append,List.length_cons];omega)] at h2
 have h3:=wO (x.length+1) (y.length+1) y 0 (-1) la' (.inr ⟨by decide,by rcases q2 with q2|q2<;>omega⟩)
 rw [Nat.zero_add] at h3
 rw [h3,wB y (by omega)] at h2
 simp only [Option.map_some] at h2
 have h4:=Option.some.inj h2
 refine ⟨by rw [h1,hb],fun t ht=>?_,fun p hp=>?_,by rw [h4,hb],by rw [h4,h1]⟩
 ·rw [hb] at ht;have:=q3 t ht;exact ⟨by omega,this.2.2⟩
 ·rw [h1] at hp;have:=q4 p hp;exact ⟨by omega,by omega,this.2.2⟩
theorem JS {c:UInt8} (h:o9 c=6) (y:List UInt8):(fM (c::y)).1=(3,[c],0)::(fM y).1.map (shT 1)∧(fM (c::y)).2=(fM y).2.map (shP 1):=by
 have hsc:eu (c::y)=(3,1):=by rw [qX,if_neg (by rw [h];decide),if_neg (by rw [h];decide),if_neg (by rw [h];decide),if_pos h]
 have hb:pO c=false:=by simp [pO,h]
 have h2:=wB (c::y) (n:=y.length+2) (by simp)
 have hdw:(c::y).dropWhile pO=c::y:=by rw [List.dropWhile_cons,hb];simp
 rw [qO,hdw] at h2
 have c2:¬o9 c=2:=by rw [h];decide
 simp only [c2,if_false,hsc,Nat.sub_self,Nat.add_zero,List.drop_succ_cons,List.drop_zero] at h2
 rw [if_neg (by decide)] at h2
 have h3:=wO 1 (y.length+1) y 0 (-1) (-1) (.inr ⟨by decide,by decide⟩)
 rw [Nat.zero_add] at h3
 rw [Nat.zero_add,h3,wB y (by omega)] at h2
 simp only [Option.map_some] at h2
 have h4:=Option.some.inj h2
 exact ⟨by rw [←h4];rfl,by rw [←h4]⟩
theorem lex_nil:fM []=([(4,[],0)],[]):=rfl
end Go.Ai.Z
