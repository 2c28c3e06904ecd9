/-
 What the lexer yields is well formed; what a parsed concept weighs.
-/
import Derived.Test.YtpnlnnfcaeednaaGreatDoorAiY1Y2Y3
import Derived.Test.YtpnlnnfcaeednaaGreatDoorAiY4Y5
set_option maxRecDepth 100000
set_option linter.unusedSimpArgs false
set_option linter.unusedVariables false
set_option linter.unusedSectionVars false
namespace Go.Ai.Z
open Go.Lib (atoi decNat decFrom digitVal)
theorem X3:∀(l:List UInt8) (acc:Nat),l.all OW=true→∃n,decFrom acc l=some n
 | [],acc,_=>⟨acc,rfl⟩
 | b::r,acc,h=>by
  simp only [List.all_cons,Bool.and_eq_true] at h
  have hd:digitVal b=some (b.toNat - 48):=by
   unfold digitVal
   have:=h.1
   unfold OW at this
   simp only [Bool.and_eq_true,decide_eq_true_eq] at this
   rw [if_pos this]
  obtain ⟨n,hn⟩:=X3 r (acc * 10+(b.toNat - 48)) h.2
  exact ⟨n,by simp only [decFrom,hd];exact hn⟩
theorem Yc {l:List UInt8} (h:pJ l=true):∃n,decNat l=some n:=by
 unfold pJ at h
 simp only [Bool.and_eq_true,decide_eq_true_eq] at h
 obtain ⟨n,hn⟩:=X3 l 0 h.2
 unfold decNat
 cases l with
 | nil=>simp at h
 | cons b r=>exact ⟨n,hn⟩
theorem adh {l:List UInt8} (h:qA l=true):∃n,atoi l=some n∧(l.length≤18∨(l.length=19∧l.head?=some 45)):=by
 unfold qA at h
 rw [Bool.or_eq_true] at h
 rcases h with h|h
 ·have:l=[48]:=by simpa using h
  subst this
  exact ⟨0,rfl,.inl (by decide)⟩
 ·cases l with
  | nil=>simp [pJ] at h
  | cons b r=>
   by_cases hb:b=45
   ·subst hb
    simp only [List.head?_cons,if_true,List.drop_succ_cons,List.drop_zero] at h
    obtain ⟨n,hn⟩:=Yc h
    have hl:r.length≤18:=by unfold pJ at h;simp only [Bool.and_eq_true,decide_eq_true_eq] at h;exact h.1.1.2
    refine ⟨-(n:Int),by simp [atoi,hn], ?_⟩
    by_cases h18:r.length=18
    ·exact .inr ⟨by simp [h18],rfl⟩
    ·exact .inl (by simp;omega)
   ·rw [if_neg (by simpa using hb)] at h
    obtain ⟨n,hn⟩:=Yc h
    have hl:(b::r).length≤18:=by unfold pJ at h;simp only [Bool.and_eq_true,decide_eq_true_eq] at h;exact h.1.1.2
    have h43:(b == 43)=false:=by
     cases hq:(b == 43) with
     | false=>rfl
     | true=>
      rw [beq_iff_eq] at hq
      subst hq
      unfold pJ at h
      simp only [List.all_cons,Bool.and_eq_true] at h
      exact absurd h.2.1 (by decide)
    exact ⟨n,by simp [atoi,hb,h43,hn],.inl hl⟩
theorem acB {b:List UInt8} {w:Nat} (h:dJ b=(2,w)):qA (b.take w)=true:=by
 have hi:∀{x:List UInt8} {n:Nat},ou x n=(2,w)→qA (x.take w)=true:=by
  intro x n h
  unfold ou at h
  split at h
  ·rename_i hc;cases h;exact hc
  ·cases h
 cases b with
 | nil=>simp [dJ] at h
 | cons c r=>
  rw [pX] at h
  split at h
  ·split at h
   ·split at h<;>cases h
   ·cases h
  ·split at h
   ·split at h
    ·cases h
    ·split at h
     ·cases h
     ·split at h
      ·exact hi h
      ·cases h
   ·split at h
    ·exact hi h
    ·split at h<;>cases h
theorem Qc (b:List UInt8):(dJ b).1=0∨(dJ b).1=1∨(dJ b).1=2∨(dJ b).1=3:=by
 have hi:∀(x:List UInt8) (n:Nat),(ou x n).1=0∨(ou x n).1=1∨(ou x n).1=2∨(ou x n).1=3:=by
  intro x n;unfold ou;split<;>simp
 cases b with
 | nil=>simp [dJ]
 | cons c r=>
  rw [pX]
  split
  ·split
   ·split<;>simp
   ·simp
  ·split
   ·split
    ·simp
    ·split
     ·simp
     ·split
      ·exact hi _ _
      ·simp
   ·split
    ·exact hi _ _
    ·split<;>simp
def tw:List Tok→Nat
 | []=>0
 | t::r=>1+t.2.1.length+tw r
theorem Pm:∀(n:Nat) (b:List UInt8) (a:Nat) (la:Int) (bad:List Pb) {res:List Tok} {bad':List Pb},b.length≤65536→ER n b a la bad=some (res,bad')→WT res∧tw res≤2 * b.length+1
 | 0,b,a,la,bad,res,bad',_,h=>by simp [ER] at h
 | n+1,b,a,la,bad,res,bad',hb,h=>by
  have hdl:=(List.dropWhile_sublist (p:=mY) (l:=b)).length_le
  unfold ER at h
  cases hx:b.dropWhile mY with
  | nil=>
   rw [hx] at h
   simp only [Option.some.injEq,Prod.mk.injEq] at h
   obtain ⟨rfl,_⟩:=h
   exact ⟨.fin _,by simp [tw]⟩
  | cons c r=>
   rw [hx] at h hdl
   simp only [] at h
   have hsp:=yX c r
   have hsl:=O8 c r
   have hpos:1≤(c::r).length:=by simp
   split at h
   ·have hds:=(List.dropWhile_sublist (p:=fun x:UInt8=>decide (x≠10)) (l:=c::r)).length_le
    obtain ⟨h1,h2⟩:=Pm n _ _ _ _ (by omega) h
    exact ⟨h1,by omega⟩
   ·split at h
    ·obtain ⟨h1,h2⟩:=Pm n _ _ _ _ (by simp only [List.length_drop];omega) h
     simp only [List.length_drop] at h2
     exact ⟨h1,by omega⟩
    ·rename_i k0
     cases hlex:ER n ((c::r).drop (dJ (c::r)).2) (a+(b.length - (c::r).length)+(dJ (c::r)).2) la bad with
     | none=>rw [hlex] at h;cases h
     | some p=>
      obtain ⟨res1,bad1⟩:=p
      rw [hlex] at h
      simp only [Option.map_some,Option.some.injEq,Prod.mk.injEq] at h
      obtain ⟨rfl,_⟩:=h
      obtain ⟨h1,h2⟩:=Pm n _ _ _ _ (by simp only [List.length_drop];omega) hlex
      simp only [List.length_drop] at h2
      have hlen:((c::r).take (dJ (c::r)).2).length=(dJ (c::r)).2:=by rw [List.length_take];omega
      refine ⟨.cons _ _ ⟨?_, ?_, ?_, ?_⟩ h1, ?_⟩
      ·rcases Qc (c::r) with h|h|h|h
       ·exact absurd h k0
       ·exact .inl h
       ·exact .inr (.inl h)
       ·exact .inr (.inr h)
      ·intro he
       have:=congrArg List.length he
       simp only [hlen,List.length_nil] at this
       omega
      ·show ((c::r).take (dJ (c::r)).2).length≤65536
       omega
      ·intro hk
       exact adh (acB (Prod.ext hk rfl))
      ·simp only [tw,hlen];omega
theorem zI {src:List UInt8} (h:src.length≤65536):WT (lexB src).1∧tw (lexB src).1≤2 * src.length+1:=Pm _ src 0 (-1) [] h (Vq src)
theorem UY:∀l:List Tok,l.length≤tw l
 | []=>Nat.le_refl _
 | t::r=>by have:=UY r;simp only [List.length_cons,tw];omega
theorem Yv (p r:List Tok):tw (p++r)=tw p+tw r:=by
 induction p with
 | nil=>simp [tw]
 | cons t p ih=>simp only [List.cons_append,tw,ih];omega
def Wgt (l:List Tok) (x:PR C):Prop:=∀c r,x=.ok c r→wC c+tw r≤tw l
theorem Vk {l r:List Tok} {nm:List UInt8} (hw:WT l) (h:ig l=.ok nm r):1+nm.length+tw r=tw l:=by
 unfold ig at h
 split at h
 ·rename_i h1
  obtain ⟨t,q,rfl,_,_⟩:=hw.tl (.inr (by rw [h1.1];decide))
  split at h
  ·cases h;simp [tw]
  ·cases h
 ·cases h
theorem Yq {w:List UInt8} {l r:List Tok} {u:Unit} (h:kH w l=.ok u r):tw r≤tw l:=by
 unfold kH at h
 split at h
 ·cases h
  cases l with
  | nil=>exact Nat.le_refl _
  | cons t q=>simp [tw]
 ·cases h
theorem afk {least n:Int} {l r:List Tok} (h:yw least l=.ok n r):tw r≤tw l:=by
 unfold yw at h
 split at h
 ·split at h
  ·split at h
   ·cases h
   ·cases h
    cases l with
    | nil=>exact Nat.le_refl _
    | cons t q=>simp [tw]
  ·cases h
 ·cases h
theorem Yw {l:List Tok} {w:List UInt8} (hw:WT l) (h:txt l=w) (hn:w≠[]):1+w.length+tw l.tail=tw l:=by
 obtain ⟨t,q,rfl,_,_⟩:=hw.tl (.inl (by rw [h];exact hn))
 simp only [dL] at h
 simp [tw,h]
theorem aB {α β:Type} {x:PR α} {f:α→List Tok→PR β} {v:β} {r:List Tok}:x.bind f=.ok v r ↔ ∃u q,x=.ok u q∧f u q=.ok v r:=by
 cases x with
 | ok u q=>exact ⟨fun h=>⟨u,q,rfl,h⟩,fun ⟨u',q',h1,h2⟩=>by cases h1;exact h2⟩
 | er a e q=>exact ⟨fun h=>(by cases h),fun ⟨u',q',h1,h2⟩=>(by cases h1)⟩
theorem Gv (k:Int) (nm:List UInt8) (lo hi:Int) (z:Bool):wC (.mk k nm lo hi z [])=1+nm.length / 40:=by rw [qm];simp [C.name,C.parts,wL]
theorem afF (a b:List C):wL (a++b)=wL a+wL b:=by
 induction a with
 | nil=>simp [wL]
 | cons p r ih=>simp only [List.cons_append,wL,ih];omega
theorem ZY:∀n:Nat,(∀l,WT l→Wgt l (gZ n l))∧(∀l,WT l→Wgt l (uV n l))∧∀l cs,WT l→cs≠[]→∀c r,jK n l cs=.ok c r→wC c+tw r≤wL cs+tw l+(if 2≤cs.length then 1 else 0)
 | 0=>⟨fun l _ c r h=>(by unfold gZ at h;cases h),fun l _ c r h=>(by unfold uV at h;cases h),fun l cs _ _ c r h=>(by unfold jK at h;cases h)⟩
 | n+1=>by
  obtain ⟨i1,i2,i3⟩:=ZY n
  have wt:∀{α:Type} {l r:List Tok} {x:PR α} {v:α},Good' l x→x=.ok v r→WT r:=by
   intro α l r x v hg e;rw [e] at hg;exact hg.1
  refine ⟨fun l hw c r h=>?_,fun l hw c r h=>?_,fun l cs hw hcs c r h=>?_⟩
  ·unfold gZ at h
   split at h
   ·rename_i h1;cases h
    have:=Yw hw h1 (by decide)
    rw [Gv];simp;omega
   split at h
   ·rename_i h1;cases h
    have:=Yw hw h1 (by decide)
    rw [Gv];simp;omega
   split at h
   ·rename_i h1
    obtain ⟨nm,l1,e1,g1⟩:=aB.1 h
    obtain ⟨u,l2,e2,g2⟩:=aB.1 g1
    cases g2
    obtain ⟨t,q,rfl,_,hq⟩:=hw.tl (.inl (by rw [h1];decide))
    have a1:=Vk hq e1
    have a2:=Yq e2
    rw [Gv];simp only [tw,List.tail_cons] at a1 ⊢;omega
   split at h
   ·rename_i h1
    obtain ⟨nm,l1,e1,g1⟩:=aB.1 h
    obtain ⟨c',l2,e2,g2⟩:=aB.1 g1
    cases g2
    obtain ⟨t,q,rfl,_,hq⟩:=hw.tl (.inl (by rw [h1];decide))
    have a1:=Vk hq e1
    have a2:=i1 l1 (wt (bF hq) e1) _ _ e2
    rw [qm];simp only [C.name,C.parts,wL];simp only [tw,List.tail_cons] at a1 ⊢;omega
   split at h
   ·rename_i h1
    obtain ⟨c',l1,e1,g1⟩:=aB.1 h
    obtain ⟨u,l2,e2,g2⟩:=aB.1 g1
    cases g2
    obtain ⟨t,q,rfl,_,hq⟩:=hw.tl (.inl (by rw [h1];decide))
    have a1:=i2 q hq _ _ e1
    have a2:=Yq e2
    simp only [tw];omega
   ·obtain ⟨nm,l1,e1,g2⟩:=aB.1 h
    have a1:=Vk hw e1
    split at g2
    ·rename_i h2
     obtain ⟨lo,l2,e2,g3⟩:=aB.1 g2
     obtain ⟨u,l3,e3,g4⟩:=aB.1 g3
     obtain ⟨hi,l4,e4,g5⟩:=aB.1 g4
     cases g5
     have a2:=Yw (wt (bF hw) e1) h2 (by decide)
     have a3:=afk e2
     have a4:=Yq e3
     have a5:=afk e4
     rw [Gv];omega
    ·cases g2
     rw [Gv];omega
  ·unfold uV at h
   obtain ⟨c',l1,e1,g1⟩:=aB.1 h
   have a1:=i1 l hw c' l1 e1
   have a2:=i3 l1 [c'] (wt ((iK n).1 l hw) e1) (by simp) c r g1
   simp [wL] at a2
   omega
  ·unfold jK at h
   split at h
   ·rename_i h1
    obtain ⟨c',l1,e1,g1⟩:=aB.1 h
    obtain ⟨t,q,rfl,_,hq⟩:=hw.tl (.inl (by rw [h1];decide))
    have a1:=i1 q hq c' l1 e1
    have a2:=i3 l1 (cs++[c']) (wt ((iK n).1 q hq) e1) (by simp) c r g1
    rw [afF] at a2
    have hn:1≤t.2.1.length:=by simp only [dL] at h1;rw [h1];decide
    simp only [wL] at a2
    simp only [tw]
    split at a2<;>split<;>omega
   ·cases h
    rcases cs with _|⟨d,_|⟨f,q⟩⟩
    ·exact absurd rfl hcs
    ·simp [Yf,wL]
    ·simp only [Yf,List.length_cons]
     rw [qm]
     simp only [C.name,C.parts,List.length_nil]
     split<;>omega
theorem MQ {l r:List Tok} {c:C} (hw:WT l) (h:kJ l=.ok c r):wC c+tw r≤tw l:=(ZY _).2.1 l hw c r h
end Go.Ai.Z
namespace Go.Ai.Z
def nO:Nat→List UInt8→Nat→Int→Option (List Tok×List Pb)
 | 0,_,_,_=>none
 | n+1,b,a,la=>
  match b.dropWhile mY with
  | []=>some ([(4,[],a+b.length)],[])
  | c::r=>
   let a1:=a+(b.length - (c::r).length)
   if nR c=2 then
    let d:=(c::r).dropWhile fun x=>decide (x≠10)
    nO n d (a1+((c::r).length - d.length)) la
   else if (dJ (c::r)).1=0 then
    (nO n ((c::r).drop (dJ (c::r)).2) (a1+(dJ (c::r)).2) ((a1+(dJ (c::r)).2:Nat):Int)).map fun p=>(p.1,if (a1:Int)≠la then ((a1:Int),10)::p.2 else p.2)
   else (nO n ((c::r).drop (dJ (c::r)).2) (a1+(dJ (c::r)).2) la).map fun p=>(((dJ (c::r)).1,(c::r).take (dJ (c::r)).2,a1)::p.1,p.2)
theorem I9:∀(n:Nat) (b:List UInt8) (a:Nat) (la:Int) (bad:List Pb),bad.length≤64→ER n b a la bad=(nO n b a la).map fun p=>(p.1,(bad++p.2).take 64)
 | 0,b,a,la,bad,h=>rfl
 | n+1,b,a,la,bad,h=>by
  unfold ER nO
  cases hx:b.dropWhile mY with
  | nil=>simp only [Option.map_some,List.append_nil];rw [List.take_of_length_le h]
  | cons c r=>
   simp only []
   split
   ·exact I9 n _ _ _ bad h
   ·split
    ·by_cases h1:((a+(b.length - (c::r).length):Nat):Int)≠la
     ·by_cases h2:bad.length<64
      ·rw [if_pos ⟨h1,h2⟩,I9 n _ _ _ _ (by simp;omega),Option.map_map]
       congr 1
       funext p
       simp only [Function.comp_apply,if_pos h1,List.append_assoc,List.singleton_append]
      ·rw [if_neg (fun hh=>h2 hh.2),I9 n _ _ _ _ h,Option.map_map]
       congr 1
       funext p
       simp only [Function.comp_apply,if_pos h1]
       rw [List.take_append_of_le_length (by omega),List.take_append_of_le_length (by omega)]
     ·rw [if_neg (fun hh=>h1 hh.1),I9 n _ _ _ _ h,Option.map_map]
      congr 1
      funext p
      simp only [Function.comp_apply,if_neg h1]
    ·rw [I9 n _ _ _ _ h,Option.map_map,Option.map_map]
     rfl
theorem YU (n:Nat) (b:List UInt8) (a:Nat) (la:Int) (h:b.length<n):∃p,nO n b a la=some p:=by
 obtain ⟨p,hp⟩:=Ar n b a la [] h
 rw [I9 n b a la [] (by simp)] at hp
 cases hr:nO n b a la with
 | none=>rw [hr] at hp;cases hp
 | some q=>exact ⟨q,rfl⟩
theorem Pg {x:UInt8} (hx:nR x=1):∀(b y:List UInt8),dV (b++x::y)=dV b
 | [],y=>by rw [List.nil_append,oI,show IB x=false by simp [IB,hx]];rfl
 | c::r,y=>by rw [List.cons_append,oI,oI,Pg hx r y]
theorem WZ (b:List UInt8):dV b≤b.length:=DK b
theorem LZ {b y:List UInt8} {n:Nat} (h:n≤b.length):ou (b++y) n=ou b n:=by
 unfold ou
 rw [List.take_append_of_le_length h]
theorem ZQ {x:UInt8} (hx:nR x=1) (c:UInt8) (r y:List UInt8):dJ (c::r++x::y)=dJ (c::r):=by
 have e0:c::r++x::y=c::(r++x::y):=rfl
 have hrun:=Pg hx (c::r) y
 have hle:=WZ (c::r)
 rw [e0] at hrun ⊢
 rw [pX,pX,hrun]
 by_cases h3:nR c=3
 ·rw [if_pos h3,if_pos h3]
  have hd:(c::(r++x::y)).drop (dV (c::r))=(c::r).drop (dV (c::r))++x::y:=by rw [←e0,List.drop_append_of_le_length hle]
  rw [hd]
  rcases hq:(c::r).drop (dV (c::r)) with _|⟨d,_|⟨e,q⟩⟩
  ·have h58:¬x=58:=by rintro rfl;exact absurd hx (by decide)
   cases y with
   | nil=>rfl
   | cons f y=>simp [h58]
  ·have:nR x≠3:=by omega
   simp [this]
  ·simp only [List.cons_append]
   have:=Pg hx (e::q) y
   rw [List.cons_append] at this
   rw [this]
 ·rw [if_neg h3,if_neg h3]
  by_cases h5:nR c=5
  ·rw [if_pos h5,if_pos h5]
   cases r with
   | nil=>
    have h1:¬x=62:=by rintro rfl;exact absurd hx (by decide)
    have h2:¬nR x=4:=by omega
    simp [h1,h2]
   | cons d q=>
    simp only [List.cons_append]
    have h6:=Pg hx (d::q) y
    have h7:=WZ (d::q)
    rw [List.cons_append] at h6
    rw [h6]
    have h8:=LZ (b:=c::d::q) (y:=x::y) (n:=1+dV (d::q)) (by simp only [List.length_cons] at *;omega)
    simp only [List.cons_append] at h8
    rw [h8]
  ·rw [if_neg h5,if_neg h5]
   have h8:=LZ (b:=c::r) (y:=x::y) (n:=dV (c::r)) hle
   simp only [List.cons_append] at h8
   rw [h8]
theorem ael (c:UInt8) (r y:List UInt8):dJ (c::r++10::y)=dJ (c::r):=ZQ (by decide) c r y
theorem BM {α:Type} {p:α→Bool}:∀(x y:List α),(x++y).dropWhile p=if x.dropWhile p=[] then y.dropWhile p else x.dropWhile p++y
 | [],y=>by simp
 | c::r,y=>by
  rw [List.cons_append,List.dropWhile_cons,List.dropWhile_cons]
  split
  ·exact BM r y
  ·simp
theorem aew {n:Nat} {y:List UInt8} {a:Nat} {la:Int}:nO n (10::y) a la=nO n y (a+1) la:=by
 cases n with
 | zero=>rfl
 | succ n=>
  have hd:(10::y).dropWhile mY=y.dropWhile mY:=by rw [List.dropWhile_cons,show mY 10=true by decide,if_pos rfl]
  have hl:=(List.dropWhile_sublist (p:=mY) (l:=y)).length_le
  rw [nO,nO,hd]
  cases hx:y.dropWhile mY with
  | nil=>simp;omega
  | cons c r=>
   rw [hx] at hl
   have e:a+((10::y).length - (c::r).length)=a+1+(y.length - (c::r).length):=by simp only [List.length_cons] at *;omega
   simp only [e]
theorem DX:∀{n:Nat} (x y:List UInt8) {a:Nat} {la:Int},x.dropWhile mY=[]→nO n (x++y) a la=nO n y (a+x.length) la
 | n,[],y,a,la,_=>rfl
 | n,c::x,y,a,la,h=>by
  have hc:mY c=true:=by
   cases hb:mY c with
   | true=>rfl
   | false=>rw [List.dropWhile_cons,hb] at h;simp at h
  have hx:x.dropWhile mY=[]:=by rw [List.dropWhile_cons,hc,if_pos rfl] at h;exact h
  have ih:=DX (n:=n) x y (a:=a+1) (la:=la) hx
  rw [List.length_cons,show a+(x.length+1)=a+1+x.length by omega,←ih]
  cases n with
  | zero=>rfl
  | succ n=>
   have hd:(c::(x++y)).dropWhile mY=(x++y).dropWhile mY:=by rw [List.dropWhile_cons,hc,if_pos rfl]
   have hl:=(List.dropWhile_sublist (p:=mY) (l:=x++y)).length_le
   rw [List.cons_append,nO,nO,hd]
   cases hq:(x++y).dropWhile mY with
   | nil=>simp;omega
   | cons d r=>
    rw [hq] at hl
    have e:a+((c::(x++y)).length - (d::r).length)=a+1+((x++y).length - (d::r).length):=by simp only [List.length_cons] at *;omega
    simp only [e]
def After (n:Nat) (x y:List UInt8) (a:Nat) (la:Int):Prop:=
 ∃(tx:List Tok) (bx:List Pb) (la':Int),nO n x a la=some (tx++[(4,[],a+x.length)],bx)∧(la'=la∨(a:Int)<la'∧la'≤a+x.length)∧(∀t∈tx,a≤t.2.2∧t.2.2<a+x.length∧t.1≠4)∧(∀p∈bx,(a:Int)≤p.1∧p.1<a+x.length∧p.2=10)∧
   ∀m:Nat,y.length<m→nO (n+m) (x++10::y) a la=(nO m y (a+x.length+1) la').map fun p=>(tx++p.1,bx++p.2)
theorem CW:∀(n m:Nat) (b:List UInt8) (a:Nat) (la:Int),b.length<n→b.length<m→nO n b a la=nO m b a la
 | 0,m,b,a,la,h,_=>by omega
 | n+1,0,b,a,la,_,h=>by omega
 | n+1,m+1,b,a,la,h1,h2=>by
  have hdl:=(List.dropWhile_sublist (p:=mY) (l:=b)).length_le
  unfold nO
  cases hx:b.dropWhile mY with
  | nil=>rfl
  | cons c r=>
   rw [hx] at hdl
   simp only []
   have hsp:=yX c r
   have hpos:1≤(c::r).length:=by simp
   split
   ·rename_i c2
    have h10:c≠10:=fun h=>by rw [h] at c2;exact absurd c2 (by decide)
    have:((c::r).dropWhile fun x=>decide (x≠10)).length<(c::r).length:=by
     have e1:(c::r).dropWhile (fun x=>decide (x≠10))=r.dropWhile fun x=>decide (x≠10):=by rw [List.dropWhile_cons,if_pos (by simpa using h10)]
     have:=(List.dropWhile_sublist (p:=fun x:UInt8=>decide (x≠10)) (l:=r)).length_le
     rw [e1]
     simp only [List.length_cons]
     omega
    exact CW n m _ _ _ (by omega) (by omega)
   ·split
    ·rw [CW n m _ _ _ (by simp only [List.length_drop];omega) (by simp only [List.length_drop];omega)]
    ·rw [CW n m _ _ _ (by simp only [List.length_drop];omega) (by simp only [List.length_drop];omega)]
theorem DY:∀(n:Nat) (x y:List UInt8) (a:Nat) (la:Int),x.length<n→After n x y a la
 | 0,x,y,a,la,h=>by omega
 | n+1,x,y,a,la,h=>by
  have hdl:=(List.dropWhile_sublist (p:=mY) (l:=x)).length_le
  cases hx:x.dropWhile mY with
  | nil=>
   refine ⟨[],[],la,by rw [nO,hx];rfl,.inl rfl,fun t ht=>(by cases ht),fun p hp=>(by cases hp),fun m hm=>?_⟩
   rw [DX x (10::y) hx,aew,CW (n+1+m) m _ _ _ (by omega) hm]
   cases nO m y (a+x.length+1) la<;>rfl
  | cons c r=>
   rw [hx] at hdl
   have hsp:=yX c r
   have hsl:=O8 c r
   have hpos:1≤(c::r).length:=by simp
   have hdw:(x++10::y).dropWhile mY=c::(r++10::y):=by rw [BM,hx];simp
   have hlen:(x++10::y).length - (c::(r++10::y)).length=x.length - (c::r).length:=by simp only [List.length_append,List.length_cons] at *;omega
   generalize ha1:a+(x.length - (c::r).length)=a1
   by_cases c2:nR c=2
   ·have h10:c≠10:=fun h=>by rw [h] at c2;exact absurd c2 (by decide)
    have hds:((c::r).dropWhile fun x=>decide (x≠10)).length<(c::r).length:=by
     have e1:(c::r).dropWhile (fun x=>decide (x≠10))=r.dropWhile fun x=>decide (x≠10):=by rw [List.dropWhile_cons,if_pos (by simpa using h10)]
     have:=(List.dropWhile_sublist (p:=fun x:UInt8=>decide (x≠10)) (l:=r)).length_le
     rw [e1]
     simp only [List.length_cons]
     omega
    generalize hdd:((c::r).dropWhile fun x=>decide (x≠10))=dd at hds
    have hdd2:(c::(r++10::y)).dropWhile (fun x=>decide (x≠10))=dd++10::y:=by
     have:=BM (p:=fun x:UInt8=>decide (x≠10)) (c::r) (10::y)
     rw [List.cons_append,hdd] at this
     rw [this]
     cases dd with
     | nil=>simp
     | cons d q=>simp
    obtain ⟨tx,bx,la',q1,q2,q3,q4,q5⟩:=DY n dd y (a1+((c::r).length - dd.length)) la (by omega)
    have hend:a1+((c::r).length - dd.length)+dd.length=a+x.length:=by omega
    rw [hend] at q1 q3 q5
    refine ⟨tx,bx,la', ?_, ?_,fun t ht=>?_,fun p hp=>?_,fun m hm=>?_⟩
    ·rw [nO,hx];simp only [c2,if_true,hdd,ha1];exact q1
    ·rcases q2 with q2|q2
     ·exact .inl q2
     ·exact .inr ⟨by omega,by omega⟩
    ·have:=q3 t ht;exact ⟨by omega,this.2⟩
    ·have:=q4 p hp;exact ⟨by omega,by omega,this.2.2⟩
    ·have q6:=q5 m hm
     rw [show n+1+m=(n+m)+1 by omega,nO,hdw]
     simp only [c2,if_true,hdd2,hlen,ha1]
     have e2:(c::(r++10::y)).length - (dd++10::y).length=(c::r).length - dd.length:=by simp only [List.length_append,List.length_cons] at *;omega
     rw [e2];exact q6
   ·have hscn:dJ (c::(r++10::y))=dJ (c::r):=ael c r y
    have hdrp:(c::(r++10::y)).drop (dJ (c::r)).2=(c::r).drop (dJ (c::r)).2++10::y:=by
     have:c::(r++10::y)=(c::r)++10::y:=rfl
     rw [this,List.drop_append_of_le_length hsl]
    have htk:(c::(r++10::y)).take (dJ (c::r)).2=(c::r).take (dJ (c::r)).2:=by
     have:c::(r++10::y)=(c::r)++10::y:=rfl
     rw [this,List.take_append_of_le_length hsl]
    have hdl2:((c::r).drop (dJ (c::r)).2).length=(c::r).length - (dJ (c::r)).2:=List.length_drop
    have hend:a1+(dJ (c::r)).2+((c::r).drop (dJ (c::r)).2).length=a+x.length:=by omega
    by_cases k0:(dJ (c::r)).1=0
    ·obtain ⟨tx,bx,la',q1,q2,q3,q4,q5⟩:=DY n ((c::r).drop (dJ (c::r)).2) y (a1+(dJ (c::r)).2) ((a1+(dJ (c::r)).2:Nat):Int) (by omega)
     rw [hend] at q1 q3 q5
     refine ⟨tx,if (a1:Int)≠la then ((a1:Int),10)::bx else bx,la', ?_, ?_,fun t ht=>?_,fun p hp=>?_,fun m hm=>?_⟩
     ·rw [nO,hx];simp only [c2,if_false,k0,if_true,ha1,q1,Option.map_some]
     ·rcases q2 with q2|q2
      ·exact .inr ⟨by omega,by omega⟩
      ·exact .inr ⟨by omega,by omega⟩
     ·have:=q3 t ht;exact ⟨by omega,this.2⟩
     ·have old:∀p∈bx,(a:Int)≤p.1∧p.1<a+x.length∧p.2=10:=fun p hp=>by have:=q4 p hp;exact ⟨by omega,by omega,this.2.2⟩
      split at hp
      ·rcases List.mem_cons.1 hp with rfl|hp
       ·exact ⟨by simp only [];omega,by simp only [];omega,rfl⟩
       ·exact old p hp
      ·exact old p hp
     ·have q6:=q5 m hm
      rw [show n+1+m=(n+m)+1 by omega,nO,hdw]
      simp only [c2,if_false,hscn,k0,if_true,hdrp,hlen,ha1,q6,Option.map_map]
      congr 1
      funext p
      simp only [Function.comp_apply]
      split<;>simp
    ·obtain ⟨tx,bx,la',q1,q2,q3,q4,q5⟩:=DY n ((c::r).drop (dJ (c::r)).2) y (a1+(dJ (c::r)).2) la (by omega)
     rw [hend] at q1 q3 q5
     refine ⟨((dJ (c::r)).1,(c::r).take (dJ (c::r)).2,a1)::tx,bx,la', ?_, ?_,fun t ht=>?_,fun p hp=>?_,fun m hm=>?_⟩
     ·rw [nO,hx];simp only [c2,if_false,k0,ha1,q1,Option.map_some];rfl
     ·rcases q2 with q2|q2
      ·exact .inl q2
      ·exact .inr ⟨by omega,by omega⟩
     ·rcases List.mem_cons.1 ht with rfl|ht
      ·have:(dJ (c::r)).1≠4:=by rcases Qc (c::r) with h|h|h|h<;>rw [h]<;>decide
       exact ⟨by simp only [];omega,by simp only [];omega,this⟩
      ·have:=q3 t ht;exact ⟨by omega,this.2⟩
     ·have:=q4 p hp;exact ⟨by omega,by omega,this.2.2⟩
     ·have q6:=q5 m hm
      rw [show n+1+m=(n+m)+1 by omega,nO,hdw]
      simp only [c2,if_false,hscn,k0,hdrp,htk,hlen,ha1,q6,Option.map_map]
      congr 1
end Go.Ai.Z
namespace Go.Ai.Z
def shT (k:Nat) (t:Tok):Tok:=(t.1,t.2.1,t.2.2+k)
def shP (k:Nat) (p:Pb):Pb:=(p.1+k,p.2)
theorem wP (k:Nat):∀(n:Nat) (b:List UInt8) (a:Nat) (la la':Int),(la'=la+k∨(la<a∧la'<a+k))→nO n b (a+k) la'=(nO n b a la).map fun p=>(p.1.map (shT k),p.2.map (shP k))
 | 0,b,a,la,la',h=>rfl
 | n+1,b,a,la,la',h=>by
  have hdl:=(List.dropWhile_sublist (p:=mY) (l:=b)).length_le
  unfold nO
  cases hx:b.dropWhile mY with
  | nil=>simp [shT];omega
  | cons c r=>
   rw [hx] at hdl
   simp only []
   have e1:a+k+(b.length - (c::r).length)=a+(b.length - (c::r).length)+k:=by omega
   rw [e1]
   generalize ha1:a+(b.length - (c::r).length)=a1
   split
   ·generalize hd:((c::r).length - ((c::r).dropWhile fun x=>decide (x≠10)).length)=d
    rw [show a1+k+d=a1+d+k by omega]
    exact wP k n _ _ la la' (by rcases h with h|h;exact .inl h;exact .inr ⟨by omega,by omega⟩)
   ·rw [show a1+k+(dJ (c::r)).2=a1+(dJ (c::r)).2+k by omega]
    split
    ·rw [wP k n _ (a1+(dJ (c::r)).2) ((a1+(dJ (c::r)).2:Nat):Int) ((a1+(dJ (c::r)).2+k:Nat):Int) (.inl (by omega)),Option.map_map,Option.map_map]
     congr 1
     funext p
     have hiff:((a1+k:Nat):Int)≠la' ↔ (a1:Int)≠la:=by
      rcases h with h|h
      ·rw [h];constructor<;>intro h2 h3<;>exact h2 (by omega)
      ·constructor<;>intro _ h3<;>omega
     simp only [Function.comp_apply]
     by_cases hh:(a1:Int)≠la
     ·rw [if_pos hh,if_pos (hiff.2 hh)];simp [shP]
     ·rw [if_neg hh,if_neg (fun h2=>hh (hiff.1 h2))]
    ·rw [wP k n _ _ la la' (by rcases h with h|h;exact .inl h;exact .inr ⟨by omega,by omega⟩),Option.map_map,Option.map_map]
     rfl
def jA (src:List UInt8):List Tok×List Pb:=(nO (src.length+1) src 0 (-1)).getD ([],[])
theorem um (src:List UInt8) {n:Nat} (h:src.length<n):nO n src 0 (-1)=some (jA src):=by
 obtain ⟨p,hp⟩:=YU (src.length+1) src 0 (-1) (by omega)
 rw [CW n (src.length+1) src 0 (-1) h (by omega)]
 unfold jA;rw [hp];rfl
theorem LW (src:List UInt8):lexB src=((jA src).1,(jA src).2.take 64):=by
 have h:=Vq src
 rw [I9 _ _ _ _ [] (by simp),um src (by omega)] at h
 simpa using (Option.some.inj h).symm
def body (x:List UInt8):List Tok:=(jA x).1.dropLast
structure Cat (x y:List UInt8):Prop where
 x1:(jA x).1=body x++[(4,[],x.length)]
 bd:∀t∈body x,t.2.2<x.length∧t.1≠4
 x2:∀p∈(jA x).2,0≤p.1∧p.1<x.length∧p.2=10
 t:(jA (x++10::y)).1=body x++(jA y).1.map (shT (x.length+1))
 p:(jA (x++10::y)).2=(jA x).2++(jA y).2.map (shP (x.length+1))
theorem zH (x y:List UInt8):Cat x y:=by
 obtain ⟨tx,bx,la',q1,q2,q3,q4,q5⟩:=DY (x.length+1) x y 0 (-1) (by omega)
 rw [um x (by omega)] at q1
 simp only [Nat.zero_add] at q1 q3 q4 q5
 have h1:jA x=(tx++[(4,[],x.length)],bx):=Option.some.inj q1
 have hb:body x=tx:=by unfold body;rw [h1];simp
 have h2:=q5 (y.length+1) (by omega)
 rw [um (x++10::y) (by simp only [List.length_append,List.length_cons];omega)] at h2
 have h3:=wP (x.length+1) (y.length+1) y 0 (-1) la' (.inr ⟨by decide,by rcases q2 with q2|q2<;>omega⟩)
 rw [Nat.zero_add] at h3
 rw [h3,um y (by omega)] at h2
 simp only [Option.map_some] at h2
 have h4:=Option.some.inj h2
 refine ⟨by rw [h1,hb],fun t ht=>?_,fun p hp=>?_,by rw [h4,hb],by rw [h4,h1]⟩
 ·rw [hb] at ht;have:=q3 t ht;exact ⟨by omega,this.2.2⟩
 ·rw [h1] at hp;have:=q4 p hp;exact ⟨by omega,by omega,this.2.2⟩
theorem JV {c:UInt8} (h:nR c=6) (y:List UInt8):(jA (c::y)).1=(3,[c],0)::(jA y).1.map (shT 1)∧(jA (c::y)).2=(jA y).2.map (shP 1):=by
 have hsc:dJ (c::y)=(3,1):=by rw [pX,if_neg (by rw [h];decide),if_neg (by rw [h];decide),if_neg (by rw [h];decide),if_pos h]
 have hb:mY c=false:=by simp [mY,h]
 have h2:=um (c::y) (n:=y.length+2) (by simp)
 have hdw:(c::y).dropWhile mY=c::y:=by rw [List.dropWhile_cons,hb];simp
 rw [nO,hdw] at h2
 have c2:¬nR c=2:=by rw [h];decide
 simp only [c2,if_false,hsc,Nat.sub_self,Nat.add_zero,List.drop_succ_cons,List.drop_zero] at h2
 rw [if_neg (by decide)] at h2
 have h3:=wP 1 (y.length+1) y 0 (-1) (-1) (.inr ⟨by decide,by decide⟩)
 rw [Nat.zero_add] at h3
 rw [Nat.zero_add,h3,um y (by omega)] at h2
 simp only [Option.map_some] at h2
 have h4:=Option.some.inj h2
 exact ⟨by rw [←h4];rfl,by rw [←h4]⟩
theorem lex_nil:jA []=([(4,[],0)],[]):=rfl
end Go.Ai.Z
