/-
 slices.Compact of strings.
-/
import Derived.Test.YtalbhlfigmlddaaGreatDoorAiQB2
import Derived.Test.YtalbhlfigmlddaaGreatDoorAiPSortS
set_option maxRecDepth 100000
set_option linter.unusedSimpArgs false
set_option linter.unusedVariables false
set_option linter.unusedSectionVars false
namespace Go.Ai.Z
def lK (a:List UInt8):List (List UInt8)→List (List UInt8)
 | []=>[]
 | b::r=>if b=a then lK b r else b::lK b r
def dS:List (List UInt8)→List (List UInt8)
 | []=>[]
 | a::r=>a::lK a r
theorem zF:∀(a:List UInt8) (l:List (List UInt8)),(lK a l).Sublist l
 | a,[]=>.slnil
 | a,b::r=>by
  unfold lK
  split
  ·exact (zF b r).cons _
  ·exact (zF b r).cons_cons _
theorem LG:∀l:List (List UInt8),(dS l).Sublist l
 | []=>.slnil
 | a::r=>(zF a r).cons_cons _
theorem QG (a:List UInt8):∀(l:List (List UInt8)) (b:List UInt8),lK a (l++[b])=if b=l.getLastD a then lK a l else lK a l++[b]
 | [],b=>by simp [lK]
 | x::l,b=>by
  simp only [List.cons_append,lK]
  have h:=QG x l b
  have hl:(x::l).getLastD a=l.getLastD x:=List.getLastD_cons
  rw [h,hl]
  split<;>split<;>rfl
theorem QF (L:List (List UInt8)) (j:Nat) (h:j+1<L.length):dS (L.take (j+2))=if L[j+1]=L[j] then dS (L.take (j+1)) else dS (L.take (j+1))++[L[j+1]]:=by
 have h1:L.take (j+2)=L.take (j+1)++[L[j+1]]:=List.take_succ_eq_append_getElem h
 rw [h1]
 have h2:∃a r,L.take (j+1)=a::r∧r.getLastD a=L[j]:=by
  have h3:L.take (j+1)=L.take j++[L[j]]:=List.take_succ_eq_append_getElem (by omega)
  rw [h3]
  cases hL:L.take j with
  | nil=>exact ⟨_,_,rfl,rfl⟩
  | cons a r=>exact ⟨a,r++[L[j]],rfl,by simp⟩
 obtain ⟨a,r,e1,e2⟩:=h2
 rw [e1]
 simp only [List.cons_append,dS,QG,e2]
 split<;>rfl
theorem WW (l:List (List UInt8)):(dS l).length≤l.length:=(LG l).length_le
@[simp] theorem afU {env:Env} {l ver sz o n:Nat}:tH env (some (.v (.sk l ver sz o n)))=none:=rfl
section
variable (L:List (List UInt8)) (hL:L.length≤100000) (s:St) (cx:Ctx) (l t ver:Nat) (hl:l<s.length) (hlim:cx.lim≤l) (hbase:cx.base≤l)
include hL hl hlim hbase
theorem MN (k0:Nat) (hk0:1≤k0):∀(d q:Nat),k0+q+1+d=L.length→(dS (L.take (k0+q+1))).length≤k0+q→
  ∃k2:Int,bg (au P0.glob (aj P0) cx true dJ) [0,3,4,5]
   [(0,.v (.sk l ver 1 0 L.length)),(3,.v (.i .i64 (dS (L.take (k0+q+1))).length)),(4,.v (.sk l ver 1 k0 (L.length - k0))),(5,.v (.i .i64 ((q+1:Nat):Int)))]
   (s.set l (.buf t 1 ver ((dS (L.take (k0+q+1))++L.drop (dS (L.take (k0+q+1))).length).map .s)))=
   .exit 2 [(0,.v (.sk l ver 1 0 L.length)),(3,.v (.i .i64 (dS L).length)),(4,.v (.sk l ver 1 k0 (L.length - k0))),(5,.v (.i .i64 k2)),(32,.v (.b false))]
   (s.set l (.buf t 1 ver ((dS L++L.drop (dS L).length).map .s)))
 | 0,q,hd,hq=>by
  have h1:L.take (k0+q+1)=L:=List.take_of_length_le (by omega)
  have h2:¬(q+1<L.length - k0):=by omega
  refine ⟨((q+1:Nat):Int),ai fun K hK=>?_⟩
  rw [h1]
  simp [dJ,h2]
  repeat' (first | (split<;>(try simp only [dD,dF,dH,gW,gX])<;>(try simp [*])) | (simp only [dD,dF,dH,gW,gX]<;>(try simp [*]))|omega)
 | d+1,q,hd,hq=>by
  have hj:k0+q+1<L.length:=by omega
  have hct:=QF L (k0+q) hj
  obtain ⟨k2,ih⟩:=MN k0 hk0 d (q+1) (by omega) (by
   rw [show k0+(q+1)+1=k0+q+2 by omega,hct]
   split
   ·omega
   ·simp;omega)
  refine ⟨k2,ai fun K hK=>?_⟩
  rw [←hK] at ih
  clear hK
  have hwl:=hq
  rw [show k0+(q+1)+1=k0+q+2 by omega,hct] at ih
  generalize hW:dS (L.take (k0+q+1))=W at ih hwl
  have h2:q+1<L.length - k0:=by omega
  generalize hM:W++L.drop W.length=M
  have hMl:M.length=L.length:=by rw [←hM];simp;omega
  have hg:∀i,W.length≤i→i<L.length→M[i]?=L[i]?:=by
   intro i h3 h4
   rw [←hM,List.getElem?_append_right h3,List.getElem?_drop];congr 1;omega
  have hp1:M[k0+(q+1)]?=some L[k0+q+1]:=by
   rw [hg _ (by omega) (by omega),List.getElem?_eq_getElem (by omega:k0+(q+1)<L.length)];rfl
  have hp2:M[k0+q]?=some L[k0+q]:=by
   rw [hg _ (by omega) (by omega),List.getElem?_eq_getElem (by omega:k0+q<L.length)]
  have hs:splice (M.map AV.s) W.length [.s L[k0+q+1]]=(M.set W.length L[k0+q+1]).map .s:=by
   simp only [splice,List.length_cons,List.length_nil,←List.map_take,←List.map_drop]
   rw [List.set_eq_take_append_cons_drop,if_pos (by omega)]
   simp
  have hset:M.set W.length L[k0+q+1]=(W++[L[k0+q+1]])++L.drop (W++[L[k0+q+1]]).length:=by
   rw [←hM]
   have h3:L.drop W.length=L[W.length]'(by omega)::L.drop (W.length+1):=List.drop_eq_getElem_cons (by omega)
   rw [h3,List.set_append_right _ _ (Nat.le_refl _),Nat.sub_self,List.set_cons_zero]
   simp
  rw [hset] at hs
  have hwi1:IntKind.i64.wrap (q:Int)=(q:Int):=by rw [w64]<;>omega
  have hwi2:IntKind.i64.wrap ((q:Int)+1+1)=(q:Int)+1+1:=by rw [w64]<;>omega
  have h2i:(q:Int)+1<((L.length - k0:Nat):Int):=by omega
  have h2j:q<L.length - k0:=by omega
  have h00:(0:Int)≤(q:Int)+1:=by omega
  have hWL:W.length<L.length:=by omega
  have hwi3:=wI (i:=W.length) (by omega)
  have hfit:W.length+1≤M.length:=by omega
  clear hct hq hW hg hset
  by_cases hc:L[k0+q+1]=L[k0+q]
  ·rw [if_pos hc,hM] at ih
   simp [dJ,h00,hWL,h2,h2i,h2j,hl,hp1,hp2,hwi1,hwi2,hc] at ih ⊢
   exact ih
  ·rw [if_neg hc] at ih
   simp [dJ,h00,hWL,h2,h2i,h2j,hl,hp1,hp2,hwi1,hwi2,hwi3,hc,hfit,hlim,hbase] at ih ⊢
   simp [splice] at hs
   rw [hs]
   exact ih
def yt (L:List (List UInt8)):List AV:=(dS L).map AV.s++List.replicate (L.length - (dS L).length) (AV.s [])
theorem MO:∀(d k:Nat),k+1+d=L.length→dS (L.take (k+1))=L.take (k+1)→
  bg (au P0.glob (aj P0) cx true dK) [0,3]
   [(0,.v (.sk l ver 1 0 L.length)),(3,.v (.i .i64 ((k+1:Nat):Int)))] (s.set l (.buf t 1 ver (L.map .s)))=
   if (dS L).length=L.length then .exit 0 [(0,.v (.sk l ver 1 0 L.length)),(3,.v (.i .i64 L.length)),(13,.v (.b false))] (s.set l (.buf t 1 ver (yt L)))
   else .ret [(2,.v (.sk l ver 1 0 (dS L).length))] (s.set l (.buf t 1 ver (yt L)))
 | 0,k,hd,hc=>by
  have h1:L.take (k+1)=L:=List.take_of_length_le (by omega)
  rw [h1] at hc
  have h2:¬((k:Int)+1<(L.length:Int)):=by omega
  have h3:(k:Int)+1=(L.length:Int):=by omega
  refine ai fun K hK=>?_
  simp [dK,h2,hc,yt]
  exact h3
 | d+1,k,hd,hcm=>by
  have hj:k+1<L.length:=by omega
  have hct:=QF L k hj
  refine ai fun K hK=>?_
  have h2:(k:Int)+1<(L.length:Int):=by omega
  have hp1:L[k+1]?=some L[k+1]:=List.getElem?_eq_getElem hj
  have hp2:L[k]?=some L[k]:=List.getElem?_eq_getElem (by omega)
  have hwi1:IntKind.i64.wrap (k:Int)=(k:Int):=by rw [w64]<;>omega
  have hwi2:IntKind.i64.wrap ((k:Int)+1+1)=(k:Int)+1+1:=by rw [w64]<;>omega
  have h2j:k<L.length:=by omega
  have h00:(0:Int)≤(k:Int)+1:=by omega
  by_cases hc:L[k+1]=L[k]
  ·-- the first repetition: the inner loop
   rw [if_pos hc,hcm] at hct
   have hne:¬(dS L).length=L.length:=by
    intro hel
    have he:dS L=L:=(LG L).eq_of_length hel
    have h3:(dS (L.take (k+2))).length=k+2:=by
     have h4:∀(a:List UInt8) (x y:List (List UInt8)),lK a (x++y)=x++y→lK a x=x:=by
      intro a x
      induction x generalizing a with
      | nil=>intro y _;rfl
      | cons b x ih=>
       intro y h5
       simp only [List.cons_append,lK] at h5 ⊢
       split at h5
       ·have:=(zF b (x++y)).length_le
        rw [h5] at this;simp at this;omega
       ·rename_i h6
        rw [if_neg h6]
        injection h5 with _ h7
        rw [ih b y h7]
     have h5:dS (L.take (k+2)++L.drop (k+2))=L.take (k+2)++L.drop (k+2):=by rw [List.take_append_drop];exact he
     have h6:dS (L.take (k+2))=L.take (k+2):=by
      cases hx:L.take (k+2) with
      | nil=>rfl
      | cons a x=>
       rw [hx] at h5
       simp only [List.cons_append,dS] at h5 ⊢
       injection h5 with _ h7
       rw [h4 a x _ h7]
     rw [h6];simp;omega
    rw [hct] at h3;simp at h3;omega
   obtain ⟨k2,hin⟩:=MN L hL s cx l t ver hl hlim hbase (k+1) (by omega) (L.length - (k+2)) 0 (by omega) (by
    show (dS (L.take (k+2))).length≤_
    rw [hct];simp;omega)
   have hk2:dS (L.take (k+1+0+1))=L.take (k+1):=hct
   rw [hk2] at hin
   have htd:L.take (k+1)++L.drop (L.take (k+1)).length=L:=by
    rw [List.length_take,Nat.min_eq_left (by omega)];exact List.take_append_drop _ _
   rw [htd,List.length_take,Nat.min_eq_left (by omega)] at hin
   have hcl:=WW L
   have hclt:(dS L).length<L.length:=by omega
   rw [if_neg hne]
   obtain ⟨m,hm⟩:∃m,L.length - (dS L).length=m+1:=⟨L.length - (dS L).length - 1,by omega⟩
   have hcells:yt L=(dS L).map AV.s++List.replicate (m+1) (AV.s []):=by rw [yt,hm]
   have hspl:splice ((dS L++L.drop (dS L).length).map AV.s) (dS L).length (List.replicate (m+1) (AV.s []))=yt L:=by
    rw [hcells]
    unfold splice
    rw [List.map_append,List.take_left' (by simp),List.drop_of_length_le (by simp;omega),List.append_nil]
   have hrep:(List.replicate (m+1) [AV.s []]).flatten=List.replicate (m+1) (AV.s []):=by
    generalize m+1=r
    induction r with
    | zero=>rfl
    | succ r ih=>simp [List.replicate_succ,ih]
   have hfit:(dS L).length+(m+1)≤L.length:=by omega
   have hcond:(dS L).length≤L.length:=hcl
   clear hct hcm hk2 htd hcells hne hclt hK
   generalize hX:List.replicate (m+1) (AV.s [])=X at hspl hrep
   simp [dK,h00,h2,h2j,hj,hl,hp1,hp2,hwi1,hc] at hin ⊢
   have hj1:k+1≤L.length:=by omega
   have hfit2:(dS L).length+(m+1)≤(dS L).length+(L.length - (dS L).length):=by omega
   simp [hj1,hin,hl,hcond,hm,hrep,hX,hfit,hfit2,hlim,hbase]
   simp [splice] at hspl
   rw [hspl]
  ·have hct':dS (L.take (k+2))=L.take (k+2):=by
    rw [hct,if_neg hc,hcm];exact (List.take_succ_eq_append_getElem hj).symm
   have ih:=MO d (k+1) (by omega) hct'
   rw [←hK] at ih
   clear hK hct hct' hcm
   simp [dK,h00,h2,h2j,hj,hl,hp1,hp2,hwi1,hwi2,hc] at ih ⊢
   exact ih
theorem Yv (m:Nat) (hm:m=L.length) (hs:s[l]?=some (.buf t 1 ver (L.map .s))):
  aj P0 (.fn (.func dI) [] []) [.sk l ver 1 0 m] s cx=.ret (.sk l ver 1 0 (dS L).length) (s.set l (.buf t 1 ver (yt L))):=by
 subst hm
 have hset:s.set l (.buf t 1 ver (L.map .s))=s:=by
  apply List.ext_getElem?
  intro i
  by_cases hi:l=i
  ·subst hi;rw [List.getElem?_set_self hl,hs]
  ·rw [List.getElem?_set_ne hi]
 refine oH (by simp) ?_
 match L,hL with
 | [],_=>
  have h1:yt []=([]:List (List UInt8)).map .s:=by simp [yt,dS]
  rw [h1,hset]
  simp [af,aY,dS]
 | [a],_=>
  have h1:yt [a]=[a].map .s:=by simp [yt,dS,lK]
  rw [h1,hset]
  simp [af,aY,dS,lK]
 | a::b::r,hL=>
  have h:=MO (a::b::r) hL s ⟨cx.lim,cx.base⟩ l t ver hl hlim hbase r.length.succ 0 (by simp;omega) (by simp [dS,lK])
  rw [hset] at h
  have h2:¬((a::b::r).length:Int)<2:=by simp;omega
  by_cases hc:(dS (a::b::r)).length=(a::b::r).length
  ·rw [if_pos hc] at h
   simp only [Nat.zero_add] at h
   generalize hX:a::b::r=X at *
   simp at h
   simp [af,aY,h2,h,hc]
  ·rw [if_neg hc] at h
   simp only [Nat.zero_add] at h
   generalize hX:a::b::r=X at *
   simp at h
   simp [af,aY,h2,h]
end
end Go.Ai.Z
namespace Go.Ai.Z
def wP (t:List UInt8):List (List UInt8):=if headB 63 t=true then [t] else []
def yx:List At→List (List UInt8)
 | []=>[]
 | a::r=>wP a.x++(wP a.y++yx r)
theorem J9:∀L:List At,(yx L).length≤2 * L.length
 | []=>by simp [yx]
 | a::r=>by
  have:=J9 r
  have h1:∀t,(wP t).length≤1:=fun t=>by unfold wP;split<;>simp
  have h2:=h1 a.x
  have h3:=h1 a.y
  simp only [yx,List.length_append,List.length_cons];omega
def LM (n:Nat):List (List UInt8)→AV
 | []=>.ns
 | _::r=>.sk n r.length 1 0 (r.length+1)
def J3:List (List UInt8)→St
 | []=>[]
 | a::r=>[.buf ak 1 r.length ((a::r).map .s)]
theorem aco (s:St) (x y:List UInt8) (V:List (List UInt8)) (hV:V.length≤1000000) (A:AV) (n i:Int) (j:Nat) (u:List UInt8) (hu:[x,y][j]?=some u):
  bg (au P0.glob (aj P0) ⟨s.length,s.length⟩ false bJ) [2,8,9,10,18,19]
   [(2,.v (LM s.length V)),(8,.v A),(9,.v (.i .i64 n)),(10,.v (.i .i64 i)),(18,.v (.ag [.s x,.s y])),(19,.v (.i .i64 (j:Int)))] (s++J3 V)=
  bg (au P0.glob (aj P0) ⟨s.length,s.length⟩ false bJ) [2,8,9,10,18,19]
   [(2,.v (LM s.length (V++wP u))),(8,.v A),(9,.v (.i .i64 n)),(10,.v (.i .i64 i)),(18,.v (.ag [.s x,.s y])),(19,.v (.i .i64 ((j+1:Nat):Int)))] (s++J3 (V++wP u)):=by
 refine ai fun K hK=>?_
 rw [←hK]
 clear hK
 have hj:j=0∨j=1:=by
  rcases j with _ | _|j
  ·exact .inl rfl
  ·exact .inr rfl
  ·simp at hu
 have hmx:V.length+1≤aU:=by unfold aU;omega
 have h1m:1≤aU:=by unfold aU;omega
 have hw0:IntKind.i64.wrap 1=1:=by rw [w64]<;>omega
 have hw1:IntKind.i64.wrap 2=2:=by rw [w64]<;>omega
 rcases hj with rfl|rfl
 ·simp at hu
  subst hu
  cases h:headB 63 x
  ·simp [bJ,h,wP,hw0]
  ·cases V with
   | nil=>simp [bJ,h,wP,hw0,LM,J3,h1m]
   | cons v r=>
    simp at hmx
    have htk:List.take r.length (r.map AV.s)=r.map AV.s:=List.take_of_length_le (by simp)
    simp [bJ,h,wP,hw0,LM,J3,hmx,htk]
 ·simp at hu
  subst hu
  cases h:headB 63 y
  ·simp [bJ,h,wP,hw1]
  ·cases V with
   | nil=>simp [bJ,h,wP,hw1,LM,J3,h1m]
   | cons v r=>
    simp at hmx
    have htk:List.take r.length (r.map AV.s)=r.map AV.s:=List.take_of_length_le (by simp)
    simp [bJ,h,wP,hw1,LM,J3,hmx,htk]
theorem afP (s:St) (x y:List UInt8) (V:List (List UInt8)) (hV:V.length≤999999) (A:AV) (n i:Int):
  bg (au P0.glob (aj P0) ⟨s.length,s.length⟩ false bJ) [2,8,9,10,18,19]
   [(2,.v (LM s.length V)),(8,.v A),(9,.v (.i .i64 n)),(10,.v (.i .i64 i)),(18,.v (.ag [.s x,.s y])),(19,.v (.i .i64 0))] (s++J3 V)=
  .exit 2 [(2,.v (LM s.length (V++(wP x++wP y)))),(8,.v A),(9,.v (.i .i64 n)),(10,.v (.i .i64 i)),(18,.v (.ag [.s x,.s y])),(19,.v (.i .i64 2)),(20,.v (.b false))] (s++J3 (V++(wP x++wP y))):=by
 have h1:∀t,(wP t).length≤1:=fun t=>by unfold wP;split<;>simp
 have e1:=aco s x y V (by omega) A n i 0 x rfl
 have e2:=aco s x y (V++wP x) (by have:=h1 x;simp;omega) A n i 1 y rfl
 rw [show (((0:Nat):Int))=0 from rfl] at e1
 rw [e1,show ((0+1:Nat):Int)=((1:Nat):Int) from rfl,e2,List.append_assoc]
 refine ai fun K hK=>?_
 simp [bJ]
theorem acp (s:St) (L:List At) (hL:L.length≤100000):∀(rest:List At) (k:Nat) (V:List (List UInt8)),L.drop k=rest→k≤L.length→V.length+2 * rest.length≤300000→
  bg (au P0.glob (aj P0) ⟨s.length,s.length⟩ false iK) [2,8,9,10]
   [(2,.v (LM s.length V)),(8,.v (.sl (L.map aX))),(9,.v (.i .i64 L.length)),(10,.v (.i .i64 k))] (s++J3 V)=
  .exit 0 [(2,.v (LM s.length (V++yx rest))),(8,.v (.sl (L.map aX))),(9,.v (.i .i64 L.length)),(10,.v (.i .i64 (L.length:Int))),(11,.v (.b false))] (s++J3 (V++yx rest))
 | [],k,V,h,hk,_=>by
  have h1:¬k<L.length:=Nat.not_lt.2 (drop_nil h)
  have h2:k=L.length:=by omega
  refine ai fun K hK=>?_
  simp [iK,h2,yx]
 | p::r,k,V,h,hk,hV=>by
  obtain ⟨h1,h2,h3,h4⟩:=drop_cons h
  have h5:=h4 h3
  have hw:=wI (i:=k) (by omega)
  have hone:∀t,(wP t).length≤1:=fun t=>by unfold wP;split<;>simp
  have ih:=acp s L hL r (k+1) (V++(wP p.x++wP p.y)) h2 (by omega) (by have:=hone p.x;have:=hone p.y;simp at hV ⊢;omega)
  have e2:=afP s p.x p.y V (by simp at hV;omega) (.sl (L.map aX)) L.length k
  refine ai fun K hK=>?_
  rw [←hK,show ((k+1:Nat):Int)=(k:Int)+1 from rfl] at ih
  clear hK
  have hva:yx (p::r)=wP p.x++(wP p.y++yx r):=rfl
  rw [hva]
  simp only [List.append_assoc] at ih e2 ⊢
  simp [iK,h3,h5,hw,aX,jS,splice,e2,ih]
theorem Yu (V:List (List UInt8)) (hV:V.length≤300000) (s:St) (cx:Ctx) (l t ver:Nat) (hs:s[l]?=some (.buf t 1 ver (V.map .s))) (hlim:cx.lim≤l) (hbase:cx.base≤l):
  aj P0 (.fn (.func jk) [] []) [.sk l ver 1 0 V.length] s cx=.ret (.tu []) (s.set l (.buf t 1 ver ((Go.Ai.sortStr V).map .s))):=by
 refine Bv (A:=P0) (k:=.sortS) rfl rfl (by simp) ?_
 cases V with
 | nil=>
  have hset:s.set l (.buf t 1 ver (([]:List (List UInt8)).map .s))=s:=by
   apply List.ext_getElem?
   intro i
   by_cases hi:l=i
   ·subst hi;rw [List.getElem?_set_self (List.getElem?_eq_some_iff.1 hs).1,hs]
   ·rw [List.getElem?_set_ne hi]
  simp only [Go.Ai.sortStr]
  rw [hset]
  simp [iY]
 | cons a r=>
  have hm:∀l:List (List UInt8),(l.map AV.s).mapM strOf=some l:=by
   intro l
   induction l with
   | nil=>rfl
   | cons x l ih=>simp only [List.map_cons,List.mapM_cons,ih,strOf];rfl
  have hlen:(Go.Ai.sortStr (a::r)).length=r.length+1:=(ng (a::r)).length_eq
  have hcond:ver=ver∧(1:Nat)=1∧(1:Nat)=1∧0+(r.length+1)≤((a::r).map AV.s).length∧r.length<aU∧cx.lim≤l∧cx.base≤l:=
   ⟨rfl,rfl,rfl,by simp,by unfold aU;simp at hV;omega,hlim,hbase⟩
  have htk:(((a::r).map AV.s).drop 0).take (r.length+1)=(a::r).map AV.s:=by rw [List.drop_zero,List.take_of_length_le (by simp)]
  have hsp:splice ((a::r).map AV.s) 0 ((Go.Ai.sortStr (a::r)).map AV.s)=(Go.Ai.sortStr (a::r)).map AV.s:=by
   unfold splice
   rw [List.take_zero,List.nil_append,List.drop_of_length_le (by simp [hlen]),List.append_nil]
  show iY (aj P0) (aj P0.quiet) .sortS [.sk l ver 1 0 (r.length+1)] s cx=_
  unfold iY
  dsimp only
  rw [hs]
  dsimp only
  rw [if_pos hcond,htk,hm]
  dsimp only
  rw [hsp]
theorem Zc {s:St} {t ver:Nat} (M:List (List UInt8)) (hM:M≠[]) (Z:List AV):frz (s++[.buf t 1 ver (M.map .s++Z)]) s.length (.sk s.length ver 1 0 M.length)=some (.sl (M.map .s)):=by
 have h1:(AV.sk s.length ver 1 0 M.length).under s.length=false:=by simp [AV.under]
 have ht:(M.map AV.s++Z).take (M.length * 1)=M.map AV.s:=by rw [Nat.mul_one,List.take_left' (by simp)]
 have hm:(M.map AV.s).mapM (tY (s++[.buf t 1 ver (M.map .s++Z)]) s.length 5)=some (M.map AV.s):=VW fun a ha=>ad9 (by
  obtain ⟨x,_,rfl⟩:=List.mem_map.1 ha;simp)
 have ho:(M.map AV.s).all AV.one=true:=List.all_eq_true.2 fun a ha=>by obtain ⟨x,_,rfl⟩:=List.mem_map.1 ha;rfl
 have hc:∀N:List (List UInt8),chunk 1 N.length (N.map AV.s)=N.map .s:=by
  intro N
  induction N with
  | nil=>rfl
  | cons x N ih=>simp only [List.length_cons,List.map_cons,chunk,if_true,List.drop_succ_cons,List.drop_zero,ih];rfl
 rw [frz,if_neg (by rw [h1];exact Bool.false_ne_true),tY,if_neg (by rw [h1];exact Bool.false_ne_true)]
 simp only [List.getElem?_append_right (Nat.le_refl _),Nat.sub_self,List.getElem?_cons_zero]
 rw [if_pos (by simp),List.drop_zero,ht,hm]
 show (if _ then _ else _)=_
 rw [if_pos ⟨by omega,ho⟩,hc]
def vrs (L:List At):List (List UInt8):=dS (Go.Ai.sortStr (yx L))
theorem GV (s:St) (cx:Ctx):aj P0 (.fn (.func dI) [] []) [.ns] s cx=.ret .ns s:=by
 refine oH (by simp) ?_
 simp [af,aY]
theorem GU (s:St) (cx:Ctx):aj P0 (.fn (.func jk) [] []) [.ns] s cx=.ret (.tu []) s:=
 Bv (A:=P0) (k:=.sortS) rfl rfl (by simp) (by simp [iY])
theorem Xe (z:Bool) (L:List At) (hL:L.length≤40000) (s:St) (cx:Ctx):aj P0 (.fn (.func iF) [] []) [aeg z L] s cx=.ret (slf true ((vrs L).map .s)) s:=by
 have key:∀V:List (List UInt8),V.length≤300000→V≠[]→∃Z,yt (Go.Ai.sortStr V)=(dS (Go.Ai.sortStr V)).map AV.s++Z∧dS (Go.Ai.sortStr V)≠[]:=by
  intro V _ h0
  refine ⟨_,rfl, ?_⟩
  cases hS:Go.Ai.sortStr V with
  | nil=>have:=(ng V).length_eq;rw [hS] at this;exact absurd (List.eq_nil_of_length_eq_zero this.symm) h0
  | cons a r=>simp [dS]
 match L,hL with
 | [],_=>
  have h0:slf true ((vrs []).map AV.s)=.ns:=rfl
  rw [h0]
  have hl:bg (au P0.glob (aj P0) ⟨s.length,s.length⟩ false iK) [2,8,9,10] [(2,.v .ns),(8,.v (rowA z [])),(9,.v (.i .i64 0)),(10,.v (.i .i64 0))] s=
    .exit 0 [(2,.v .ns),(8,.v (rowA z [])),(9,.v (.i .i64 0)),(10,.v (.i .i64 0)),(11,.v (.b false))] s:=by
   refine ai fun K hK=>?_
   simp [iK]
  refine uJ (by simp) ?_
  cases z<;>simp [rowA] at hl<;>simp [af,jX,aeg,rowA,hl,GU,GV,AV.one]
 | a::q,hL=>
  have hl:=acp s (a::q) (by omega) (a::q) 0 [] rfl (by simp) (by simp at hL ⊢;omega)
  rw [show (((0:Nat):Int))=0 from rfl,List.nil_append,show LM s.length []=.ns from rfl,show s++J3 []=s from by simp [J3]] at hl
  have hvl:=J9 (a::q)
  generalize hX:a::q=X at *
  have hX0:X≠[]:=by rw [←hX];simp
  have hrow:rowA z X=.sl (X.map aX):=by rw [←hX];rfl
  cases hV:yx X with
  | nil=>
   rw [hV] at hl
   have h0:slf true ((vrs X).map AV.s)=.ns:=by unfold vrs;rw [hV];rfl
   rw [h0]
   simp [LM,J3] at hl
   refine uJ (by simp) ?_
   simp [af,jX,aeg,hrow,hl,GU,GV]
  | cons v r=>
   rw [hV] at hl hvl
   simp only [LM,J3] at hl
   have hvl':(v::r).length≤300000:=by omega
   have hSl:(Go.Ai.sortStr (v::r)).length=(v::r).length:=(ng (v::r)).length_eq
   obtain ⟨Z,hZ,hne⟩:=key (v::r) hvl' (by simp)
   have e2:=Yu (v::r) hvl' (s++[.buf ak 1 r.length ((v::r).map .s)]) ⟨s.length,s.length⟩ s.length ak r.length (by simp) (Nat.le_refl _) (Nat.le_refl _)
   have e3:=Yv (Go.Ai.sortStr (v::r)) (by omega) (s++[.buf ak 1 r.length ((Go.Ai.sortStr (v::r)).map .s)]) ⟨s.length,s.length⟩ s.length ak r.length (by simp) (Nat.le_refl _) (Nat.le_refl _) (v::r).length hSl.symm (by simp)
   rw [hZ] at e3
   have hset:∀x y:dA,(s++[x]).set s.length y=s++[y]:=fun x y=>by simp
   rw [hset] at e2 e3
   have hfz:=Zc (s:=s) (t:=ak) (ver:=r.length) (dS (Go.Ai.sortStr (v::r))) hne Z
   have h0:slf true ((vrs X).map AV.s)=.sl ((dS (Go.Ai.sortStr (v::r))).map AV.s):=by
    unfold vrs
    rw [hV]
    cases hc:dS (Go.Ai.sortStr (v::r)) with
    | nil=>exact absurd hc hne
    | cons x y=>simp
   rw [h0]
   generalize dS (Go.Ai.sortStr (v::r))=C at *
   generalize Go.Ai.sortStr (v::r)=S1 at *
   simp only [List.length_cons] at e2 e3
   simp only [List.map_cons] at hl e2
   refine uJ (by simp) ?_
   simp [af,jX,aeg,hrow,hl,e2,e3,hfz]
end Go.Ai.Z
namespace Go.Ai.Z
@[simp] theorem afC (z:Bool) (L:List At):(rowA z L).plain=rowA z L:=by cases L<;>cases z<;>rfl
@[simp] theorem aeR (z:Bool) (L:List At):(rowA z L).plain1=rowA z L:=by cases L<;>cases z<;>rfl
@[simp] theorem aia (z:Bool) (L:List At):(rowA z L).one=true:=by cases L<;>cases z<;>rfl
@[simp] theorem af0 (z:Bool) (L:List At):(rowA z L).cells=[rowA z L]:=by cases L<;>cases z<;>rfl
@[simp] theorem ae1 (z:Bool) (L:List At) (env:Env):tH env (some (.v (rowA z L)))=some (L.map aX):=by cases L<;>cases z<;>rfl
theorem yR {z:Bool} {L:List At} (h:L≠[]):rowA z L=.sl (L.map aX):=by
 cases L with
 | nil=>exact absurd rfl h
 | cons a r=>rfl
def encPt (p:Bool×List At):AV:=.ag [rowA p.1 p.2]
@[simp] theorem ae3 (p:Bool×List At):(encPt p).cells=[rowA p.1 p.2]:=rfl
@[simp] theorem aeQ (p:Bool×List At):(encPt p).plain=encPt p:=by
 obtain ⟨z,L⟩:=p
 cases L<;>cases z<;>rfl
theorem JU (p:Bool×List At) (hL:p.2.length≤40000) (s:St) (cx:Ctx):aj P0 (.fn (.func iF) [] []) [.ag [rowA p.1 p.2]] s cx=.ret (slf true ((vrs p.2).map .s)) s:=Xe p.1 p.2 hL s cx
theorem V7 (l:List (List UInt8)) (x:List UInt8) (hl:l.length≤1000000) (v:AV) (hv:v=.sl (l.map .s)∨(v=.ns∧l=[])) (s:St) (cx:Ctx):
  ∀(rest:List (List UInt8)) (i:Nat),l.drop i=rest→
  ∃j:Nat,bg (au P0.glob (aj P0) cx false dU) [0,1,7,8] [(0,.v v),(1,.v (.s x)),(7,.v (.i .i64 l.length)),(8,.v (.i .i64 i))] s=
   if x∈rest then .ret [(4,.v (.i .i64 (j:Int)))] s else .exit 0 [(0,.v v),(1,.v (.s x)),(7,.v (.i .i64 l.length)),(8,.v (.i .i64 (j:Int))),(9,.v (.b false))] s
 | [],i,h=>by
  have h1:¬i<l.length:=Nat.not_lt.2 (drop_nil h)
  refine ⟨i,ai fun K hK=>?_⟩
  simp [dU,h1]
 | p::r,i,h=>by
  obtain ⟨h1,h2,h3,h4⟩:=drop_cons h
  have h5:=h4 h3
  have hw:=wI (i:=i) (by omega)
  have hv':v=.sl (l.map .s):=by
   rcases hv with h|⟨_,h⟩
   ·exact h
   ·subst h;simp at h3
  subst hv'
  by_cases hp:p=x
  ·refine ⟨i,ai fun K hK=>?_⟩
   clear h4
   simp [dU,h3,h5,hw,hp]
  ·obtain ⟨j,ih⟩:=V7 l x hl _ (.inl rfl) s cx r (i+1) h2
   have hp':¬x=p:=fun h=>hp h.symm
   refine ⟨j,ai fun K hK=>?_⟩
   rw [←hK,show ((i+1:Nat):Int)=(i:Int)+1 from rfl] at ih
   clear hK h4
   try simp at ih
   simp [dU,h3,h5,hw,hp,hp',ih]
theorem ET (l:List (List UInt8)) (x:List UInt8) (hl:l.length≤1000000) (v:AV) (hv:v=.sl (l.map .s)∨(v=.ns∧l=[])) (s:St) (cx:Ctx):
  aj P0 (.fn (.func bH) [] []) [v,.s x] s cx=.ret (.b (decide (x∈l))) s:=by
 have key:∃n:Int,(0≤n ↔ x∈l)∧∀cx,aj P0 (.fn (.func fP) [] []) [v,.s x] s cx=.ret (.i .i64 n) s:=by
  obtain ⟨j,h⟩:=V7 l x hl v hv s ⟨s.length,s.length⟩ l 0 rfl
  have hlen:tH [(6,.v v),(0,.v v),(1,.v (.s x))] (some (.v v))=some (l.map .s):=by
   rcases hv with h|⟨h,h'⟩
   ·subst h;rfl
   ·subst h h';rfl
  rw [show ((0:Nat):Int)=0 from rfl] at h
  by_cases hx:x∈l
  ·rw [if_pos hx] at h
   refine ⟨j,by simp [hx],fun cx=>pR (by simp) ?_⟩
   rcases hv with h' | ⟨h',h''⟩
   ·subst h'
    try simp at h
    simp [af,dM,h]
   ·subst h'';cases hx
  ·rw [if_neg hx] at h
   refine ⟨-1,by simp [hx],fun cx=>pR (by simp) ?_⟩
   rcases hv with h' | ⟨h',h''⟩
   ·subst h'
    try simp at h
    simp [af,dM,h]
   ·subst h' h''
    try simp at h
    simp [af,dM,h]
 obtain ⟨n,hn,h⟩:=key
 refine vK (by simp) ?_
 have hd:decide (x∈l)=decide (0≤n):=by by_cases hx:x∈l<;>simp [hx,hn]
 rw [hd]
 rcases hv with h' | ⟨h',h''⟩
 ·subst h'
  simp [af,dV,h]
 ·subst h'
  simp [af,dV,h]
theorem BH (z:Bool) (l:List (List UInt8)):slf z (l.map AV.s)=.sl (l.map .s)∨(slf z (l.map AV.s)=.ns∧l=[]):=by
 cases z with
 | false=>exact .inl (by simp)
 | true=>cases l with
  | nil=>exact .inr ⟨rfl,rfl⟩
  | cons a r=>exact .inl (by simp)
def pK (zt:Bool) (T:List (List UInt8)) (zp:Bool) (ps:List (Bool×List At)):AV:=.ag [slf zt (T.map .s),slf zp (ps.map encPt)]
def shE (T:List (List UInt8)) (ps:List (Bool×List At)):Int:=
 if ps.length<1∨4<ps.length∨3<T.length then 210 else if ps.all (fun p=>decide (1≤p.2.length) && decide (p.2.length≤12))=true then 0 else 210
theorem Ji (zp:Bool) (ps:List (Bool×List At)) (hl:ps.length≤1000000) (hb:∀p∈ps,p.2.length≤1125899906842624) (s:St) (cx:Ctx):
  ∀(rest:List (Bool×List At)) (i:Nat),ps.drop i=rest→
  ∃j:Int,bg (au P0.glob (aj P0) cx false ig) [22,23,24] [(22,.v (slf zp (ps.map encPt))),(23,.v (.i .i64 ps.length)),(24,.v (.i .i64 i))] s=
   if rest.all (fun p=>decide (1≤p.2.length) && decide (p.2.length≤12))=true then .exit 0 [(22,.v (slf zp (ps.map encPt))),(23,.v (.i .i64 ps.length)),(24,.v (.i .i64 j)),(25,.v (.b false))] s else .ret [(2,.v (.i .i64 210))] s
 | [],i,h=>by
  have h1:¬i<ps.length:=Nat.not_lt.2 (drop_nil h)
  refine ⟨i,ai fun K hK=>?_⟩
  simp [ig,h1]
 | p::r,i,h=>by
  obtain ⟨h1,h2,h3,h4⟩:=drop_cons h
  have h5:=h4 h3
  have hp:=hb p (by rw [←h5];exact List.getElem_mem h3)
  have hw:=wI (i:=i) (by omega)
  obtain ⟨j,ih⟩:=Ji zp ps hl hb s cx r (i+1) h2
  refine ⟨j,ai fun K hK=>?_⟩
  rw [←hK,show ((i+1:Nat):Int)=(i:Int)+1 from rfl] at ih
  clear hK h4
  have b1:(1:Nat)≤p.2.length ↔ ¬((p.2.length:Nat):Int)<1:=by omega
  have b2:p.2.length≤12 ↔ ¬(12:Int)<((p.2.length:Nat):Int):=by omega
  by_cases c1:((p.2.length:Nat):Int)<1
  ·have hz:(decide (1≤p.2.length) && decide (p.2.length≤12))=false:=by simp [b1,c1]
   simp only [List.all_cons,hz,Bool.false_and]
   simp [ig,h3,h5,hw,c1,splice]
  ·by_cases c2:(12:Int)<((p.2.length:Nat):Int)
   ·have hz:(decide (1≤p.2.length) && decide (p.2.length≤12))=false:=by simp [b2,c2]
    simp only [List.all_cons,hz,Bool.false_and]
    simp [ig,h3,h5,hw,c1,c2,splice]
   ·have hz:(decide (1≤p.2.length) && decide (p.2.length≤12))=true:=by simp only [b1,b2,c1,c2];rfl
    simp only [List.all_cons,hz,Bool.true_and]
    rw [←ih]
    simp [ig,h3,h5,hw,c1,c2,splice]
theorem U4 (zt:Bool) (T:List (List UInt8)) (zp:Bool) (ps:List (Bool×List At)) (hT:T.length≤1125899906842624) (hl:ps.length≤1125899906842624) (hb:∀p∈ps,p.2.length≤1125899906842624) (s:St) (cx:Ctx):
  aj P0 (.fn (.func mJ) [] []) [pK zt T zp ps] s cx=.ret (.i .i64 (shE T ps)) s:=by
 refine Gj (by simp) ?_
 unfold shE pK
 by_cases c1:ps.length<1
 ·have c1':(ps.length:Int)<1:=by omega
  simp [af,fU,c1,c1']
 by_cases c2:4<ps.length
 ·have c1':¬(ps.length:Int)<1:=by omega
  have c2':(4:Int)<ps.length:=by omega
  simp [af,fU,c1,c1',c2,c2']
 by_cases c3:3<T.length
 ·have c1':¬(ps.length:Int)<1:=by omega
  have c2':¬(4:Int)<ps.length:=by omega
  have c3':(3:Int)<T.length:=by omega
  simp [af,fU,c1,c1',c2,c2',c3,c3']
 have c1':¬(ps.length:Int)<1:=by omega
 have c2':¬(4:Int)<ps.length:=by omega
 have c3':¬(3:Int)<T.length:=by omega
 obtain ⟨j,h⟩:=Ji zp ps (by omega) hb s ⟨s.length,s.length⟩ ps 0 rfl
 rw [show ((0:Nat):Int)=0 from rfl] at h
 by_cases c4:ps.all (fun p=>decide (1≤p.2.length) && decide (p.2.length≤12))=true
 ·rw [if_pos c4] at h
  rw [if_neg (by omega),if_pos c4]
  simp [af,fU,c1',c2',c3',h]
 ·rw [if_neg c4] at h
  rw [if_neg (by omega),if_neg c4]
  simp [af,fU,c1',c2',c3',h]
end Go.Ai.Z
namespace Go.Ai.Z
theorem adv (L:List At):(vrs L).length≤2 * L.length:=by
 have h1:=WW (Go.Ai.sortStr (yx L))
 have h2:=(ng (yx L)).length_eq
 have h3:=J9 L
 unfold vrs;omega
section
variable (zt:Bool) (T:List (List UInt8)) (hT:T.length≤1000) (zp:Bool) (ps:List (Bool×List At)) (hl:ps.length≤1000) (hb:∀p∈ps,p.2.length≤1000) (s:St) (cx:Ctx)
include hT
theorem Y3:∀(rest:List (List UInt8)) (i:Nat),T.drop i=rest→
  ∃j:Int,bg (au P0.glob (aj P0) cx false jP) [1,10,11,12]
   [(1,.bx [slf zt (T.map .s),slf zp (ps.map encPt)]),(10,.v (slf zt (T.map .s))),(11,.v (.i .i64 T.length)),(12,.v (.i .i64 i))] s=
   if rest.all wE=true then .exit 0 [(1,.bx [slf zt (T.map .s),slf zp (ps.map encPt)]),(10,.v (slf zt (T.map .s))),(11,.v (.i .i64 T.length)),(12,.v (.i .i64 j)),(13,.v (.b false))] s else .ret [(2,.v (.i .i64 20))] s
 | [],i,h=>by
  have h1:¬i<T.length:=Nat.not_lt.2 (drop_nil h)
  refine ⟨i,ai fun K hK=>?_⟩
  simp [jP,h1]
 | p::r,i,h=>by
  obtain ⟨h1,h2,h3,h4⟩:=drop_cons h
  have h5:=h4 h3
  have hw:=wI (i:=i) (by omega)
  have e1:=zL p
  obtain ⟨j,ih⟩:=Y3 r (i+1) h2
  refine ⟨j,ai fun K hK=>?_⟩
  rw [←hK,show ((i+1:Nat):Int)=(i:Int)+1 from rfl] at ih
  clear hK h4
  cases hv:wE p
  ·rw [hv] at e1
   simp only [List.all_cons,hv,Bool.false_and]
   simp [jP,h3,h5,hw,e1]
  ·rw [hv] at e1
   simp only [List.all_cons,hv,Bool.true_and]
   rw [←ih]
   simp [jP,h3,h5,hw,e1]
omit hT
include hl hb
theorem Y1 (t:List UInt8) (rs:AV) (n i0:Int):∀(rest:List (Bool×List At)) (i:Nat),ps.drop i=rest→
  ∃j:Int,bg (au P0.glob (aj P0) cx false jO) [1,6,21,22,23,35,36,37]
   [(1,.bx [slf zt (T.map .s),slf zp (ps.map encPt)]),(6,.v (.s t)),(21,.v rs),(22,.v (.i .i64 n)),(23,.v (.i .i64 i0)),(35,.v (slf zp (ps.map encPt))),(36,.v (.i .i64 ps.length)),(37,.v (.i .i64 i))] s=
   if rest.all (fun p=>decide (t∈vrs p.2))=true then .exit 4 [(1,.bx [slf zt (T.map .s),slf zp (ps.map encPt)]),(6,.v (.s t)),(21,.v rs),(22,.v (.i .i64 n)),(23,.v (.i .i64 i0)),(35,.v (slf zp (ps.map encPt))),(36,.v (.i .i64 ps.length)),(37,.v (.i .i64 j)),(38,.v (.b false))] s
   else .ret [(2,.v (.i .i64 210))] s
 | [],i,h=>by
  have h1:¬i<ps.length:=Nat.not_lt.2 (drop_nil h)
  refine ⟨i,ai fun K hK=>?_⟩
  simp [jO,h1]
 | p::r,i,h=>by
  obtain ⟨h1,h2,h3,h4⟩:=drop_cons h
  have h5:=h4 h3
  have hp:=hb p (by rw [←h5];exact List.getElem_mem h3)
  have hw:=wI (i:=i) (by omega)
  have e1:=JU p (by omega)
  have hlen:=adv p.2
  have e2:=ET (vrs p.2) t (by omega) _ (BH true (vrs p.2))
  obtain ⟨j,ih⟩:=Y1 t rs n i0 r (i+1) h2
  refine ⟨j,ai fun K hK=>?_⟩
  rw [←hK,show ((i+1:Nat):Int)=(i:Int)+1 from rfl] at ih
  clear hK h4
  by_cases hv:t∈vrs p.2
  ·rw [decide_eq_true hv] at e2
   simp only [List.all_cons,decide_eq_true hv,Bool.true_and]
   rw [←ih]
   simp [jO,h3,h5,hw,e1,e2,splice]
  ·rw [decide_eq_false hv] at e2
   simp only [List.all_cons,decide_eq_false hv,Bool.false_and]
   simp [jO,h3,h5,hw,e1,e2,splice]
omit hl hb
def tdB (ps:List (Bool×List At)):List (List UInt8)→List (List UInt8)→Bool
 | _,[]=>true
 | seen,t::r=>(!decide (t∈seen) && ps.all (fun p=>decide (t∈vrs p.2))) && tdB ps (seen++[t]) r
include hT hl hb
theorem Y2:∀(rest:List (List UInt8)) (i:Nat),T.drop i=rest→
  ∃j:Int,bg (au P0.glob (aj P0) cx false iI) [1,21,22,23]
   [(1,.bx [slf zt (T.map .s),slf zp (ps.map encPt)]),(21,.v (slf zt (T.map .s))),(22,.v (.i .i64 T.length)),(23,.v (.i .i64 i))] s=
   if tdB ps (T.take i) rest=true then .exit 2 [(1,.bx [slf zt (T.map .s),slf zp (ps.map encPt)]),(21,.v (slf zt (T.map .s))),(22,.v (.i .i64 T.length)),(23,.v (.i .i64 j)),(24,.v (.b false))] s else .ret [(2,.v (.i .i64 210))] s
 | [],i,h=>by
  have h1:¬i<T.length:=Nat.not_lt.2 (drop_nil h)
  refine ⟨i,ai fun K hK=>?_⟩
  simp [iI,h1,tdB]
 | p::r,i,h=>by
  obtain ⟨h1,h2,h3,h4⟩:=drop_cons h
  have h5:=h4 h3
  have hw:=wI (i:=i) (by omega)
  have hrow:slf zt (T.map AV.s)=.sl (T.map .s):=by
   rcases BH zt T with h|⟨_,h⟩
   ·exact h
   ·subst h;simp at h3
  have e2:=ET (T.take i) p (by simp;omega) _ (.inl rfl)
  have ht:T.take (i+1)=T.take i++[p]:=by rw [List.take_succ_eq_append_getElem h3,h5]
  obtain ⟨j,ih⟩:=Y2 r (i+1) h2
  obtain ⟨j2,h6⟩:=Y1 zt T zp ps hl hb s cx p (.sl (T.map .s)) T.length i ps 0 rfl
  rw [ht] at ih
  rw [hrow] at ih h6 ⊢
  refine ⟨j,ai fun K hK=>?_⟩
  rw [←hK,show ((i+1:Nat):Int)=(i:Int)+1 from rfl] at ih
  rw [show ((0:Nat):Int)=0 from rfl] at h6
  clear hK h4
  have hile:i≤T.length:=by omega
  unfold tdB
  by_cases hm:p∈T.take i
  ·rw [decide_eq_true hm] at e2 ⊢
   simp only [Bool.not_true,Bool.false_and]
   rw [List.map_take] at e2
   simp [iI,h3,h5,hw,e2,hile]
  ·rw [decide_eq_false hm] at e2 ⊢
   simp only [Bool.not_false,Bool.true_and]
   rw [List.map_take] at e2
   by_cases hv:(ps.all fun q=>decide (p∈vrs q.2))=true
   ·rw [if_pos hv] at h6
    rw [hv,Bool.true_and,←ih]
    simp [iI,h3,h5,hw,e2,hile,h6]
   ·rw [if_neg hv] at h6
    rw [Bool.not_eq_true] at hv
    rw [hv,Bool.false_and]
    simp [iI,h3,h5,hw,e2,hile,h6]
def tdE (T:List (List UInt8)) (ps:List (Bool×List At)):Int:=if T.all wE=true then (if tdB ps [] T=true then 0 else 210) else 20
theorem Xd:aj P0 (.fn (.func nX) [] []) [pK zt T zp ps] s cx=.ret (.i .i64 (tdE T ps)) s:=by
 obtain ⟨j,h1⟩:=Y3 zt T hT zp ps s ⟨s.length,s.length⟩ T 0 rfl
 obtain ⟨j2,h2⟩:=Y2 zt T hT zp ps hl hb s ⟨s.length,s.length⟩ T 0 rfl
 rw [show ((0:Nat):Int)=0 from rfl] at h1 h2
 rw [List.take_zero] at h2
 refine Ip (by simp) ?_
 unfold tdE pK
 by_cases c1:T.all wE=true
 ·rw [if_pos c1] at h1 ⊢
  by_cases c2:tdB ps [] T=true
  ·rw [if_pos c2] at h2 ⊢
   simp [af,jW,h1,h2]
  ·rw [if_neg c2] at h2 ⊢
   simp [af,jW,h1,h2]
 ·rw [if_neg c1] at h1 ⊢
  simp [af,jW,h1]
end
end Go.Ai.Z
