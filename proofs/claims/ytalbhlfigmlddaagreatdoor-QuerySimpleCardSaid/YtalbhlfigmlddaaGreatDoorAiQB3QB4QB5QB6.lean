/-
 slices.Compact of strings.
-/
import Derived.Test.YtalbhlfigmlddaaGreatDoorAiQB2
import Derived.Test.YtalbhlfigmlddaaGreatDoorAiPSortS
set_option maxRecDepth 100000
set_option linter.unusedSimpArgs false
set_option linter.unusedVariables false
set_option linter.unusedSectionVars false
namespace Go.Ai.Z
def qi (a:List UInt8):List (List UInt8)→List (List UInt8)
 | []=>[]
 | b::r=>if b=a then qi b r else b::qi b r
def dN:List (List UInt8)→List (List UInt8)
 | []=>[]
 | a::r=>a::qi a r
theorem zu:∀(a:List UInt8) (l:List (List UInt8)),(qi a l).Sublist l
 | a,[]=>.slnil
 | a,b::r=>by
  unfold qi
  split
  ·exact (zu b r).cons _
  ·exact (zu b r).cons_cons _
theorem OI:∀l:List (List UInt8),(dN l).Sublist l
 | []=>.slnil
 | a::r=>(zu a r).cons_cons _
theorem MK (a:List UInt8):∀(l:List (List UInt8)) (b:List UInt8),qi a (l++[b])=if b=l.getLastD a then qi a l else qi a l++[b]
 | [],b=>by simp [qi]
 | x::l,b=>by
  simp only [List.cons_append,qi]
  have h:=MK x l b
  have hl:(x::l).getLastD a=l.getLastD x:=List.getLastD_cons
  rw [h,hl]
  split<;>split<;>rfl
theorem MJ (L:List (List UInt8)) (j:Nat) (h:j+1<L.length):dN (L.take (j+2))=if L[j+1]=L[j] then dN (L.take (j+1)) else dN (L.take (j+1))++[L[j+1]]:=by
 have h1:L.take (j+2)=L.take (j+1)++[L[j+1]]:=List.take_succ_eq_append_getElem h
 rw [h1]
 have h2:∃a r,L.take (j+1)=a::r∧r.getLastD a=L[j]:=by
  have h3:L.take (j+1)=L.take j++[L[j]]:=List.take_succ_eq_append_getElem (by omega)
  rw [h3]
  cases hL:L.take j with
  | nil=>exact ⟨_,_,rfl,rfl⟩
  | cons a r=>exact ⟨a,r++[L[j]],rfl,by simp⟩
 obtain ⟨a,r,e1,e2⟩:=h2
 rw [e1]
 simp only [List.cons_append,dN,MK,e2]
 split<;>rfl
theorem Q9 (l:List (List UInt8)):(dN l).length≤l.length:=(OI l).length_le
@[simp] theorem aar {env:Env} {l ver sz o n:Nat}:qg env (some (.v (.sk l ver sz o n)))=none:=rfl
section
variable (L:List (List UInt8)) (hL:L.length≤100000) (s:St) (cx:Ctx) (l t ver:Nat) (hl:l<s.length) (hlim:cx.lim≤l) (hbase:cx.base≤l)
include hL hl hlim hbase
theorem IZ (k0:Nat) (hk0:1≤k0):∀(d q:Nat),k0+q+1+d=L.length→(dN (L.take (k0+q+1))).length≤k0+q→
  ∃k2:Int,dZ (ak P0.glob (aj P0) cx true bP) [0,3,4,5]
   [(0,.v (.sk l ver 1 0 L.length)),(3,.v (.i .i64 (dN (L.take (k0+q+1))).length)),(4,.v (.sk l ver 1 k0 (L.length - k0))),(5,.v (.i .i64 ((q+1:Nat):Int)))]
   (s.set l (.buf t 1 ver ((dN (L.take (k0+q+1))++L.drop (dN (L.take (k0+q+1))).length).map .s)))=
   .exit 2 [(0,.v (.sk l ver 1 0 L.length)),(3,.v (.i .i64 (dN L).length)),(4,.v (.sk l ver 1 k0 (L.length - k0))),(5,.v (.i .i64 k2)),(32,.v (.b false))]
   (s.set l (.buf t 1 ver ((dN L++L.drop (dN L).length).map .s)))
 | 0,q,hd,hq=>by
  have h1:L.take (k0+q+1)=L:=List.take_of_length_le (by omega)
  have h2:¬(q+1<L.length - k0):=by omega
  refine ⟨((q+1:Nat):Int),ai fun K hK=>?_⟩
  rw [h1]
  simp [bP,h2]
  repeat' (first | (split<;>(try simp only [dQ,dR,dS,iO,iP])<;>(try simp [*])) | (simp only [dQ,dR,dS,iO,iP]<;>(try simp [*]))|omega)
 | d+1,q,hd,hq=>by
  have hj:k0+q+1<L.length:=by omega
  have hct:=MJ L (k0+q) hj
  obtain ⟨k2,ih⟩:=IZ k0 hk0 d (q+1) (by omega) (by
   rw [show k0+(q+1)+1=k0+q+2 by omega,hct]
   split
   ·omega
   ·simp;omega)
  refine ⟨k2,ai fun K hK=>?_⟩
  rw [←hK] at ih
  clear hK
  have hwl:=hq
  rw [show k0+(q+1)+1=k0+q+2 by omega,hct] at ih
  generalize hW:dN (L.take (k0+q+1))=W at ih hwl
  have h2:q+1<L.length - k0:=by omega
  generalize hM:W++L.drop W.length=M
  have hMl:M.length=L.length:=by rw [←hM];simp;omega
  have hg:∀i,W.length≤i→i<L.length→M[i]?=L[i]?:=by
   intro i h3 h4
   rw [←hM,List.getElem?_append_right h3,List.getElem?_drop];congr 1;omega
  have hp1:M[k0+(q+1)]?=some L[k0+q+1]:=by
   rw [hg _ (by omega) (by omega),List.getElem?_eq_getElem (by omega:k0+(q+1)<L.length)];rfl
  have hp2:M[k0+q]?=some L[k0+q]:=by
   rw [hg _ (by omega) (by omega),List.getElem?_eq_getElem (by omega:k0+q<L.length)]
  have hs:splice (M.map AV.s) W.length [.s L[k0+q+1]]=(M.set W.length L[k0+q+1]).map .s:=by
   simp only [splice,List.length_cons,List.length_nil,←List.map_take,←List.map_drop]
   rw [List.set_eq_take_append_cons_drop,if_pos (by omega)]
   simp
  have hset:M.set W.length L[k0+q+1]=(W++[L[k0+q+1]])++L.drop (W++[L[k0+q+1]]).length:=by
   rw [←hM]
   have h3:L.drop W.length=L[W.length]'(by omega)::L.drop (W.length+1):=List.drop_eq_getElem_cons (by omega)
   rw [h3,List.set_append_right _ _ (Nat.le_refl _),Nat.sub_self,List.set_cons_zero]
   simp
  rw [hset] at hs
  have hwi1:IntKind.i64.wrap (q:Int)=(q:Int):=by rw [w64]<;>omega
  have hwi2:IntKind.i64.wrap ((q:Int)+1+1)=(q:Int)+1+1:=by rw [w64]<;>omega
  have h2i:(q:Int)+1<((L.length - k0:Nat):Int):=by omega
  have h2j:q<L.length - k0:=by omega
  have h00:(0:Int)≤(q:Int)+1:=by omega
  have hWL:W.length<L.length:=by omega
  have hwi3:=wI (i:=W.length) (by omega)
  have hfit:W.length+1≤M.length:=by omega
  clear hct hq hW hg hset
  by_cases hc:L[k0+q+1]=L[k0+q]
  ·rw [if_pos hc,hM] at ih
   simp [bP,h00,hWL,h2,h2i,h2j,hl,hp1,hp2,hwi1,hwi2,hc] at ih ⊢
   exact ih
  ·rw [if_neg hc] at ih
   simp [bP,h00,hWL,h2,h2i,h2j,hl,hp1,hp2,hwi1,hwi2,hwi3,hc,hfit,hlim,hbase] at ih ⊢
   simp [splice] at hs
   rw [hs]
   exact ih
def vk (L:List (List UInt8)):List AV:=(dN L).map AV.s++List.replicate (L.length - (dN L).length) (AV.s [])
theorem I4:∀(d k:Nat),k+1+d=L.length→dN (L.take (k+1))=L.take (k+1)→
  dZ (ak P0.glob (aj P0) cx true bU) [0,3]
   [(0,.v (.sk l ver 1 0 L.length)),(3,.v (.i .i64 ((k+1:Nat):Int)))] (s.set l (.buf t 1 ver (L.map .s)))=
   if (dN L).length=L.length then .exit 0 [(0,.v (.sk l ver 1 0 L.length)),(3,.v (.i .i64 L.length)),(13,.v (.b false))] (s.set l (.buf t 1 ver (vk L)))
   else .ret [(2,.v (.sk l ver 1 0 (dN L).length))] (s.set l (.buf t 1 ver (vk L)))
 | 0,k,hd,hc=>by
  have h1:L.take (k+1)=L:=List.take_of_length_le (by omega)
  rw [h1] at hc
  have h2:¬((k:Int)+1<(L.length:Int)):=by omega
  have h3:(k:Int)+1=(L.length:Int):=by omega
  refine ai fun K hK=>?_
  simp [bU,h2,hc,vk]
  exact h3
 | d+1,k,hd,hcm=>by
  have hj:k+1<L.length:=by omega
  have hct:=MJ L k hj
  refine ai fun K hK=>?_
  have h2:(k:Int)+1<(L.length:Int):=by omega
  have hp1:L[k+1]?=some L[k+1]:=List.getElem?_eq_getElem hj
  have hp2:L[k]?=some L[k]:=List.getElem?_eq_getElem (by omega)
  have hwi1:IntKind.i64.wrap (k:Int)=(k:Int):=by rw [w64]<;>omega
  have hwi2:IntKind.i64.wrap ((k:Int)+1+1)=(k:Int)+1+1:=by rw [w64]<;>omega
  have h2j:k<L.length:=by omega
  have h00:(0:Int)≤(k:Int)+1:=by omega
  by_cases hc:L[k+1]=L[k]
  ·-- the first repetition: the inner loop
   rw [if_pos hc,hcm] at hct
   have hne:¬(dN L).length=L.length:=by
    intro hel
    have he:dN L=L:=(OI L).eq_of_length hel
    have h3:(dN (L.take (k+2))).length=k+2:=by
     have h4:∀(a:List UInt8) (x y:List (List UInt8)),qi a (x++y)=x++y→qi a x=x:=by
      intro a x
      induction x generalizing a with
      | nil=>intro y _;rfl
      | cons b x ih=>
       intro y h5
       simp only [List.cons_append,qi] at h5 ⊢
       split at h5
       ·have:=(zu b (x++y)).length_le
        rw [h5] at this;simp at this;omega
       ·rename_i h6
        rw [if_neg h6]
        injection h5 with _ h7
        rw [ih b y h7]
     have h5:dN (L.take (k+2)++L.drop (k+2))=L.take (k+2)++L.drop (k+2):=by rw [List.take_append_drop];exact he
     have h6:dN (L.take (k+2))=L.take (k+2):=by
      cases hx:L.take (k+2) with
      | nil=>rfl
      | cons a x=>
       rw [hx] at h5
       simp only [List.cons_append,dN] at h5 ⊢
       injection h5 with _ h7
       rw [h4 a x _ h7]
     rw [h6];simp;omega
    rw [hct] at h3;simp at h3;omega
   obtain ⟨k2,hin⟩:=IZ L hL s cx l t ver hl hlim hbase (k+1) (by omega) (L.length - (k+2)) 0 (by omega) (by
    show (dN (L.take (k+2))).length≤_
    rw [hct];simp;omega)
   have hk2:dN (L.take (k+1+0+1))=L.take (k+1):=hct
   rw [hk2] at hin
   have htd:L.take (k+1)++L.drop (L.take (k+1)).length=L:=by
    rw [List.length_take,Nat.min_eq_left (by omega)];exact List.take_append_drop _ _
   rw [htd,List.length_take,Nat.min_eq_left (by omega)] at hin
   have hcl:=Q9 L
   have hclt:(dN L).length<L.length:=by omega
   rw [if_neg hne]
   obtain ⟨m,hm⟩:∃m,L.length - (dN L).length=m+1:=⟨L.length - (dN L).length - 1,by omega⟩
   have hcells:vk L=(dN L).map AV.s++List.replicate (m+1) (AV.s []):=by rw [vk,hm]
   have hspl:splice ((dN L++L.drop (dN L).length).map AV.s) (dN L).length (List.replicate (m+1) (AV.s []))=vk L:=by
    rw [hcells]
    unfold splice
    rw [List.map_append,List.take_left' (by simp),List.drop_of_length_le (by simp;omega),List.append_nil]
   have hrep:(List.replicate (m+1) [AV.s []]).flatten=List.replicate (m+1) (AV.s []):=by
    generalize m+1=r
    induction r with
    | zero=>rfl
    | succ r ih=>simp [List.replicate_succ,ih]
   have hfit:(dN L).length+(m+1)≤L.length:=by omega
   have hcond:(dN L).length≤L.length:=hcl
   clear hct hcm hk2 htd hcells hne hclt hK
   generalize hX:List.replicate (m+1) (AV.s [])=X at hspl hrep
   simp [bU,h00,h2,h2j,hj,hl,hp1,hp2,hwi1,hc] at hin ⊢
   have hj1:k+1≤L.length:=by omega
   have hfit2:(dN L).length+(m+1)≤(dN L).length+(L.length - (dN L).length):=by omega
   simp [hj1,hin,hl,hcond,hm,hrep,hX,hfit,hfit2,hlim,hbase]
   simp [splice] at hspl
   rw [hspl]
  ·have hct':dN (L.take (k+2))=L.take (k+2):=by
    rw [hct,if_neg hc,hcm];exact (List.take_succ_eq_append_getElem hj).symm
   have ih:=I4 d (k+1) (by omega) hct'
   rw [←hK] at ih
   clear hK hct hct' hcm
   simp [bU,h00,h2,h2j,hj,hl,hp1,hp2,hwi1,hwi2,hc] at ih ⊢
   exact ih
theorem TG (m:Nat) (hm:m=L.length) (hs:s[l]?=some (.buf t 1 ver (L.map .s))):
  aj P0 (.fn (.func bK) [] []) [.sk l ver 1 0 m] s cx=.ret (.sk l ver 1 0 (dN L).length) (s.set l (.buf t 1 ver (vk L))):=by
 subst hm
 have hset:s.set l (.buf t 1 ver (L.map .s))=s:=by
  apply List.ext_getElem?
  intro i
  by_cases hi:l=i
  ·subst hi;rw [List.getElem?_set_self hl,hs]
  ·rw [List.getElem?_set_ne hi]
 refine lH (by simp) ?_
 match L,hL with
 | [],_=>
  have h1:vk []=([]:List (List UInt8)).map .s:=by simp [vk,dN]
  rw [h1,hset]
  simp [ah,aQ,dN]
 | [a],_=>
  have h1:vk [a]=[a].map .s:=by simp [vk,dN,qi]
  rw [h1,hset]
  simp [ah,aQ,dN,qi]
 | a::b::r,hL=>
  have h:=I4 (a::b::r) hL s ⟨cx.lim,cx.base⟩ l t ver hl hlim hbase r.length.succ 0 (by simp;omega) (by simp [dN,qi])
  rw [hset] at h
  have h2:¬((a::b::r).length:Int)<2:=by simp;omega
  by_cases hc:(dN (a::b::r)).length=(a::b::r).length
  ·rw [if_pos hc] at h
   simp only [Nat.zero_add] at h
   generalize hX:a::b::r=X at *
   simp at h
   simp [ah,aQ,h2,h,hc]
  ·rw [if_neg hc] at h
   simp only [Nat.zero_add] at h
   generalize hX:a::b::r=X at *
   simp at h
   simp [ah,aQ,h2,h]
end
end Go.Ai.Z
namespace Go.Ai.Z
def uX (t:List UInt8):List (List UInt8):=if headB 63 t=true then [t] else []
def x9:List At→List (List UInt8)
 | []=>[]
 | a::r=>uX a.x++(uX a.y++x9 r)
theorem Gy:∀L:List At,(x9 L).length≤2 * L.length
 | []=>by simp [x9]
 | a::r=>by
  have:=Gy r
  have h1:∀t,(uX t).length≤1:=fun t=>by unfold uX;split<;>simp
  have h2:=h1 a.x
  have h3:=h1 a.y
  simp only [x9,List.length_append,List.length_cons];omega
def Ij (n:Nat):List (List UInt8)→AV
 | []=>.ns
 | _::r=>.sk n r.length 1 0 (r.length+1)
def Gq:List (List UInt8)→St
 | []=>[]
 | a::r=>[.buf ay 1 r.length ((a::r).map .s)]
theorem Xd (s:St) (x y:List UInt8) (V:List (List UInt8)) (hV:V.length≤1000000) (A:AV) (n i:Int) (j:Nat) (u:List UInt8) (hu:[x,y][j]?=some u):
  dZ (ak P0.glob (aj P0) ⟨s.length,s.length⟩ false bf) [2,8,9,10,18,19]
   [(2,.v (Ij s.length V)),(8,.v A),(9,.v (.i .i64 n)),(10,.v (.i .i64 i)),(18,.v (.ag [.s x,.s y])),(19,.v (.i .i64 (j:Int)))] (s++Gq V)=
  dZ (ak P0.glob (aj P0) ⟨s.length,s.length⟩ false bf) [2,8,9,10,18,19]
   [(2,.v (Ij s.length (V++uX u))),(8,.v A),(9,.v (.i .i64 n)),(10,.v (.i .i64 i)),(18,.v (.ag [.s x,.s y])),(19,.v (.i .i64 ((j+1:Nat):Int)))] (s++Gq (V++uX u)):=by
 refine ai fun K hK=>?_
 rw [←hK]
 clear hK
 have hj:j=0∨j=1:=by
  rcases j with _ | _|j
  ·exact .inl rfl
  ·exact .inr rfl
  ·simp at hu
 have hmx:V.length+1≤bI:=by unfold bI;omega
 have h1m:1≤bI:=by unfold bI;omega
 have hw0:IntKind.i64.wrap 1=1:=by rw [w64]<;>omega
 have hw1:IntKind.i64.wrap 2=2:=by rw [w64]<;>omega
 rcases hj with rfl|rfl
 ·simp at hu
  subst hu
  cases h:headB 63 x
  ·simp [bf,h,uX,hw0]
  ·cases V with
   | nil=>simp [bf,h,uX,hw0,Ij,Gq,h1m]
   | cons v r=>
    simp at hmx
    have htk:List.take r.length (r.map AV.s)=r.map AV.s:=List.take_of_length_le (by simp)
    simp [bf,h,uX,hw0,Ij,Gq,hmx,htk]
 ·simp at hu
  subst hu
  cases h:headB 63 y
  ·simp [bf,h,uX,hw1]
  ·cases V with
   | nil=>simp [bf,h,uX,hw1,Ij,Gq,h1m]
   | cons v r=>
    simp at hmx
    have htk:List.take r.length (r.map AV.s)=r.map AV.s:=List.take_of_length_le (by simp)
    simp [bf,h,uX,hw1,Ij,Gq,hmx,htk]
theorem aam (s:St) (x y:List UInt8) (V:List (List UInt8)) (hV:V.length≤999999) (A:AV) (n i:Int):
  dZ (ak P0.glob (aj P0) ⟨s.length,s.length⟩ false bf) [2,8,9,10,18,19]
   [(2,.v (Ij s.length V)),(8,.v A),(9,.v (.i .i64 n)),(10,.v (.i .i64 i)),(18,.v (.ag [.s x,.s y])),(19,.v (.i .i64 0))] (s++Gq V)=
  .exit 2 [(2,.v (Ij s.length (V++(uX x++uX y)))),(8,.v A),(9,.v (.i .i64 n)),(10,.v (.i .i64 i)),(18,.v (.ag [.s x,.s y])),(19,.v (.i .i64 2)),(20,.v (.b false))] (s++Gq (V++(uX x++uX y))):=by
 have h1:∀t,(uX t).length≤1:=fun t=>by unfold uX;split<;>simp
 have e1:=Xd s x y V (by omega) A n i 0 x rfl
 have e2:=Xd s x y (V++uX x) (by have:=h1 x;simp;omega) A n i 1 y rfl
 rw [show (((0:Nat):Int))=0 from rfl] at e1
 rw [e1,show ((0+1:Nat):Int)=((1:Nat):Int) from rfl,e2,List.append_assoc]
 refine ai fun K hK=>?_
 simp [bf]
theorem Xe (s:St) (L:List At) (hL:L.length≤100000):∀(rest:List At) (k:Nat) (V:List (List UInt8)),L.drop k=rest→k≤L.length→V.length+2 * rest.length≤300000→
  dZ (ak P0.glob (aj P0) ⟨s.length,s.length⟩ false gy) [2,8,9,10]
   [(2,.v (Ij s.length V)),(8,.v (.sl (L.map dM))),(9,.v (.i .i64 L.length)),(10,.v (.i .i64 k))] (s++Gq V)=
  .exit 0 [(2,.v (Ij s.length (V++x9 rest))),(8,.v (.sl (L.map dM))),(9,.v (.i .i64 L.length)),(10,.v (.i .i64 (L.length:Int))),(11,.v (.b false))] (s++Gq (V++x9 rest))
 | [],k,V,h,hk,_=>by
  have h1:¬k<L.length:=Nat.not_lt.2 (drop_nil h)
  have h2:k=L.length:=by omega
  refine ai fun K hK=>?_
  simp [gy,h2,x9]
 | p::r,k,V,h,hk,hV=>by
  obtain ⟨h1,h2,h3,h4⟩:=drop_cons h
  have h5:=h4 h3
  have hw:=wI (i:=k) (by omega)
  have hone:∀t,(uX t).length≤1:=fun t=>by unfold uX;split<;>simp
  have ih:=Xe s L hL r (k+1) (V++(uX p.x++uX p.y)) h2 (by omega) (by have:=hone p.x;have:=hone p.y;simp at hV ⊢;omega)
  have e2:=aam s p.x p.y V (by simp at hV;omega) (.sl (L.map dM)) L.length k
  refine ai fun K hK=>?_
  rw [←hK,show ((k+1:Nat):Int)=(k:Int)+1 from rfl] at ih
  clear hK
  have hva:x9 (p::r)=uX p.x++(uX p.y++x9 r):=rfl
  rw [hva]
  simp only [List.append_assoc] at ih e2 ⊢
  simp [gy,h3,h5,hw,dM,xI,splice,e2,ih]
theorem TF (V:List (List UInt8)) (hV:V.length≤300000) (s:St) (cx:Ctx) (l t ver:Nat) (hs:s[l]?=some (.buf t 1 ver (V.map .s))) (hlim:cx.lim≤l) (hbase:cx.base≤l):
  aj P0 (.fn (.func gZ) [] []) [.sk l ver 1 0 V.length] s cx=.ret (.tu []) (s.set l (.buf t 1 ver ((Go.Ai.sortStr V).map .s))):=by
 refine Io (A:=P0) (k:=.sortS) rfl rfl (by simp) ?_
 cases V with
 | nil=>
  have hset:s.set l (.buf t 1 ver (([]:List (List UInt8)).map .s))=s:=by
   apply List.ext_getElem?
   intro i
   by_cases hi:l=i
   ·subst hi;rw [List.getElem?_set_self (List.getElem?_eq_some_iff.1 hs).1,hs]
   ·rw [List.getElem?_set_ne hi]
  simp only [Go.Ai.sortStr]
  rw [hset]
  simp [iG]
 | cons a r=>
  have hm:∀l:List (List UInt8),(l.map AV.s).mapM strOf=some l:=by
   intro l
   induction l with
   | nil=>rfl
   | cons x l ih=>simp only [List.map_cons,List.mapM_cons,ih,strOf];rfl
  have hlen:(Go.Ai.sortStr (a::r)).length=r.length+1:=(mY (a::r)).length_eq
  have hcond:ver=ver∧(1:Nat)=1∧(1:Nat)=1∧0+(r.length+1)≤((a::r).map AV.s).length∧r.length<bI∧cx.lim≤l∧cx.base≤l:=
   ⟨rfl,rfl,rfl,by simp,by unfold bI;simp at hV;omega,hlim,hbase⟩
  have htk:(((a::r).map AV.s).drop 0).take (r.length+1)=(a::r).map AV.s:=by rw [List.drop_zero,List.take_of_length_le (by simp)]
  have hsp:splice ((a::r).map AV.s) 0 ((Go.Ai.sortStr (a::r)).map AV.s)=(Go.Ai.sortStr (a::r)).map AV.s:=by
   unfold splice
   rw [List.take_zero,List.nil_append,List.drop_of_length_le (by simp [hlen]),List.append_nil]
  show iG (aj P0) (aj P0.quiet) .sortS [.sk l ver 1 0 (r.length+1)] s cx=_
  unfold iG
  dsimp only
  rw [hs]
  dsimp only
  rw [if_pos hcond,htk,hm]
  dsimp only
  rw [hsp]
theorem YL {s:St} {t ver:Nat} (M:List (List UInt8)) (hM:M≠[]) (Z:List AV):frz (s++[.buf t 1 ver (M.map .s++Z)]) s.length (.sk s.length ver 1 0 M.length)=some (.sl (M.map .s)):=by
 have h1:(AV.sk s.length ver 1 0 M.length).under s.length=false:=by simp [AV.under]
 have ht:(M.map AV.s++Z).take (M.length * 1)=M.map AV.s:=by rw [Nat.mul_one,List.take_left' (by simp)]
 have hm:(M.map AV.s).mapM (rG (s++[.buf t 1 ver (M.map .s++Z)]) s.length 5)=some (M.map AV.s):=QB fun a ha=>YM (by
  obtain ⟨x,_,rfl⟩:=List.mem_map.1 ha;simp)
 have ho:(M.map AV.s).all AV.one=true:=List.all_eq_true.2 fun a ha=>by obtain ⟨x,_,rfl⟩:=List.mem_map.1 ha;rfl
 have hc:∀N:List (List UInt8),chunk 1 N.length (N.map AV.s)=N.map .s:=by
  intro N
  induction N with
  | nil=>rfl
  | cons x N ih=>simp only [List.length_cons,List.map_cons,chunk,if_true,List.drop_succ_cons,List.drop_zero,ih];rfl
 rw [frz,if_neg (by rw [h1];exact Bool.false_ne_true),rG,if_neg (by rw [h1];exact Bool.false_ne_true)]
 simp only [List.getElem?_append_right (Nat.le_refl _),Nat.sub_self,List.getElem?_cons_zero]
 rw [if_pos (by simp),List.drop_zero,ht,hm]
 show (if _ then _ else _)=_
 rw [if_pos ⟨by omega,ho⟩,hc]
def vrs (L:List At):List (List UInt8):=dN (Go.Ai.sortStr (x9 L))
theorem DN (s:St) (cx:Ctx):aj P0 (.fn (.func bK) [] []) [.ns] s cx=.ret .ns s:=by
 refine lH (by simp) ?_
 simp [ah,aQ]
theorem DL (s:St) (cx:Ctx):aj P0 (.fn (.func gZ) [] []) [.ns] s cx=.ret (.tu []) s:=
 Io (A:=P0) (k:=.sortS) rfl rfl (by simp) (by simp [iG])
theorem Ro (z:Bool) (L:List At) (hL:L.length≤40000) (s:St) (cx:Ctx):aj P0 (.fn (.func fV) [] []) [YT z L] s cx=.ret (slf true ((vrs L).map .s)) s:=by
 have key:∀V:List (List UInt8),V.length≤300000→V≠[]→∃Z,vk (Go.Ai.sortStr V)=(dN (Go.Ai.sortStr V)).map AV.s++Z∧dN (Go.Ai.sortStr V)≠[]:=by
  intro V _ h0
  refine ⟨_,rfl, ?_⟩
  cases hS:Go.Ai.sortStr V with
  | nil=>have:=(mY V).length_eq;rw [hS] at this;exact absurd (List.eq_nil_of_length_eq_zero this.symm) h0
  | cons a r=>simp [dN]
 match L,hL with
 | [],_=>
  have h0:slf true ((vrs []).map AV.s)=.ns:=rfl
  rw [h0]
  have hl:dZ (ak P0.glob (aj P0) ⟨s.length,s.length⟩ false gy) [2,8,9,10] [(2,.v .ns),(8,.v (rowA z [])),(9,.v (.i .i64 0)),(10,.v (.i .i64 0))] s=
    .exit 0 [(2,.v .ns),(8,.v (rowA z [])),(9,.v (.i .i64 0)),(10,.v (.i .i64 0)),(11,.v (.b false))] s:=by
   refine ai fun K hK=>?_
   simp [gy]
  refine qM (by simp) ?_
  cases z<;>simp [rowA] at hl<;>simp [ah,jb,YT,rowA,hl,DL,DN,AV.one]
 | a::q,hL=>
  have hl:=Xe s (a::q) (by omega) (a::q) 0 [] rfl (by simp) (by simp at hL ⊢;omega)
  rw [show (((0:Nat):Int))=0 from rfl,List.nil_append,show Ij s.length []=.ns from rfl,show s++Gq []=s from by simp [Gq]] at hl
  have hvl:=Gy (a::q)
  generalize hX:a::q=X at *
  have hX0:X≠[]:=by rw [←hX];simp
  have hrow:rowA z X=.sl (X.map dM):=by rw [←hX];rfl
  cases hV:x9 X with
  | nil=>
   rw [hV] at hl
   have h0:slf true ((vrs X).map AV.s)=.ns:=by unfold vrs;rw [hV];rfl
   rw [h0]
   simp [Ij,Gq] at hl
   refine qM (by simp) ?_
   simp [ah,jb,YT,hrow,hl,DL,DN]
  | cons v r=>
   rw [hV] at hl hvl
   simp only [Ij,Gq] at hl
   have hvl':(v::r).length≤300000:=by omega
   have hSl:(Go.Ai.sortStr (v::r)).length=(v::r).length:=(mY (v::r)).length_eq
   obtain ⟨Z,hZ,hne⟩:=key (v::r) hvl' (by simp)
   have e2:=TF (v::r) hvl' (s++[.buf ay 1 r.length ((v::r).map .s)]) ⟨s.length,s.length⟩ s.length ay r.length (by simp) (Nat.le_refl _) (Nat.le_refl _)
   have e3:=TG (Go.Ai.sortStr (v::r)) (by omega) (s++[.buf ay 1 r.length ((Go.Ai.sortStr (v::r)).map .s)]) ⟨s.length,s.length⟩ s.length ay r.length (by simp) (Nat.le_refl _) (Nat.le_refl _) (v::r).length hSl.symm (by simp)
   rw [hZ] at e3
   have hset:∀x y:cO,(s++[x]).set s.length y=s++[y]:=fun x y=>by simp
   rw [hset] at e2 e3
   have hfz:=YL (s:=s) (t:=ay) (ver:=r.length) (dN (Go.Ai.sortStr (v::r))) hne Z
   have h0:slf true ((vrs X).map AV.s)=.sl ((dN (Go.Ai.sortStr (v::r))).map AV.s):=by
    unfold vrs
    rw [hV]
    cases hc:dN (Go.Ai.sortStr (v::r)) with
    | nil=>exact absurd hc hne
    | cons x y=>simp
   rw [h0]
   generalize dN (Go.Ai.sortStr (v::r))=C at *
   generalize Go.Ai.sortStr (v::r)=S1 at *
   simp only [List.length_cons] at e2 e3
   simp only [List.map_cons] at hl e2
   refine qM (by simp) ?_
   simp [ah,jb,YT,hrow,hl,e2,e3,hfz]
end Go.Ai.Z
namespace Go.Ai.Z
@[simp] theorem Z9 (z:Bool) (L:List At):(rowA z L).plain=rowA z L:=by cases L<;>cases z<;>rfl
@[simp] theorem Zo (z:Bool) (L:List At):(rowA z L).plain1=rowA z L:=by cases L<;>cases z<;>rfl
@[simp] theorem acz (z:Bool) (L:List At):(rowA z L).one=true:=by cases L<;>cases z<;>rfl
@[simp] theorem aaw (z:Bool) (L:List At):(rowA z L).cells=[rowA z L]:=by cases L<;>cases z<;>rfl
@[simp] theorem Zw (z:Bool) (L:List At) (env:Env):qg env (some (.v (rowA z L)))=some (L.map dM):=by cases L<;>cases z<;>rfl
theorem BN {z:Bool} {L:List At} (h:L≠[]):rowA z L=.sl (L.map dM):=by
 cases L with
 | nil=>exact absurd rfl h
 | cons a r=>rfl
def encPt (p:Bool×List At):AV:=.ag [rowA p.1 p.2]
@[simp] theorem Zz (p:Bool×List At):(encPt p).cells=[rowA p.1 p.2]:=rfl
@[simp] theorem Zn (p:Bool×List At):(encPt p).plain=encPt p:=by
 obtain ⟨z,L⟩:=p
 cases L<;>cases z<;>rfl
theorem Gl (p:Bool×List At) (hL:p.2.length≤40000) (s:St) (cx:Ctx):aj P0 (.fn (.func fV) [] []) [.ag [rowA p.1 p.2]] s cx=.ret (slf true ((vrs p.2).map .s)) s:=Ro p.1 p.2 hL s cx
theorem QG (l:List (List UInt8)) (x:List UInt8) (hl:l.length≤1000000) (v:AV) (hv:v=.sl (l.map .s)∨(v=.ns∧l=[])) (s:St) (cx:Ctx):
  ∀(rest:List (List UInt8)) (i:Nat),l.drop i=rest→
  ∃j:Nat,dZ (ak P0.glob (aj P0) cx false dn) [0,1,7,8] [(0,.v v),(1,.v (.s x)),(7,.v (.i .i64 l.length)),(8,.v (.i .i64 i))] s=
   if x∈rest then .ret [(4,.v (.i .i64 (j:Int)))] s else .exit 0 [(0,.v v),(1,.v (.s x)),(7,.v (.i .i64 l.length)),(8,.v (.i .i64 (j:Int))),(9,.v (.b false))] s
 | [],i,h=>by
  have h1:¬i<l.length:=Nat.not_lt.2 (drop_nil h)
  refine ⟨i,ai fun K hK=>?_⟩
  simp [dn,h1]
 | p::r,i,h=>by
  obtain ⟨h1,h2,h3,h4⟩:=drop_cons h
  have h5:=h4 h3
  have hw:=wI (i:=i) (by omega)
  have hv':v=.sl (l.map .s):=by
   rcases hv with h|⟨_,h⟩
   ·exact h
   ·subst h;simp at h3
  subst hv'
  by_cases hp:p=x
  ·refine ⟨i,ai fun K hK=>?_⟩
   clear h4
   simp [dn,h3,h5,hw,hp]
  ·obtain ⟨j,ih⟩:=QG l x hl _ (.inl rfl) s cx r (i+1) h2
   have hp':¬x=p:=fun h=>hp h.symm
   refine ⟨j,ai fun K hK=>?_⟩
   rw [←hK,show ((i+1:Nat):Int)=(i:Int)+1 from rfl] at ih
   clear hK h4
   try simp at ih
   simp [dn,h3,h5,hw,hp,hp',ih]
theorem BG (l:List (List UInt8)) (x:List UInt8) (hl:l.length≤1000000) (v:AV) (hv:v=.sl (l.map .s)∨(v=.ns∧l=[])) (s:St) (cx:Ctx):
  aj P0 (.fn (.func aY) [] []) [v,.s x] s cx=.ret (.b (decide (x∈l))) s:=by
 have key:∃n:Int,(0≤n ↔ x∈l)∧∀cx,aj P0 (.fn (.func eF) [] []) [v,.s x] s cx=.ret (.i .i64 n) s:=by
  obtain ⟨j,h⟩:=QG l x hl v hv s ⟨s.length,s.length⟩ l 0 rfl
  have hlen:qg [(6,.v v),(0,.v v),(1,.v (.s x))] (some (.v v))=some (l.map .s):=by
   rcases hv with h|⟨h,h'⟩
   ·subst h;rfl
   ·subst h h';rfl
  rw [show ((0:Nat):Int)=0 from rfl] at h
  by_cases hx:x∈l
  ·rw [if_pos hx] at h
   refine ⟨j,by simp [hx],fun cx=>mX (by simp) ?_⟩
   rcases hv with h' | ⟨h',h''⟩
   ·subst h'
    try simp at h
    simp [ah,bV,h]
   ·subst h'';cases hx
  ·rw [if_neg hx] at h
   refine ⟨-1,by simp [hx],fun cx=>mX (by simp) ?_⟩
   rcases hv with h' | ⟨h',h''⟩
   ·subst h'
    try simp at h
    simp [ah,bV,h]
   ·subst h' h''
    try simp at h
    simp [ah,bV,h]
 obtain ⟨n,hn,h⟩:=key
 refine rV (by simp) ?_
 have hd:decide (x∈l)=decide (0≤n):=by by_cases hx:x∈l<;>simp [hx,hn]
 rw [hd]
 rcases hv with h' | ⟨h',h''⟩
 ·subst h'
  simp [ah,dw,h]
 ·subst h'
  simp [ah,dw,h]
theorem yS (z:Bool) (l:List (List UInt8)):slf z (l.map AV.s)=.sl (l.map .s)∨(slf z (l.map AV.s)=.ns∧l=[]):=by
 cases z with
 | false=>exact .inl (by simp)
 | true=>cases l with
  | nil=>exact .inr ⟨rfl,rfl⟩
  | cons a r=>exact .inl (by simp)
def uJ (zt:Bool) (T:List (List UInt8)) (zp:Bool) (ps:List (Bool×List At)):AV:=.ag [slf zt (T.map .s),slf zp (ps.map encPt)]
def shE (T:List (List UInt8)) (ps:List (Bool×List At)):Int:=
 if ps.length<1∨4<ps.length∨3<T.length then 210 else if ps.all (fun p=>decide (1≤p.2.length) && decide (p.2.length≤12))=true then 0 else 210
theorem Fz (zp:Bool) (ps:List (Bool×List At)) (hl:ps.length≤1000000) (hb:∀p∈ps,p.2.length≤1125899906842624) (s:St) (cx:Ctx):
  ∀(rest:List (Bool×List At)) (i:Nat),ps.drop i=rest→
  ∃j:Int,dZ (ak P0.glob (aj P0) cx false fK) [22,23,24] [(22,.v (slf zp (ps.map encPt))),(23,.v (.i .i64 ps.length)),(24,.v (.i .i64 i))] s=
   if rest.all (fun p=>decide (1≤p.2.length) && decide (p.2.length≤12))=true then .exit 0 [(22,.v (slf zp (ps.map encPt))),(23,.v (.i .i64 ps.length)),(24,.v (.i .i64 j)),(25,.v (.b false))] s else .ret [(2,.v (.i .i64 210))] s
 | [],i,h=>by
  have h1:¬i<ps.length:=Nat.not_lt.2 (drop_nil h)
  refine ⟨i,ai fun K hK=>?_⟩
  simp [fK,h1]
 | p::r,i,h=>by
  obtain ⟨h1,h2,h3,h4⟩:=drop_cons h
  have h5:=h4 h3
  have hp:=hb p (by rw [←h5];exact List.getElem_mem h3)
  have hw:=wI (i:=i) (by omega)
  obtain ⟨j,ih⟩:=Fz zp ps hl hb s cx r (i+1) h2
  refine ⟨j,ai fun K hK=>?_⟩
  rw [←hK,show ((i+1:Nat):Int)=(i:Int)+1 from rfl] at ih
  clear hK h4
  have b1:(1:Nat)≤p.2.length ↔ ¬((p.2.length:Nat):Int)<1:=by omega
  have b2:p.2.length≤12 ↔ ¬(12:Int)<((p.2.length:Nat):Int):=by omega
  by_cases c1:((p.2.length:Nat):Int)<1
  ·have hz:(decide (1≤p.2.length) && decide (p.2.length≤12))=false:=by simp [b1,c1]
   simp only [List.all_cons,hz,Bool.false_and]
   simp [fK,h3,h5,hw,c1,splice]
  ·by_cases c2:(12:Int)<((p.2.length:Nat):Int)
   ·have hz:(decide (1≤p.2.length) && decide (p.2.length≤12))=false:=by simp [b2,c2]
    simp only [List.all_cons,hz,Bool.false_and]
    simp [fK,h3,h5,hw,c1,c2,splice]
   ·have hz:(decide (1≤p.2.length) && decide (p.2.length≤12))=true:=by simp only [b1,b2,c1,c2];rfl
    simp only [List.all_cons,hz,Bool.true_and]
    rw [←ih]
    simp [fK,h3,h5,hw,c1,c2,splice]
theorem PN (zt:Bool) (T:List (List UInt8)) (zp:Bool) (ps:List (Bool×List At)) (hT:T.length≤1125899906842624) (hl:ps.length≤1125899906842624) (hb:∀p∈ps,p.2.length≤1125899906842624) (s:St) (cx:Ctx):
  aj P0 (.fn (.func kz) [] []) [uJ zt T zp ps] s cx=.ret (.i .i64 (shE T ps)) s:=by
 refine Di (by simp) ?_
 unfold shE uJ
 by_cases c1:ps.length<1
 ·have c1':(ps.length:Int)<1:=by omega
  simp [ah,eH,c1,c1']
 by_cases c2:4<ps.length
 ·have c1':¬(ps.length:Int)<1:=by omega
  have c2':(4:Int)<ps.length:=by omega
  simp [ah,eH,c1,c1',c2,c2']
 by_cases c3:3<T.length
 ·have c1':¬(ps.length:Int)<1:=by omega
  have c2':¬(4:Int)<ps.length:=by omega
  have c3':(3:Int)<T.length:=by omega
  simp [ah,eH,c1,c1',c2,c2',c3,c3']
 have c1':¬(ps.length:Int)<1:=by omega
 have c2':¬(4:Int)<ps.length:=by omega
 have c3':¬(3:Int)<T.length:=by omega
 obtain ⟨j,h⟩:=Fz zp ps (by omega) hb s ⟨s.length,s.length⟩ ps 0 rfl
 rw [show ((0:Nat):Int)=0 from rfl] at h
 by_cases c4:ps.all (fun p=>decide (1≤p.2.length) && decide (p.2.length≤12))=true
 ·rw [if_pos c4] at h
  rw [if_neg (by omega),if_pos c4]
  simp [ah,eH,c1',c2',c3',h]
 ·rw [if_neg c4] at h
  rw [if_neg (by omega),if_neg c4]
  simp [ah,eH,c1',c2',c3',h]
end Go.Ai.Z
namespace Go.Ai.Z
theorem Yh (L:List At):(vrs L).length≤2 * L.length:=by
 have h1:=Q9 (Go.Ai.sortStr (x9 L))
 have h2:=(mY (x9 L)).length_eq
 have h3:=Gy L
 unfold vrs;omega
section
variable (zt:Bool) (T:List (List UInt8)) (hT:T.length≤1000) (zp:Bool) (ps:List (Bool×List At)) (hl:ps.length≤1000) (hb:∀p∈ps,p.2.length≤1000) (s:St) (cx:Ctx)
include hT
theorem Ud:∀(rest:List (List UInt8)) (i:Nat),T.drop i=rest→
  ∃j:Int,dZ (ak P0.glob (aj P0) cx false iW) [1,10,11,12]
   [(1,.bx [slf zt (T.map .s),slf zp (ps.map encPt)]),(10,.v (slf zt (T.map .s))),(11,.v (.i .i64 T.length)),(12,.v (.i .i64 i))] s=
   if rest.all EQ=true then .exit 0 [(1,.bx [slf zt (T.map .s),slf zp (ps.map encPt)]),(10,.v (slf zt (T.map .s))),(11,.v (.i .i64 T.length)),(12,.v (.i .i64 j)),(13,.v (.b false))] s else .ret [(2,.v (.i .i64 20))] s
 | [],i,h=>by
  have h1:¬i<T.length:=Nat.not_lt.2 (drop_nil h)
  refine ⟨i,ai fun K hK=>?_⟩
  simp [iW,h1]
 | p::r,i,h=>by
  obtain ⟨h1,h2,h3,h4⟩:=drop_cons h
  have h5:=h4 h3
  have hw:=wI (i:=i) (by omega)
  have e1:=wY p
  obtain ⟨j,ih⟩:=Ud r (i+1) h2
  refine ⟨j,ai fun K hK=>?_⟩
  rw [←hK,show ((i+1:Nat):Int)=(i:Int)+1 from rfl] at ih
  clear hK h4
  cases hv:EQ p
  ·rw [hv] at e1
   simp only [List.all_cons,hv,Bool.false_and]
   simp [iW,h3,h5,hw,e1]
  ·rw [hv] at e1
   simp only [List.all_cons,hv,Bool.true_and]
   rw [←ih]
   simp [iW,h3,h5,hw,e1]
omit hT
include hl hb
theorem Ub (t:List UInt8) (rs:AV) (n i0:Int):∀(rest:List (Bool×List At)) (i:Nat),ps.drop i=rest→
  ∃j:Int,dZ (ak P0.glob (aj P0) cx false iV) [1,6,21,22,23,35,36,37]
   [(1,.bx [slf zt (T.map .s),slf zp (ps.map encPt)]),(6,.v (.s t)),(21,.v rs),(22,.v (.i .i64 n)),(23,.v (.i .i64 i0)),(35,.v (slf zp (ps.map encPt))),(36,.v (.i .i64 ps.length)),(37,.v (.i .i64 i))] s=
   if rest.all (fun p=>decide (t∈vrs p.2))=true then .exit 4 [(1,.bx [slf zt (T.map .s),slf zp (ps.map encPt)]),(6,.v (.s t)),(21,.v rs),(22,.v (.i .i64 n)),(23,.v (.i .i64 i0)),(35,.v (slf zp (ps.map encPt))),(36,.v (.i .i64 ps.length)),(37,.v (.i .i64 j)),(38,.v (.b false))] s
   else .ret [(2,.v (.i .i64 210))] s
 | [],i,h=>by
  have h1:¬i<ps.length:=Nat.not_lt.2 (drop_nil h)
  refine ⟨i,ai fun K hK=>?_⟩
  simp [iV,h1]
 | p::r,i,h=>by
  obtain ⟨h1,h2,h3,h4⟩:=drop_cons h
  have h5:=h4 h3
  have hp:=hb p (by rw [←h5];exact List.getElem_mem h3)
  have hw:=wI (i:=i) (by omega)
  have e1:=Gl p (by omega)
  have hlen:=Yh p.2
  have e2:=BG (vrs p.2) t (by omega) _ (yS true (vrs p.2))
  obtain ⟨j,ih⟩:=Ub t rs n i0 r (i+1) h2
  refine ⟨j,ai fun K hK=>?_⟩
  rw [←hK,show ((i+1:Nat):Int)=(i:Int)+1 from rfl] at ih
  clear hK h4
  by_cases hv:t∈vrs p.2
  ·rw [decide_eq_true hv] at e2
   simp only [List.all_cons,decide_eq_true hv,Bool.true_and]
   rw [←ih]
   simp [iV,h3,h5,hw,e1,e2,splice]
  ·rw [decide_eq_false hv] at e2
   simp only [List.all_cons,decide_eq_false hv,Bool.false_and]
   simp [iV,h3,h5,hw,e1,e2,splice]
omit hl hb
def tdB (ps:List (Bool×List At)):List (List UInt8)→List (List UInt8)→Bool
 | _,[]=>true
 | seen,t::r=>(!decide (t∈seen) && ps.all (fun p=>decide (t∈vrs p.2))) && tdB ps (seen++[t]) r
include hT hl hb
theorem Uc:∀(rest:List (List UInt8)) (i:Nat),T.drop i=rest→
  ∃j:Int,dZ (ak P0.glob (aj P0) cx false gq) [1,21,22,23]
   [(1,.bx [slf zt (T.map .s),slf zp (ps.map encPt)]),(21,.v (slf zt (T.map .s))),(22,.v (.i .i64 T.length)),(23,.v (.i .i64 i))] s=
   if tdB ps (T.take i) rest=true then .exit 2 [(1,.bx [slf zt (T.map .s),slf zp (ps.map encPt)]),(21,.v (slf zt (T.map .s))),(22,.v (.i .i64 T.length)),(23,.v (.i .i64 j)),(24,.v (.b false))] s else .ret [(2,.v (.i .i64 210))] s
 | [],i,h=>by
  have h1:¬i<T.length:=Nat.not_lt.2 (drop_nil h)
  refine ⟨i,ai fun K hK=>?_⟩
  simp [gq,h1,tdB]
 | p::r,i,h=>by
  obtain ⟨h1,h2,h3,h4⟩:=drop_cons h
  have h5:=h4 h3
  have hw:=wI (i:=i) (by omega)
  have hrow:slf zt (T.map AV.s)=.sl (T.map .s):=by
   rcases yS zt T with h|⟨_,h⟩
   ·exact h
   ·subst h;simp at h3
  have e2:=BG (T.take i) p (by simp;omega) _ (.inl rfl)
  have ht:T.take (i+1)=T.take i++[p]:=by rw [List.take_succ_eq_append_getElem h3,h5]
  obtain ⟨j,ih⟩:=Uc r (i+1) h2
  obtain ⟨j2,h6⟩:=Ub zt T zp ps hl hb s cx p (.sl (T.map .s)) T.length i ps 0 rfl
  rw [ht] at ih
  rw [hrow] at ih h6 ⊢
  refine ⟨j,ai fun K hK=>?_⟩
  rw [←hK,show ((i+1:Nat):Int)=(i:Int)+1 from rfl] at ih
  rw [show ((0:Nat):Int)=0 from rfl] at h6
  clear hK h4
  have hile:i≤T.length:=by omega
  unfold tdB
  by_cases hm:p∈T.take i
  ·rw [decide_eq_true hm] at e2 ⊢
   simp only [Bool.not_true,Bool.false_and]
   rw [List.map_take] at e2
   simp [gq,h3,h5,hw,e2,hile]
  ·rw [decide_eq_false hm] at e2 ⊢
   simp only [Bool.not_false,Bool.true_and]
   rw [List.map_take] at e2
   by_cases hv:(ps.all fun q=>decide (p∈vrs q.2))=true
   ·rw [if_pos hv] at h6
    rw [hv,Bool.true_and,←ih]
    simp [gq,h3,h5,hw,e2,hile,h6]
   ·rw [if_neg hv] at h6
    rw [Bool.not_eq_true] at hv
    rw [hv,Bool.false_and]
    simp [gq,h3,h5,hw,e2,hile,h6]
def tdE (T:List (List UInt8)) (ps:List (Bool×List At)):Int:=if T.all EQ=true then (if tdB ps [] T=true then 0 else 210) else 20
theorem Rn:aj P0 (.fn (.func kY) [] []) [uJ zt T zp ps] s cx=.ret (.i .i64 (tdE T ps)) s:=by
 obtain ⟨j,h1⟩:=Ud zt T hT zp ps s ⟨s.length,s.length⟩ T 0 rfl
 obtain ⟨j2,h2⟩:=Uc zt T hT zp ps hl hb s ⟨s.length,s.length⟩ T 0 rfl
 rw [show ((0:Nat):Int)=0 from rfl] at h1 h2
 rw [List.take_zero] at h2
 refine EC (by simp) ?_
 unfold tdE uJ
 by_cases c1:T.all EQ=true
 ·rw [if_pos c1] at h1 ⊢
  by_cases c2:tdB ps [] T=true
  ·rw [if_pos c2] at h2 ⊢
   simp [ah,ja,h1,h2]
  ·rw [if_neg c2] at h2 ⊢
   simp [ah,ja,h1,h2]
 ·rw [if_neg c1] at h1 ⊢
  simp [ah,ja,h1]
end
end Go.Ai.Z
