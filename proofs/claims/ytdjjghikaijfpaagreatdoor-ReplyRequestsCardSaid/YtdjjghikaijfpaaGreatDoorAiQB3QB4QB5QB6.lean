/-
 slices.Compact of strings.
-/
import Derived.Test.YtdjjghikaijfpaaGreatDoorAiQA5QA6QA7QB1QB2
import Derived.Test.YtdjjghikaijfpaaGreatDoorAiPSortS
set_option maxRecDepth 100000
set_option linter.unusedSimpArgs false
set_option linter.unusedVariables false
set_option linter.unusedSectionVars false
namespace Go.Ai.Z
def mM (a:List UInt8):List (List UInt8)→List (List UInt8)
 | []=>[]
 | b::r=>if b=a then mM b r else b::mM b r
def eH:List (List UInt8)→List (List UInt8)
 | []=>[]
 | a::r=>a::mM a r
theorem BI:∀(a:List UInt8) (l:List (List UInt8)),(mM a l).Sublist l
 | a,[]=>.slnil
 | a,b::r=>by
  unfold mM
  split
  ·exact (BI b r).cons _
  ·exact (BI b r).cons_cons _
theorem O8:∀l:List (List UInt8),(eH l).Sublist l
 | []=>.slnil
 | a::r=>(BI a r).cons_cons _
theorem UM (a:List UInt8):∀(l:List (List UInt8)) (b:List UInt8),mM a (l++[b])=if b=l.getLastD a then mM a l else mM a l++[b]
 | [],b=>by simp [mM]
 | x::l,b=>by
  simp only [List.cons_append,mM]
  have h:=UM x l b
  have hl:(x::l).getLastD a=l.getLastD x:=List.getLastD_cons
  rw [h,hl]
  split<;>split<;>rfl
theorem UL (L:List (List UInt8)) (j:Nat) (h:j+1<L.length):eH (L.take (j+2))=if L[j+1]=L[j] then eH (L.take (j+1)) else eH (L.take (j+1))++[L[j+1]]:=by
 have h1:L.take (j+2)=L.take (j+1)++[L[j+1]]:=List.take_succ_eq_append_getElem h
 rw [h1]
 have h2:∃a r,L.take (j+1)=a::r∧r.getLastD a=L[j]:=by
  have h3:L.take (j+1)=L.take j++[L[j]]:=List.take_succ_eq_append_getElem (by omega)
  rw [h3]
  cases hL:L.take j with
  | nil=>exact ⟨_,_,rfl,rfl⟩
  | cons a r=>exact ⟨a,r++[L[j]],rfl,by simp⟩
 obtain ⟨a,r,e1,e2⟩:=h2
 rw [e1]
 simp only [List.cons_append,eH,UM,e2]
 split<;>rfl
theorem Zr (l:List (List UInt8)):(eH l).length≤l.length:=(O8 l).length_le
@[simp] theorem aio {env:Env} {l ver sz o n:Nat}:vz env (some (.v (.sk l ver sz o n)))=none:=rfl
section
variable (L:List (List UInt8)) (hL:L.length≤100000) (s:St) (cx:Ctx) (l t ver:Nat) (hl:l<s.length) (hlim:cx.lim≤l) (hbase:cx.base≤l)
include hL hl hlim hbase
theorem P7 (k0:Nat) (hk0:1≤k0):∀(d q:Nat),k0+q+1+d=L.length→(eH (L.take (k0+q+1))).length≤k0+q→
  ∃k2:Int,bF (ay P0.glob (aj P0) cx true dR) [0,3,4,5]
   [(0,.v (.sk l ver 1 0 L.length)),(3,.v (.i .i64 (eH (L.take (k0+q+1))).length)),(4,.v (.sk l ver 1 k0 (L.length - k0))),(5,.v (.i .i64 ((q+1:Nat):Int)))]
   (s.set l (.buf t 1 ver ((eH (L.take (k0+q+1))++L.drop (eH (L.take (k0+q+1))).length).map .s)))=
   .exit 2 [(0,.v (.sk l ver 1 0 L.length)),(3,.v (.i .i64 (eH L).length)),(4,.v (.sk l ver 1 k0 (L.length - k0))),(5,.v (.i .i64 k2)),(32,.v (.b false))]
   (s.set l (.buf t 1 ver ((eH L++L.drop (eH L).length).map .s)))
 | 0,q,hd,hq=>by
  have h1:L.take (k0+q+1)=L:=List.take_of_length_le (by omega)
  have h2:¬(q+1<L.length - k0):=by omega
  refine ⟨((q+1:Nat):Int),ak fun K hK=>?_⟩
  rw [h1]
  simp [dR,h2]
  repeat' (first | (split<;>(try simp only [dG,dH,dI,gQ,gU])<;>(try simp [*])) | (simp only [dG,dH,dI,gQ,gU]<;>(try simp [*]))|omega)
 | d+1,q,hd,hq=>by
  have hj:k0+q+1<L.length:=by omega
  have hct:=UL L (k0+q) hj
  obtain ⟨k2,ih⟩:=P7 k0 hk0 d (q+1) (by omega) (by
   rw [show k0+(q+1)+1=k0+q+2 by omega,hct]
   split
   ·omega
   ·simp;omega)
  refine ⟨k2,ak fun K hK=>?_⟩
  rw [←hK] at ih
  clear hK
  have hwl:=hq
  rw [show k0+(q+1)+1=k0+q+2 by omega,hct] at ih
  generalize hW:eH (L.take (k0+q+1))=W at ih hwl
  have h2:q+1<L.length - k0:=by omega
  generalize hM:W++L.drop W.length=M
  have hMl:M.length=L.length:=by rw [←hM];simp;omega
  have hg:∀i,W.length≤i→i<L.length→M[i]?=L[i]?:=by
   intro i h3 h4
   rw [←hM,List.getElem?_append_right h3,List.getElem?_drop];congr 1;omega
  have hp1:M[k0+(q+1)]?=some L[k0+q+1]:=by
   rw [hg _ (by omega) (by omega),List.getElem?_eq_getElem (by omega:k0+(q+1)<L.length)];rfl
  have hp2:M[k0+q]?=some L[k0+q]:=by
   rw [hg _ (by omega) (by omega),List.getElem?_eq_getElem (by omega:k0+q<L.length)]
  have hs:splice (M.map AV.s) W.length [.s L[k0+q+1]]=(M.set W.length L[k0+q+1]).map .s:=by
   simp only [splice,List.length_cons,List.length_nil,←List.map_take,←List.map_drop]
   rw [List.set_eq_take_append_cons_drop,if_pos (by omega)]
   simp
  have hset:M.set W.length L[k0+q+1]=(W++[L[k0+q+1]])++L.drop (W++[L[k0+q+1]]).length:=by
   rw [←hM]
   have h3:L.drop W.length=L[W.length]'(by omega)::L.drop (W.length+1):=List.drop_eq_getElem_cons (by omega)
   rw [h3,List.set_append_right _ _ (Nat.le_refl _),Nat.sub_self,List.set_cons_zero]
   simp
  rw [hset] at hs
  have hwi1:IntKind.i64.wrap (q:Int)=(q:Int):=by rw [w64]<;>omega
  have hwi2:IntKind.i64.wrap ((q:Int)+1+1)=(q:Int)+1+1:=by rw [w64]<;>omega
  have h2i:(q:Int)+1<((L.length - k0:Nat):Int):=by omega
  have h2j:q<L.length - k0:=by omega
  have h00:(0:Int)≤(q:Int)+1:=by omega
  have hWL:W.length<L.length:=by omega
  have hwi3:=wI (i:=W.length) (by omega)
  have hfit:W.length+1≤M.length:=by omega
  clear hct hq hW hg hset
  by_cases hc:L[k0+q+1]=L[k0+q]
  ·rw [if_pos hc,hM] at ih
   simp [dR,h00,hWL,h2,h2i,h2j,hl,hp1,hp2,hwi1,hwi2,hc] at ih ⊢
   exact ih
  ·rw [if_neg hc] at ih
   simp [dR,h00,hWL,h2,h2i,h2j,hl,hp1,hp2,hwi1,hwi2,hwi3,hc,hfit,hlim,hbase] at ih ⊢
   simp [splice] at hs
   rw [hs]
   exact ih
def zU (L:List (List UInt8)):List AV:=(eH L).map AV.s++List.replicate (L.length - (eH L).length) (AV.s [])
theorem P8:∀(d k:Nat),k+1+d=L.length→eH (L.take (k+1))=L.take (k+1)→
  bF (ay P0.glob (aj P0) cx true dS) [0,3]
   [(0,.v (.sk l ver 1 0 L.length)),(3,.v (.i .i64 ((k+1:Nat):Int)))] (s.set l (.buf t 1 ver (L.map .s)))=
   if (eH L).length=L.length then .exit 0 [(0,.v (.sk l ver 1 0 L.length)),(3,.v (.i .i64 L.length)),(13,.v (.b false))] (s.set l (.buf t 1 ver (zU L)))
   else .ret [(2,.v (.sk l ver 1 0 (eH L).length))] (s.set l (.buf t 1 ver (zU L)))
 | 0,k,hd,hc=>by
  have h1:L.take (k+1)=L:=List.take_of_length_le (by omega)
  rw [h1] at hc
  have h2:¬((k:Int)+1<(L.length:Int)):=by omega
  have h3:(k:Int)+1=(L.length:Int):=by omega
  refine ak fun K hK=>?_
  simp [dS,h2,hc,zU]
  exact h3
 | d+1,k,hd,hcm=>by
  have hj:k+1<L.length:=by omega
  have hct:=UL L k hj
  refine ak fun K hK=>?_
  have h2:(k:Int)+1<(L.length:Int):=by omega
  have hp1:L[k+1]?=some L[k+1]:=List.getElem?_eq_getElem hj
  have hp2:L[k]?=some L[k]:=List.getElem?_eq_getElem (by omega)
  have hwi1:IntKind.i64.wrap (k:Int)=(k:Int):=by rw [w64]<;>omega
  have hwi2:IntKind.i64.wrap ((k:Int)+1+1)=(k:Int)+1+1:=by rw [w64]<;>omega
  have h2j:k<L.length:=by omega
  have h00:(0:Int)≤(k:Int)+1:=by omega
  by_cases hc:L[k+1]=L[k]
  ·-- the first repetition: the inner loop
   rw [if_pos hc,hcm] at hct
   have hne:¬(eH L).length=L.length:=by
    intro hel
    have he:eH L=L:=(O8 L).eq_of_length hel
    have h3:(eH (L.take (k+2))).length=k+2:=by
     have h4:∀(a:List UInt8) (x y:List (List UInt8)),mM a (x++y)=x++y→mM a x=x:=by
      intro a x
      induction x generalizing a with
      | nil=>intro y _;rfl
      | cons b x ih=>
       intro y h5
       simp only [List.cons_append,mM] at h5 ⊢
       split at h5
       ·have:=(BI b (x++y)).length_le
        rw [h5] at this;simp at this;omega
       ·rename_i h6
        rw [if_neg h6]
        injection h5 with _ h7
        rw [ih b y h7]
     have h5:eH (L.take (k+2)++L.drop (k+2))=L.take (k+2)++L.drop (k+2):=by rw [List.take_append_drop];exact he
     have h6:eH (L.take (k+2))=L.take (k+2):=by
      cases hx:L.take (k+2) with
      | nil=>rfl
      | cons a x=>
       rw [hx] at h5
       simp only [List.cons_append,eH] at h5 ⊢
       injection h5 with _ h7
       rw [h4 a x _ h7]
     rw [h6];simp;omega
    rw [hct] at h3;simp at h3;omega
   obtain ⟨k2,hin⟩:=P7 L hL s cx l t ver hl hlim hbase (k+1) (by omega) (L.length - (k+2)) 0 (by omega) (by
    show (eH (L.take (k+2))).length≤_
    rw [hct];simp;omega)
   have hk2:eH (L.take (k+1+0+1))=L.take (k+1):=hct
   rw [hk2] at hin
   have htd:L.take (k+1)++L.drop (L.take (k+1)).length=L:=by
    rw [List.length_take,Nat.min_eq_left (by omega)];exact List.take_append_drop _ _
   rw [htd,List.length_take,Nat.min_eq_left (by omega)] at hin
   have hcl:=Zr L
   have hclt:(eH L).length<L.length:=by omega
   rw [if_neg hne]
   obtain ⟨m,hm⟩:∃m,L.length - (eH L).length=m+1:=⟨L.length - (eH L).length - 1,by omega⟩
   have hcells:zU L=(eH L).map AV.s++List.replicate (m+1) (AV.s []):=by rw [zU,hm]
   have hspl:splice ((eH L++L.drop (eH L).length).map AV.s) (eH L).length (List.replicate (m+1) (AV.s []))=zU L:=by
    rw [hcells]
    unfold splice
    rw [List.map_append,List.take_left' (by simp),List.drop_of_length_le (by simp;omega),List.append_nil]
   have hrep:(List.replicate (m+1) [AV.s []]).flatten=List.replicate (m+1) (AV.s []):=by
    generalize m+1=r
    induction r with
    | zero=>rfl
    | succ r ih=>simp [List.replicate_succ,ih]
   have hfit:(eH L).length+(m+1)≤L.length:=by omega
   have hcond:(eH L).length≤L.length:=hcl
   clear hct hcm hk2 htd hcells hne hclt hK
   generalize hX:List.replicate (m+1) (AV.s [])=X at hspl hrep
   simp [dS,h00,h2,h2j,hj,hl,hp1,hp2,hwi1,hc] at hin ⊢
   have hj1:k+1≤L.length:=by omega
   have hfit2:(eH L).length+(m+1)≤(eH L).length+(L.length - (eH L).length):=by omega
   simp [hj1,hin,hl,hcond,hm,hrep,hX,hfit,hfit2,hlim,hbase]
   simp [splice] at hspl
   rw [hspl]
  ·have hct':eH (L.take (k+2))=L.take (k+2):=by
    rw [hct,if_neg hc,hcm];exact (List.take_succ_eq_append_getElem hj).symm
   have ih:=P8 d (k+1) (by omega) hct'
   rw [←hK] at ih
   clear hK hct hct' hcm
   simp [dS,h00,h2,h2j,hj,hl,hp1,hp2,hwi1,hwi2,hc] at ih ⊢
   exact ih
theorem aa0 (m:Nat) (hm:m=L.length) (hs:s[l]?=some (.buf t 1 ver (L.map .s))):
  aj P0 (.fn (.func dN) [] []) [.sk l ver 1 0 m] s cx=.ret (.sk l ver 1 0 (eH L).length) (s.set l (.buf t 1 ver (zU L))):=by
 subst hm
 have hset:s.set l (.buf t 1 ver (L.map .s))=s:=by
  apply List.ext_getElem?
  intro i
  by_cases hi:l=i
  ·subst hi;rw [List.getElem?_set_self hl,hs]
  ·rw [List.getElem?_set_ne hi]
 refine pW (by simp) ?_
 match L,hL with
 | [],_=>
  have h1:zU []=([]:List (List UInt8)).map .s:=by simp [zU,eH]
  rw [h1,hset]
  simp [af,bg,eH]
 | [a],_=>
  have h1:zU [a]=[a].map .s:=by simp [zU,eH,mM]
  rw [h1,hset]
  simp [af,bg,eH,mM]
 | a::b::r,hL=>
  have h:=P8 (a::b::r) hL s ⟨cx.lim,cx.base⟩ l t ver hl hlim hbase r.length.succ 0 (by simp;omega) (by simp [eH,mM])
  rw [hset] at h
  have h2:¬((a::b::r).length:Int)<2:=by simp;omega
  by_cases hc:(eH (a::b::r)).length=(a::b::r).length
  ·rw [if_pos hc] at h
   simp only [Nat.zero_add] at h
   generalize hX:a::b::r=X at *
   simp at h
   simp [af,bg,h2,h,hc]
  ·rw [if_neg hc] at h
   simp only [Nat.zero_add] at h
   generalize hX:a::b::r=X at *
   simp at h
   simp [af,bg,h2,h]
end
end Go.Ai.Z
namespace Go.Ai.Z
def yM (t:List UInt8):List (List UInt8):=if headB 63 t=true then [t] else []
def zX:List At→List (List UInt8)
 | []=>[]
 | a::r=>yM a.x++(yM a.y++zX r)
theorem N7:∀L:List At,(zX L).length≤2 * L.length
 | []=>by simp [zX]
 | a::r=>by
  have:=N7 r
  have h1:∀t,(yM t).length≤1:=fun t=>by unfold yM;split<;>simp
  have h2:=h1 a.x
  have h3:=h1 a.y
  simp only [zX,List.length_append,List.length_cons];omega
def Pm (n:Nat):List (List UInt8)→AV
 | []=>.ns
 | _::r=>.sk n r.length 1 0 (r.length+1)
def NP:List (List UInt8)→St
 | []=>[]
 | a::r=>[.buf au 1 r.length ((a::r).map .s)]
theorem aeP (s:St) (x y:List UInt8) (V:List (List UInt8)) (hV:V.length≤1000000) (A:AV) (n i:Int) (j:Nat) (u:List UInt8) (hu:[x,y][j]?=some u):
  bF (ay P0.glob (aj P0) ⟨s.length,s.length⟩ false bU) [2,8,9,10,18,19]
   [(2,.v (Pm s.length V)),(8,.v A),(9,.v (.i .i64 n)),(10,.v (.i .i64 i)),(18,.v (.ag [.s x,.s y])),(19,.v (.i .i64 (j:Int)))] (s++NP V)=
  bF (ay P0.glob (aj P0) ⟨s.length,s.length⟩ false bU) [2,8,9,10,18,19]
   [(2,.v (Pm s.length (V++yM u))),(8,.v A),(9,.v (.i .i64 n)),(10,.v (.i .i64 i)),(18,.v (.ag [.s x,.s y])),(19,.v (.i .i64 ((j+1:Nat):Int)))] (s++NP (V++yM u)):=by
 refine ak fun K hK=>?_
 rw [←hK]
 clear hK
 have hj:j=0∨j=1:=by
  rcases j with _ | _|j
  ·exact .inl rfl
  ·exact .inr rfl
  ·simp at hu
 have hmx:V.length+1≤aW:=by unfold aW;omega
 have h1m:1≤aW:=by unfold aW;omega
 have hw0:IntKind.i64.wrap 1=1:=by rw [w64]<;>omega
 have hw1:IntKind.i64.wrap 2=2:=by rw [w64]<;>omega
 rcases hj with rfl|rfl
 ·simp at hu
  subst hu
  cases h:headB 63 x
  ·simp [bU,h,yM,hw0]
  ·cases V with
   | nil=>simp [bU,h,yM,hw0,Pm,NP,h1m]
   | cons v r=>
    simp at hmx
    have htk:List.take r.length (r.map AV.s)=r.map AV.s:=List.take_of_length_le (by simp)
    simp [bU,h,yM,hw0,Pm,NP,hmx,htk]
 ·simp at hu
  subst hu
  cases h:headB 63 y
  ·simp [bU,h,yM,hw1]
  ·cases V with
   | nil=>simp [bU,h,yM,hw1,Pm,NP,h1m]
   | cons v r=>
    simp at hmx
    have htk:List.take r.length (r.map AV.s)=r.map AV.s:=List.take_of_length_le (by simp)
    simp [bU,h,yM,hw1,Pm,NP,hmx,htk]
theorem aij (s:St) (x y:List UInt8) (V:List (List UInt8)) (hV:V.length≤999999) (A:AV) (n i:Int):
  bF (ay P0.glob (aj P0) ⟨s.length,s.length⟩ false bU) [2,8,9,10,18,19]
   [(2,.v (Pm s.length V)),(8,.v A),(9,.v (.i .i64 n)),(10,.v (.i .i64 i)),(18,.v (.ag [.s x,.s y])),(19,.v (.i .i64 0))] (s++NP V)=
  .exit 2 [(2,.v (Pm s.length (V++(yM x++yM y)))),(8,.v A),(9,.v (.i .i64 n)),(10,.v (.i .i64 i)),(18,.v (.ag [.s x,.s y])),(19,.v (.i .i64 2)),(20,.v (.b false))] (s++NP (V++(yM x++yM y))):=by
 have h1:∀t,(yM t).length≤1:=fun t=>by unfold yM;split<;>simp
 have e1:=aeP s x y V (by omega) A n i 0 x rfl
 have e2:=aeP s x y (V++yM x) (by have:=h1 x;simp;omega) A n i 1 y rfl
 rw [show (((0:Nat):Int))=0 from rfl] at e1
 rw [e1,show ((0+1:Nat):Int)=((1:Nat):Int) from rfl,e2,List.append_assoc]
 refine ak fun K hK=>?_
 simp [bU]
theorem aeQ (s:St) (L:List At) (hL:L.length≤100000):∀(rest:List At) (k:Nat) (V:List (List UInt8)),L.drop k=rest→k≤L.length→V.length+2 * rest.length≤300000→
  bF (ay P0.glob (aj P0) ⟨s.length,s.length⟩ false iQ) [2,8,9,10]
   [(2,.v (Pm s.length V)),(8,.v (.sl (L.map bG))),(9,.v (.i .i64 L.length)),(10,.v (.i .i64 k))] (s++NP V)=
  .exit 0 [(2,.v (Pm s.length (V++zX rest))),(8,.v (.sl (L.map bG))),(9,.v (.i .i64 L.length)),(10,.v (.i .i64 (L.length:Int))),(11,.v (.b false))] (s++NP (V++zX rest))
 | [],k,V,h,hk,_=>by
  have h1:¬k<L.length:=Nat.not_lt.2 (drop_nil h)
  have h2:k=L.length:=by omega
  refine ak fun K hK=>?_
  simp [iQ,h2,zX]
 | p::r,k,V,h,hk,hV=>by
  obtain ⟨h1,h2,h3,h4⟩:=drop_cons h
  have h5:=h4 h3
  have hw:=wI (i:=k) (by omega)
  have hone:∀t,(yM t).length≤1:=fun t=>by unfold yM;split<;>simp
  have ih:=aeQ s L hL r (k+1) (V++(yM p.x++yM p.y)) h2 (by omega) (by have:=hone p.x;have:=hone p.y;simp at hV ⊢;omega)
  have e2:=aij s p.x p.y V (by simp at hV;omega) (.sl (L.map bG)) L.length k
  refine ak fun K hK=>?_
  rw [←hK,show ((k+1:Nat):Int)=(k:Int)+1 from rfl] at ih
  clear hK
  have hva:zX (p::r)=yM p.x++(yM p.y++zX r):=rfl
  rw [hva]
  simp only [List.append_assoc] at ih e2 ⊢
  simp [iQ,h3,h5,hw,bG,iI,splice,e2,ih]
theorem aaY (V:List (List UInt8)) (hV:V.length≤300000) (s:St) (cx:Ctx) (l t ver:Nat) (hs:s[l]?=some (.buf t 1 ver (V.map .s))) (hlim:cx.lim≤l) (hbase:cx.base≤l):
  aj P0 (.fn (.func jv) [] []) [.sk l ver 1 0 V.length] s cx=.ret (.tu []) (s.set l (.buf t 1 ver ((Go.Ai.sortStr V).map .s))):=by
 refine Eo (A:=P0) (k:=.sortS) rfl rfl (by simp) ?_
 cases V with
 | nil=>
  have hset:s.set l (.buf t 1 ver (([]:List (List UInt8)).map .s))=s:=by
   apply List.ext_getElem?
   intro i
   by_cases hi:l=i
   ·subst hi;rw [List.getElem?_set_self (List.getElem?_eq_some_iff.1 hs).1,hs]
   ·rw [List.getElem?_set_ne hi]
  simp only [Go.Ai.sortStr]
  rw [hset]
  simp [jy]
 | cons a r=>
  have hm:∀l:List (List UInt8),(l.map AV.s).mapM strOf=some l:=by
   intro l
   induction l with
   | nil=>rfl
   | cons x l ih=>simp only [List.map_cons,List.mapM_cons,ih,strOf];rfl
  have hlen:(Go.Ai.sortStr (a::r)).length=r.length+1:=(oI (a::r)).length_eq
  have hcond:ver=ver∧(1:Nat)=1∧(1:Nat)=1∧0+(r.length+1)≤((a::r).map AV.s).length∧r.length<aW∧cx.lim≤l∧cx.base≤l:=
   ⟨rfl,rfl,rfl,by simp,by unfold aW;simp at hV;omega,hlim,hbase⟩
  have htk:(((a::r).map AV.s).drop 0).take (r.length+1)=(a::r).map AV.s:=by rw [List.drop_zero,List.take_of_length_le (by simp)]
  have hsp:splice ((a::r).map AV.s) 0 ((Go.Ai.sortStr (a::r)).map AV.s)=(Go.Ai.sortStr (a::r)).map AV.s:=by
   unfold splice
   rw [List.take_zero,List.nil_append,List.drop_of_length_le (by simp [hlen]),List.append_nil]
  show jy (aj P0) (aj P0.quiet) .sortS [.sk l ver 1 0 (r.length+1)] s cx=_
  unfold jy
  dsimp only
  rw [hs]
  dsimp only
  rw [if_pos hcond,htk,hm]
  dsimp only
  rw [hsp]
theorem XK {s:St} {t ver:Nat} (M:List (List UInt8)) (hM:M≠[]) (Z:List AV):frz (s++[.buf t 1 ver (M.map .s++Z)]) s.length (.sk s.length ver 1 0 M.length)=some (.sl (M.map .s)):=by
 have h1:(AV.sk s.length ver 1 0 M.length).under s.length=false:=by simp [AV.under]
 have ht:(M.map AV.s++Z).take (M.length * 1)=M.map AV.s:=by rw [Nat.mul_one,List.take_left' (by simp)]
 have hm:(M.map AV.s).mapM (rQ (s++[.buf t 1 ver (M.map .s++Z)]) s.length 5)=some (M.map AV.s):=TU fun a ha=>abN (by
  obtain ⟨x,_,rfl⟩:=List.mem_map.1 ha;simp)
 have ho:(M.map AV.s).all AV.one=true:=List.all_eq_true.2 fun a ha=>by obtain ⟨x,_,rfl⟩:=List.mem_map.1 ha;rfl
 have hc:∀N:List (List UInt8),chunk 1 N.length (N.map AV.s)=N.map .s:=by
  intro N
  induction N with
  | nil=>rfl
  | cons x N ih=>simp only [List.length_cons,List.map_cons,chunk,if_true,List.drop_succ_cons,List.drop_zero,ih];rfl
 rw [frz,if_neg (by rw [h1];exact Bool.false_ne_true),rQ,if_neg (by rw [h1];exact Bool.false_ne_true)]
 simp only [List.getElem?_append_right (Nat.le_refl _),Nat.sub_self,List.getElem?_cons_zero]
 rw [if_pos (by simp),List.drop_zero,ht,hm]
 show (if _ then _ else _)=_
 rw [if_pos ⟨by omega,ho⟩,hc]
def vrs (L:List At):List (List UInt8):=eH (Go.Ai.sortStr (zX L))
theorem Kw (s:St) (cx:Ctx):aj P0 (.fn (.func dN) [] []) [.ns] s cx=.ret .ns s:=by
 refine pW (by simp) ?_
 simp [af,bg]
theorem Kv (s:St) (cx:Ctx):aj P0 (.fn (.func jv) [] []) [.ns] s cx=.ret (.tu []) s:=
 Eo (A:=P0) (k:=.sortS) rfl rfl (by simp) (by simp [jy])
theorem ZA (z:Bool) (L:List At) (hL:L.length≤40000) (s:St) (cx:Ctx):aj P0 (.fn (.func jG) [] []) [agF z L] s cx=.ret (slf true ((vrs L).map .s)) s:=by
 have key:∀V:List (List UInt8),V.length≤300000→V≠[]→∃Z,zU (Go.Ai.sortStr V)=(eH (Go.Ai.sortStr V)).map AV.s++Z∧eH (Go.Ai.sortStr V)≠[]:=by
  intro V _ h0
  refine ⟨_,rfl, ?_⟩
  cases hS:Go.Ai.sortStr V with
  | nil=>have:=(oI V).length_eq;rw [hS] at this;exact absurd (List.eq_nil_of_length_eq_zero this.symm) h0
  | cons a r=>simp [eH]
 match L,hL with
 | [],_=>
  have h0:slf true ((vrs []).map AV.s)=.ns:=rfl
  rw [h0]
  have hl:bF (ay P0.glob (aj P0) ⟨s.length,s.length⟩ false iQ) [2,8,9,10] [(2,.v .ns),(8,.v (rowA z [])),(9,.v (.i .i64 0)),(10,.v (.i .i64 0))] s=
    .exit 0 [(2,.v .ns),(8,.v (rowA z [])),(9,.v (.i .i64 0)),(10,.v (.i .i64 0)),(11,.v (.b false))] s:=by
   refine ak fun K hK=>?_
   simp [iQ]
  refine wG (by simp) ?_
  cases z<;>simp [rowA] at hl<;>simp [af,kH,agF,rowA,hl,Kv,Kw,AV.one]
 | a::q,hL=>
  have hl:=aeQ s (a::q) (by omega) (a::q) 0 [] rfl (by simp) (by simp at hL ⊢;omega)
  rw [show (((0:Nat):Int))=0 from rfl,List.nil_append,show Pm s.length []=.ns from rfl,show s++NP []=s from by simp [NP]] at hl
  have hvl:=N7 (a::q)
  generalize hX:a::q=X at *
  have hX0:X≠[]:=by rw [←hX];simp
  have hrow:rowA z X=.sl (X.map bG):=by rw [←hX];rfl
  cases hV:zX X with
  | nil=>
   rw [hV] at hl
   have h0:slf true ((vrs X).map AV.s)=.ns:=by unfold vrs;rw [hV];rfl
   rw [h0]
   simp [Pm,NP] at hl
   refine wG (by simp) ?_
   simp [af,kH,agF,hrow,hl,Kv,Kw]
  | cons v r=>
   rw [hV] at hl hvl
   simp only [Pm,NP] at hl
   have hvl':(v::r).length≤300000:=by omega
   have hSl:(Go.Ai.sortStr (v::r)).length=(v::r).length:=(oI (v::r)).length_eq
   obtain ⟨Z,hZ,hne⟩:=key (v::r) hvl' (by simp)
   have e2:=aaY (v::r) hvl' (s++[.buf au 1 r.length ((v::r).map .s)]) ⟨s.length,s.length⟩ s.length au r.length (by simp) (Nat.le_refl _) (Nat.le_refl _)
   have e3:=aa0 (Go.Ai.sortStr (v::r)) (by omega) (s++[.buf au 1 r.length ((Go.Ai.sortStr (v::r)).map .s)]) ⟨s.length,s.length⟩ s.length au r.length (by simp) (Nat.le_refl _) (Nat.le_refl _) (v::r).length hSl.symm (by simp)
   rw [hZ] at e3
   have hset:∀x y:dJ,(s++[x]).set s.length y=s++[y]:=fun x y=>by simp
   rw [hset] at e2 e3
   have hfz:=XK (s:=s) (t:=au) (ver:=r.length) (eH (Go.Ai.sortStr (v::r))) hne Z
   have h0:slf true ((vrs X).map AV.s)=.sl ((eH (Go.Ai.sortStr (v::r))).map AV.s):=by
    unfold vrs
    rw [hV]
    cases hc:eH (Go.Ai.sortStr (v::r)) with
    | nil=>exact absurd hc hne
    | cons x y=>simp
   rw [h0]
   generalize eH (Go.Ai.sortStr (v::r))=C at *
   generalize Go.Ai.sortStr (v::r)=S1 at *
   simp only [List.length_cons] at e2 e3
   simp only [List.map_cons] at hl e2
   refine wG (by simp) ?_
   simp [af,kH,agF,hrow,hl,e2,e3,hfz]
end Go.Ai.Z
namespace Go.Ai.Z
@[simp] theorem ah4 (z:Bool) (L:List At):(rowA z L).plain=rowA z L:=by cases L<;>cases z<;>rfl
@[simp] theorem ahh (z:Bool) (L:List At):(rowA z L).plain1=rowA z L:=by cases L<;>cases z<;>rfl
@[simp] theorem akE (z:Bool) (L:List At):(rowA z L).one=true:=by cases L<;>cases z<;>rfl
@[simp] theorem aiv (z:Bool) (L:List At):(rowA z L).cells=[rowA z L]:=by cases L<;>cases z<;>rfl
@[simp] theorem ahq (z:Bool) (L:List At) (env:Env):vz env (some (.v (rowA z L)))=some (L.map bG):=by cases L<;>cases z<;>rfl
theorem DK {z:Bool} {L:List At} (h:L≠[]):rowA z L=.sl (L.map bG):=by
 cases L with
 | nil=>exact absurd rfl h
 | cons a r=>rfl
def encPt (p:Bool×List At):AV:=.ag [rowA p.1 p.2]
@[simp] theorem ahv (p:Bool×List At):(encPt p).cells=[rowA p.1 p.2]:=rfl
@[simp] theorem ahg (p:Bool×List At):(encPt p).plain=encPt p:=by
 obtain ⟨z,L⟩:=p
 cases L<;>cases z<;>rfl
theorem NH (p:Bool×List At) (hL:p.2.length≤40000) (s:St) (cx:Ctx):aj P0 (.fn (.func jG) [] []) [.ag [rowA p.1 p.2]] s cx=.ret (slf true ((vrs p.2).map .s)) s:=ZA p.1 p.2 hL s cx
theorem YW (l:List (List UInt8)) (x:List UInt8) (hl:l.length≤1000000) (v:AV) (hv:v=.sl (l.map .s)∨(v=.ns∧l=[])) (s:St) (cx:Ctx):
  ∀(rest:List (List UInt8)) (i:Nat),l.drop i=rest→
  ∃j:Nat,bF (ay P0.glob (aj P0) cx false eP) [0,1,7,8] [(0,.v v),(1,.v (.s x)),(7,.v (.i .i64 l.length)),(8,.v (.i .i64 i))] s=
   if x∈rest then .ret [(4,.v (.i .i64 (j:Int)))] s else .exit 0 [(0,.v v),(1,.v (.s x)),(7,.v (.i .i64 l.length)),(8,.v (.i .i64 (j:Int))),(9,.v (.b false))] s
 | [],i,h=>by
  have h1:¬i<l.length:=Nat.not_lt.2 (drop_nil h)
  refine ⟨i,ak fun K hK=>?_⟩
  simp [eP,h1]
 | p::r,i,h=>by
  obtain ⟨h1,h2,h3,h4⟩:=drop_cons h
  have h5:=h4 h3
  have hw:=wI (i:=i) (by omega)
  have hv':v=.sl (l.map .s):=by
   rcases hv with h|⟨_,h⟩
   ·exact h
   ·subst h;simp at h3
  subst hv'
  by_cases hp:p=x
  ·refine ⟨i,ak fun K hK=>?_⟩
   clear h4
   simp [eP,h3,h5,hw,hp]
  ·obtain ⟨j,ih⟩:=YW l x hl _ (.inl rfl) s cx r (i+1) h2
   have hp':¬x=p:=fun h=>hp h.symm
   refine ⟨j,ak fun K hK=>?_⟩
   rw [←hK,show ((i+1:Nat):Int)=(i:Int)+1 from rfl] at ih
   clear hK h4
   try simp at ih
   simp [eP,h3,h5,hw,hp,hp',ih]
theorem IV (l:List (List UInt8)) (x:List UInt8) (hl:l.length≤1000000) (v:AV) (hv:v=.sl (l.map .s)∨(v=.ns∧l=[])) (s:St) (cx:Ctx):
  aj P0 (.fn (.func bP) [] []) [v,.s x] s cx=.ret (.b (decide (x∈l))) s:=by
 have key:∃n:Int,(0≤n ↔ x∈l)∧∀cx,aj P0 (.fn (.func fQ) [] []) [v,.s x] s cx=.ret (.i .i64 n) s:=by
  obtain ⟨j,h⟩:=YW l x hl v hv s ⟨s.length,s.length⟩ l 0 rfl
  have hlen:vz [(6,.v v),(0,.v v),(1,.v (.s x))] (some (.v v))=some (l.map .s):=by
   rcases hv with h|⟨h,h'⟩
   ·subst h;rfl
   ·subst h h';rfl
  rw [show ((0:Nat):Int)=0 from rfl] at h
  by_cases hx:x∈l
  ·rw [if_pos hx] at h
   refine ⟨j,by simp [hx],fun cx=>qQ (by simp) ?_⟩
   rcases hv with h' | ⟨h',h''⟩
   ·subst h'
    try simp at h
    simp [af,dV,h]
   ·subst h'';cases hx
  ·rw [if_neg hx] at h
   refine ⟨-1,by simp [hx],fun cx=>qQ (by simp) ?_⟩
   rcases hv with h' | ⟨h',h''⟩
   ·subst h'
    try simp at h
    simp [af,dV,h]
   ·subst h' h''
    try simp at h
    simp [af,dV,h]
 obtain ⟨n,hn,h⟩:=key
 refine xM (by simp) ?_
 have hd:decide (x∈l)=decide (0≤n):=by by_cases hx:x∈l<;>simp [hx,hn]
 rw [hd]
 rcases hv with h' | ⟨h',h''⟩
 ·subst h'
  simp [af,eU,h]
 ·subst h'
  simp [af,eU,h]
theorem EF (z:Bool) (l:List (List UInt8)):slf z (l.map AV.s)=.sl (l.map .s)∨(slf z (l.map AV.s)=.ns∧l=[]):=by
 cases z with
 | false=>exact .inl (by simp)
 | true=>cases l with
  | nil=>exact .inr ⟨rfl,rfl⟩
  | cons a r=>exact .inl (by simp)
def xQ (zt:Bool) (T:List (List UInt8)) (zp:Bool) (ps:List (Bool×List At)):AV:=.ag [slf zt (T.map .s),slf zp (ps.map encPt)]
def shE (T:List (List UInt8)) (ps:List (Bool×List At)):Int:=
 if ps.length<1∨4<ps.length∨3<T.length then 210 else if ps.all (fun p=>decide (1≤p.2.length) && decide (p.2.length≤12))=true then 0 else 210
theorem MK (zp:Bool) (ps:List (Bool×List At)) (hl:ps.length≤1000000) (hb:∀p∈ps,p.2.length≤1125899906842624) (s:St) (cx:Ctx):
  ∀(rest:List (Bool×List At)) (i:Nat),ps.drop i=rest→
  ∃j:Int,bF (ay P0.glob (aj P0) cx false iE) [22,23,24] [(22,.v (slf zp (ps.map encPt))),(23,.v (.i .i64 ps.length)),(24,.v (.i .i64 i))] s=
   if rest.all (fun p=>decide (1≤p.2.length) && decide (p.2.length≤12))=true then .exit 0 [(22,.v (slf zp (ps.map encPt))),(23,.v (.i .i64 ps.length)),(24,.v (.i .i64 j)),(25,.v (.b false))] s else .ret [(2,.v (.i .i64 210))] s
 | [],i,h=>by
  have h1:¬i<ps.length:=Nat.not_lt.2 (drop_nil h)
  refine ⟨i,ak fun K hK=>?_⟩
  simp [iE,h1]
 | p::r,i,h=>by
  obtain ⟨h1,h2,h3,h4⟩:=drop_cons h
  have h5:=h4 h3
  have hp:=hb p (by rw [←h5];exact List.getElem_mem h3)
  have hw:=wI (i:=i) (by omega)
  obtain ⟨j,ih⟩:=MK zp ps hl hb s cx r (i+1) h2
  refine ⟨j,ak fun K hK=>?_⟩
  rw [←hK,show ((i+1:Nat):Int)=(i:Int)+1 from rfl] at ih
  clear hK h4
  have b1:(1:Nat)≤p.2.length ↔ ¬((p.2.length:Nat):Int)<1:=by omega
  have b2:p.2.length≤12 ↔ ¬(12:Int)<((p.2.length:Nat):Int):=by omega
  by_cases c1:((p.2.length:Nat):Int)<1
  ·have hz:(decide (1≤p.2.length) && decide (p.2.length≤12))=false:=by simp [b1,c1]
   simp only [List.all_cons,hz,Bool.false_and]
   simp [iE,h3,h5,hw,c1,splice]
  ·by_cases c2:(12:Int)<((p.2.length:Nat):Int)
   ·have hz:(decide (1≤p.2.length) && decide (p.2.length≤12))=false:=by simp [b2,c2]
    simp only [List.all_cons,hz,Bool.false_and]
    simp [iE,h3,h5,hw,c1,c2,splice]
   ·have hz:(decide (1≤p.2.length) && decide (p.2.length≤12))=true:=by simp only [b1,b2,c1,c2];rfl
    simp only [List.all_cons,hz,Bool.true_and]
    rw [←ih]
    simp [iE,h3,h5,hw,c1,c2,splice]
theorem X6 (zt:Bool) (T:List (List UInt8)) (zp:Bool) (ps:List (Bool×List At)) (hT:T.length≤1125899906842624) (hl:ps.length≤1125899906842624) (hb:∀p∈ps,p.2.length≤1125899906842624) (s:St) (cx:Ctx):
  aj P0 (.fn (.func nR) [] []) [xQ zt T zp ps] s cx=.ret (.i .i64 (shE T ps)) s:=by
 refine JS (by simp) ?_
 unfold shE xQ
 by_cases c1:ps.length<1
 ·have c1':(ps.length:Int)<1:=by omega
  simp [af,gm,c1,c1']
 by_cases c2:4<ps.length
 ·have c1':¬(ps.length:Int)<1:=by omega
  have c2':(4:Int)<ps.length:=by omega
  simp [af,gm,c1,c1',c2,c2']
 by_cases c3:3<T.length
 ·have c1':¬(ps.length:Int)<1:=by omega
  have c2':¬(4:Int)<ps.length:=by omega
  have c3':(3:Int)<T.length:=by omega
  simp [af,gm,c1,c1',c2,c2',c3,c3']
 have c1':¬(ps.length:Int)<1:=by omega
 have c2':¬(4:Int)<ps.length:=by omega
 have c3':¬(3:Int)<T.length:=by omega
 obtain ⟨j,h⟩:=MK zp ps (by omega) hb s ⟨s.length,s.length⟩ ps 0 rfl
 rw [show ((0:Nat):Int)=0 from rfl] at h
 by_cases c4:ps.all (fun p=>decide (1≤p.2.length) && decide (p.2.length≤12))=true
 ·rw [if_pos c4] at h
  rw [if_neg (by omega),if_pos c4]
  simp [af,gm,c1',c2',c3',h]
 ·rw [if_neg c4] at h
  rw [if_neg (by omega),if_neg c4]
  simp [af,gm,c1',c2',c3',h]
end Go.Ai.Z
namespace Go.Ai.Z
theorem afT (L:List At):(vrs L).length≤2 * L.length:=by
 have h1:=Zr (Go.Ai.sortStr (zX L))
 have h2:=(oI (zX L)).length_eq
 have h3:=N7 L
 unfold vrs;omega
section
variable (zt:Bool) (T:List (List UInt8)) (hT:T.length≤1000) (zp:Bool) (ps:List (Bool×List At)) (hl:ps.length≤1000) (hb:∀p∈ps,p.2.length≤1000) (s:St) (cx:Ctx)
include hT
theorem abB:∀(rest:List (List UInt8)) (i:Nat),T.drop i=rest→
  ∃j:Int,bF (ay P0.glob (aj P0) cx false kC) [1,10,11,12]
   [(1,.bx [slf zt (T.map .s),slf zp (ps.map encPt)]),(10,.v (slf zt (T.map .s))),(11,.v (.i .i64 T.length)),(12,.v (.i .i64 i))] s=
   if rest.all yE=true then .exit 0 [(1,.bx [slf zt (T.map .s),slf zp (ps.map encPt)]),(10,.v (slf zt (T.map .s))),(11,.v (.i .i64 T.length)),(12,.v (.i .i64 j)),(13,.v (.b false))] s else .ret [(2,.v (.i .i64 20))] s
 | [],i,h=>by
  have h1:¬i<T.length:=Nat.not_lt.2 (drop_nil h)
  refine ⟨i,ak fun K hK=>?_⟩
  simp [kC,h1]
 | p::r,i,h=>by
  obtain ⟨h1,h2,h3,h4⟩:=drop_cons h
  have h5:=h4 h3
  have hw:=wI (i:=i) (by omega)
  have e1:=BN p
  obtain ⟨j,ih⟩:=abB r (i+1) h2
  refine ⟨j,ak fun K hK=>?_⟩
  rw [←hK,show ((i+1:Nat):Int)=(i:Int)+1 from rfl] at ih
  clear hK h4
  cases hv:yE p
  ·rw [hv] at e1
   simp only [List.all_cons,hv,Bool.false_and]
   simp [kC,h3,h5,hw,e1]
  ·rw [hv] at e1
   simp only [List.all_cons,hv,Bool.true_and]
   rw [←ih]
   simp [kC,h3,h5,hw,e1]
omit hT
include hl hb
theorem abz (t:List UInt8) (rs:AV) (n i0:Int):∀(rest:List (Bool×List At)) (i:Nat),ps.drop i=rest→
  ∃j:Int,bF (ay P0.glob (aj P0) cx false kz) [1,6,21,22,23,35,36,37]
   [(1,.bx [slf zt (T.map .s),slf zp (ps.map encPt)]),(6,.v (.s t)),(21,.v rs),(22,.v (.i .i64 n)),(23,.v (.i .i64 i0)),(35,.v (slf zp (ps.map encPt))),(36,.v (.i .i64 ps.length)),(37,.v (.i .i64 i))] s=
   if rest.all (fun p=>decide (t∈vrs p.2))=true then .exit 4 [(1,.bx [slf zt (T.map .s),slf zp (ps.map encPt)]),(6,.v (.s t)),(21,.v rs),(22,.v (.i .i64 n)),(23,.v (.i .i64 i0)),(35,.v (slf zp (ps.map encPt))),(36,.v (.i .i64 ps.length)),(37,.v (.i .i64 j)),(38,.v (.b false))] s
   else .ret [(2,.v (.i .i64 210))] s
 | [],i,h=>by
  have h1:¬i<ps.length:=Nat.not_lt.2 (drop_nil h)
  refine ⟨i,ak fun K hK=>?_⟩
  simp [kz,h1]
 | p::r,i,h=>by
  obtain ⟨h1,h2,h3,h4⟩:=drop_cons h
  have h5:=h4 h3
  have hp:=hb p (by rw [←h5];exact List.getElem_mem h3)
  have hw:=wI (i:=i) (by omega)
  have e1:=NH p (by omega)
  have hlen:=afT p.2
  have e2:=IV (vrs p.2) t (by omega) _ (EF true (vrs p.2))
  obtain ⟨j,ih⟩:=abz t rs n i0 r (i+1) h2
  refine ⟨j,ak fun K hK=>?_⟩
  rw [←hK,show ((i+1:Nat):Int)=(i:Int)+1 from rfl] at ih
  clear hK h4
  by_cases hv:t∈vrs p.2
  ·rw [decide_eq_true hv] at e2
   simp only [List.all_cons,decide_eq_true hv,Bool.true_and]
   rw [←ih]
   simp [kz,h3,h5,hw,e1,e2,splice]
  ·rw [decide_eq_false hv] at e2
   simp only [List.all_cons,decide_eq_false hv,Bool.false_and]
   simp [kz,h3,h5,hw,e1,e2,splice]
omit hl hb
def tdB (ps:List (Bool×List At)):List (List UInt8)→List (List UInt8)→Bool
 | _,[]=>true
 | seen,t::r=>(!decide (t∈seen) && ps.all (fun p=>decide (t∈vrs p.2))) && tdB ps (seen++[t]) r
include hT hl hb
theorem abA:∀(rest:List (List UInt8)) (i:Nat),T.drop i=rest→
  ∃j:Int,bF (ay P0.glob (aj P0) cx false iO) [1,21,22,23]
   [(1,.bx [slf zt (T.map .s),slf zp (ps.map encPt)]),(21,.v (slf zt (T.map .s))),(22,.v (.i .i64 T.length)),(23,.v (.i .i64 i))] s=
   if tdB ps (T.take i) rest=true then .exit 2 [(1,.bx [slf zt (T.map .s),slf zp (ps.map encPt)]),(21,.v (slf zt (T.map .s))),(22,.v (.i .i64 T.length)),(23,.v (.i .i64 j)),(24,.v (.b false))] s else .ret [(2,.v (.i .i64 210))] s
 | [],i,h=>by
  have h1:¬i<T.length:=Nat.not_lt.2 (drop_nil h)
  refine ⟨i,ak fun K hK=>?_⟩
  simp [iO,h1,tdB]
 | p::r,i,h=>by
  obtain ⟨h1,h2,h3,h4⟩:=drop_cons h
  have h5:=h4 h3
  have hw:=wI (i:=i) (by omega)
  have hrow:slf zt (T.map AV.s)=.sl (T.map .s):=by
   rcases EF zt T with h|⟨_,h⟩
   ·exact h
   ·subst h;simp at h3
  have e2:=IV (T.take i) p (by simp;omega) _ (.inl rfl)
  have ht:T.take (i+1)=T.take i++[p]:=by rw [List.take_succ_eq_append_getElem h3,h5]
  obtain ⟨j,ih⟩:=abA r (i+1) h2
  obtain ⟨j2,h6⟩:=abz zt T zp ps hl hb s cx p (.sl (T.map .s)) T.length i ps 0 rfl
  rw [ht] at ih
  rw [hrow] at ih h6 ⊢
  refine ⟨j,ak fun K hK=>?_⟩
  rw [←hK,show ((i+1:Nat):Int)=(i:Int)+1 from rfl] at ih
  rw [show ((0:Nat):Int)=0 from rfl] at h6
  clear hK h4
  have hile:i≤T.length:=by omega
  unfold tdB
  by_cases hm:p∈T.take i
  ·rw [decide_eq_true hm] at e2 ⊢
   simp only [Bool.not_true,Bool.false_and]
   rw [List.map_take] at e2
   simp [iO,h3,h5,hw,e2,hile]
  ·rw [decide_eq_false hm] at e2 ⊢
   simp only [Bool.not_false,Bool.true_and]
   rw [List.map_take] at e2
   by_cases hv:(ps.all fun q=>decide (p∈vrs q.2))=true
   ·rw [if_pos hv] at h6
    rw [hv,Bool.true_and,←ih]
    simp [iO,h3,h5,hw,e2,hile,h6]
   ·rw [if_neg hv] at h6
    rw [Bool.not_eq_true] at hv
    rw [hv,Bool.false_and]
    simp [iO,h3,h5,hw,e2,hile,h6]
def tdE (T:List (List UInt8)) (ps:List (Bool×List At)):Int:=if T.all yE=true then (if tdB ps [] T=true then 0 else 210) else 20
theorem Zz:aj P0 (.fn (.func pz) [] []) [xQ zt T zp ps] s cx=.ret (.i .i64 (tdE T ps)) s:=by
 obtain ⟨j,h1⟩:=abB zt T hT zp ps s ⟨s.length,s.length⟩ T 0 rfl
 obtain ⟨j2,h2⟩:=abA zt T hT zp ps hl hb s ⟨s.length,s.length⟩ T 0 rfl
 rw [show ((0:Nat):Int)=0 from rfl] at h1 h2
 rw [List.take_zero] at h2
 refine Ld (by simp) ?_
 unfold tdE xQ
 by_cases c1:T.all yE=true
 ·rw [if_pos c1] at h1 ⊢
  by_cases c2:tdB ps [] T=true
  ·rw [if_pos c2] at h2 ⊢
   simp [af,kG,h1,h2]
  ·rw [if_neg c2] at h2 ⊢
   simp [af,kG,h1,h2]
 ·rw [if_neg c1] at h1 ⊢
  simp [af,kG,h1]
end
end Go.Ai.Z
