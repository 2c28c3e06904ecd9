/-
 slices.Compact of atoms: written by program out of T3.
-/
import Derived.Test.YtalbhlfigmlddaaGreatDoorAiQA1QA0QA2
set_option maxRecDepth 100000
set_option linter.unusedSimpArgs false
set_option linter.unusedVariables false
set_option linter.unusedSectionVars false
namespace Go.Ai.Z
@[simp] theorem VU {env:Env} {l ver sz o n:Nat}:sF env (some (.v (.sk l ver sz o n)))=none:=rfl
theorem Oi (a b:At):mg [0,1,1,1,0,0] [.i .i64 a.kind,.s a.name,.s a.x,.s a.y,.i .i64 a.lo,.i .i64 a.hi] [.i .i64 b.kind,.s b.name,.s b.x,.s b.y,.i .i64 b.lo,.i .i64 b.hi]=some (decide (fP a b=0)):=by
 have h:decide (fP a b=0)=decide (a=b):=by simp only [oH]
 rw [h]
 obtain ⟨k,n,x,y,lo,hi⟩:=a
 obtain ⟨k',n',x',y',lo',hi'⟩:=b
 simp [mg,Bool.decide_and]
section
variable (L:List At) (hL:L.length≤100000) (s:St) (cx:Ctx) (l t ver:Nat) (z:List AV) (hl:l<s.length) (hlim:cx.lim≤l) (hbase:cx.base≤l)
include hL hl hlim hbase
theorem Io (k0:Nat) (hk0:1≤k0):∀(d q:Nat),k0+q+1+d=L.length→(bI (L.take (k0+q+1))).length≤k0+q→
  ∃k2:Int,rQ (aA P0.glob (aH P0) cx true bg) [0,3,4,5]
   [(0,.v (.sk l ver 6 0 L.length)),(3,.v (.i .i64 (bI (L.take (k0+q+1))).length)),(4,.v (.sk l ver 6 (k0 * 6) (L.length - k0))),(5,.v (.i .i64 ((q+1:Nat):Int)))]
   (s.set l (.buf t 6 ver (flA (bI (L.take (k0+q+1))++L.drop (bI (L.take (k0+q+1))).length)++z)))=
   .exit 2 [(0,.v (.sk l ver 6 0 L.length)),(3,.v (.i .i64 (bI L).length)),(4,.v (.sk l ver 6 (k0 * 6) (L.length - k0))),(5,.v (.i .i64 k2)),(32,.v (.b false))]
   (s.set l (.buf t 6 ver (flA (bI L++L.drop (bI L).length)++z)))
 | 0,q,hd,hq=>by
  have h1:L.take (k0+q+1)=L:=List.take_of_length_le (by omega)
  have h2:¬(q+1<L.length - k0):=by omega
  refine ⟨((q+1:Nat):Int),gG fun K hK=>?_⟩
  rw [h1]
  simp [aK,Oi,bg,h2]
  repeat' (first | (split<;>(try simp only [lY,lZ,mr,sW,sZ])<;>(try simp [*])) | (simp only [lY,lZ,mr,sW,sZ]<;>(try simp [*]))|omega)
 | d+1,q,hd,hq=>by
  have hj:k0+q+1<L.length:=by omega
  have hct:=IQ L (k0+q) hj
  obtain ⟨k2,ih⟩:=Io k0 hk0 d (q+1) (by omega) (by
   rw [show k0+(q+1)+1=k0+q+2 by omega,hct]
   split
   ·omega
   ·simp;omega)
  refine ⟨k2,gG fun K hK=>?_⟩
  rw [←hK] at ih
  clear hK
  have hwl:=hq
  rw [show k0+(q+1)+1=k0+q+2 by omega,hct] at ih
  generalize hW:bI (L.take (k0+q+1))=W at ih hwl
  have h2:q+1<L.length - k0:=by omega
  generalize hM:W++L.drop W.length=M
  have hMl:M.length=L.length:=by rw [←hM];simp;omega
  have hg:∀i,W.length≤i→i<L.length→M[i]?=L[i]?:=by
   intro i h3 h4
   rw [←hM,List.getElem?_append_right h3,List.getElem?_drop];congr 1;omega
  have hp1:AV.ag (((flA M++z).drop (k0 * 6+(q+1) * 6)).take 6)=aK L[k0+q+1]:=by
   have h3:k0+q+1<M.length:=by omega
   have h5:=hg (k0+q+1) (by omega) hj
   rw [List.getElem?_eq_getElem h3,List.getElem?_eq_getElem hj] at h5
   rw [show k0 * 6+(q+1) * 6=(k0+q+1) * 6 by omega,Dk M z _ h3,Option.some.inj h5]
  have hp2:AV.ag (((flA M++z).drop (k0 * 6+q * 6)).take 6)=aK L[k0+q]:=by
   have h3:k0+q<M.length:=by omega
   have h5:=hg (k0+q) (by omega) (by omega)
   rw [List.getElem?_eq_getElem h3,List.getElem?_eq_getElem (by omega:k0+q<L.length)] at h5
   rw [show k0 * 6+q * 6=(k0+q) * 6 by omega,Dk M z _ h3,Option.some.inj h5]
  have hb1:k0 * 6+(q+1) * 6+6≤M.length * 6+z.length:=by have:=Gp M z (k0+q+1) (by omega);omega
  have hb2:k0 * 6+q * 6+6≤M.length * 6+z.length:=by have:=Gp M z (k0+q) (by omega);omega
  have hs:=NM M z W.length (by omega) L[k0+q+1]
  have hset:M.set W.length L[k0+q+1]=(W++[L[k0+q+1]])++L.drop (W++[L[k0+q+1]]).length:=by
   rw [←hM]
   have h3:L.drop W.length=L[W.length]'(by omega)::L.drop (W.length+1):=List.drop_eq_getElem_cons (by omega)
   rw [h3,List.set_append_right _ _ (Nat.le_refl _),Nat.sub_self,List.set_cons_zero]
   simp
  rw [hset] at hs
  have hwi1:IntKind.i64.wrap (q:Int)=(q:Int):=by rw [w64]<;>omega
  have hwi2:IntKind.i64.wrap ((q:Int)+1+1)=(q:Int)+1+1:=by rw [w64]<;>omega
  have h2i:(q:Int)+1<((L.length - k0:Nat):Int):=by omega
  have h2j:q<L.length - k0:=by omega
  have h00:(0:Int)≤(q:Int)+1:=by omega
  have hWL:W.length<L.length:=by omega
  have hwi3:=wI (i:=W.length) (by omega)
  have hfit:W.length * 6+6≤M.length * 6+z.length:=by have:(W.length+1) * 6≤M.length * 6:=Nat.mul_le_mul_right 6 (by omega);omega
  clear hct hq hW hg hset
  by_cases hc:fP L[k0+q+1] L[k0+q]=0
  ·rw [if_pos hc,hM] at ih
   simp [aK,Oi,bg,h00,hWL,h2,h2i,h2j,hl,hp1,hp2,hb1,hb2,hwi1,hwi2,hc] at ih ⊢
   exact ih
  ·rw [if_neg hc] at ih
   simp [aK,Oi,bg,h00,hWL,h2,h2i,h2j,hl,hp1,hp2,hb1,hb2,hwi1,hwi2,hwi3,hc,hfit,hlim,hbase] at ih ⊢
   simp [splice] at hs
   rw [hs]
   exact ih
def oG (L:List At) (z:List AV):List AV:=
 if (bI L).length=L.length then flA L++z else flA (bI L)++((List.replicate (L.length - (bI L).length) [AV.i .i64 0,.s [],.s [],.s [],.i .i64 0,.i .i64 0]).flatten++z)
theorem Ip:∀(d k:Nat),k+1+d=L.length→bI (L.take (k+1))=L.take (k+1)→
  rQ (aA P0.glob (aH P0) cx true bn) [0,3]
   [(0,.v (.sk l ver 6 0 L.length)),(3,.v (.i .i64 ((k+1:Nat):Int)))] (s.set l (.buf t 6 ver (flA L++z)))=
   if (bI L).length=L.length then .exit 0 [(0,.v (.sk l ver 6 0 L.length)),(3,.v (.i .i64 L.length)),(13,.v (.b false))] (s.set l (.buf t 6 ver (oG L z)))
   else .ret [(2,.v (.sk l ver 6 0 (bI L).length))] (s.set l (.buf t 6 ver (oG L z)))
 | 0,k,hd,hc=>by
  have h1:L.take (k+1)=L:=List.take_of_length_le (by omega)
  rw [h1] at hc
  have h2:¬((k:Int)+1<(L.length:Int)):=by omega
  have h3:(k:Int)+1=(L.length:Int):=by omega
  refine gG fun K hK=>?_
  simp [aK,Oi,bn,h2,hc,oG]
  exact h3
 | d+1,k,hd,hcm=>by
  have hj:k+1<L.length:=by omega
  have hct:=IQ L k hj
  refine gG fun K hK=>?_
  have h2:(k:Int)+1<(L.length:Int):=by omega
  have hp1:AV.ag (((flA L++z).drop ((k+1) * 6)).take 6)=aK L[k+1]:=Dk L z _ hj
  have hp2:AV.ag (((flA L++z).drop (k * 6)).take 6)=aK L[k]:=Dk L z _ (by omega)
  have hb1:=Gp L z (k+1) hj
  have hb2:=Gp L z k (by omega)
  have hwi1:IntKind.i64.wrap (k:Int)=(k:Int):=by rw [w64]<;>omega
  have hwi2:IntKind.i64.wrap ((k:Int)+1+1)=(k:Int)+1+1:=by rw [w64]<;>omega
  have h2j:k<L.length:=by omega
  have h00:(0:Int)≤(k:Int)+1:=by omega
  by_cases hc:fP L[k+1] L[k]=0
  ·-- the first repetition: the inner loop
   rw [if_pos hc,hcm] at hct
   have hne:¬(bI L).length=L.length:=by
    intro hel
    have he:bI L=L:=(EG L).eq_of_length hel
    have h3:(bI (L.take (k+2))).length=k+2:=by
     have h4:∀(a:At) (x y:List At),jw a (x++y)=x++y→jw a x=x:=by
      intro a x
      induction x generalizing a with
      | nil=>intro y _;rfl
      | cons b x ih=>
       intro y h5
       simp only [List.cons_append,jw] at h5 ⊢
       split at h5
       ·have:=(wJ b (x++y)).length_le
        rw [h5] at this;simp at this;omega
       ·rename_i h6
        rw [if_neg h6]
        injection h5 with _ h7
        rw [ih b y h7]
     have h5:bI (L.take (k+2)++L.drop (k+2))=L.take (k+2)++L.drop (k+2):=by rw [List.take_append_drop];exact he
     have h6:bI (L.take (k+2))=L.take (k+2):=by
      cases hx:L.take (k+2) with
      | nil=>rfl
      | cons a x=>
       rw [hx] at h5
       simp only [List.cons_append,bI] at h5 ⊢
       injection h5 with _ h7
       rw [h4 a x _ h7]
     rw [h6];simp;omega
    rw [hct] at h3;simp at h3;omega
   obtain ⟨k2,hin⟩:=Io L hL s cx l t ver z hl hlim hbase (k+1) (by omega) (L.length - (k+2)) 0 (by omega) (by
    show (bI (L.take (k+2))).length≤_
    rw [hct];simp;omega)
   have hk2:bI (L.take (k+1+0+1))=L.take (k+1):=hct
   rw [hk2] at hin
   have htd:L.take (k+1)++L.drop (L.take (k+1)).length=L:=by
    rw [List.length_take,Nat.min_eq_left (by omega)];exact List.take_append_drop _ _
   rw [htd,List.length_take,Nat.min_eq_left (by omega)] at hin
   have hcl:=Nl L
   have hclt:(bI L).length<L.length:=by omega
   rw [if_neg hne]
   obtain ⟨m,hm⟩:∃m,L.length - (bI L).length=m+1:=⟨L.length - (bI L).length - 1,by omega⟩
   have hcells:oG L z=flA (bI L)++((List.replicate (m+1) [AV.i .i64 0,.s [],.s [],.s [],.i .i64 0,.i .i64 0]).flatten++z):=by rw [oG,if_neg hne,hm]
   have hfit:(bI L).length * 6+(m+1) * 6≤L.length * 6+z.length:=by
    have:L.length=(bI L).length+(m+1):=by omega
    rw [this,Nat.add_mul];omega
   have hzl:(List.replicate (m+1) [AV.i .i64 0,.s [],.s [],.s [],.i .i64 0,.i .i64 0]).flatten.length=(m+1) * 6:=by
    rw [List.length_flatten];simp
   have hdl:(L.drop (bI L).length).length=m+1:=by simp;omega
   have hspl:splice (flA (bI L++L.drop (bI L).length)++z) ((bI L).length * 6) (List.replicate (m+1) [AV.i .i64 0,.s [],.s [],.s [],.i .i64 0,.i .i64 0]).flatten=oG L z:=by
    rw [hcells]
    unfold splice
    rw [hzl]
    have hLc:bI L++L.drop (bI L).length=bI L++L.drop (bI L).length:=rfl
    rw [yU _ _ _ (by simp),List.take_left']
    ·rw [show (bI L).length * 6+(m+1) * 6=((bI L).length+(m+1)) * 6 by omega,yV _ _ _ (by simp;omega),List.drop_of_length_le (by simp;omega)]
     simp [flA]
    ·rfl
   have hcond:(bI L).length≤L.length:=hcl
   clear hct hcm hk2 htd hcells hzl hdl hne hclt hK
   generalize hX:List.replicate (m+1) [AV.i .i64 0,.s [],.s [],.s [],.i .i64 0,.i .i64 0]=X at hspl
   simp [aK,Oi,bn,h00,h2,h2j,hj,hl,hp1,hp2,hb1,hb2,hwi1,hc] at hin ⊢
   have hj1:k+1≤L.length:=by omega
   have hfit2:(bI L).length * 6+(m+1) * 6≤((bI L).length+(m+1)) * 6+z.length:=by omega
   simp [hj1,hin,hl,hcond,hm,hX,hfit,hfit2,hlim,hbase]
   simp [splice] at hspl
   rw [hspl]
  ·have hct':bI (L.take (k+2))=L.take (k+2):=by
    rw [hct,if_neg hc,hcm];exact (List.take_succ_eq_append_getElem hj).symm
   have ih:=Ip d (k+1) (by omega) hct'
   rw [←hK] at ih
   clear hK hct hct' hcm
   simp [aK,Oi,bn,h00,h2,h2j,hj,hl,hp1,hp2,hb1,hb2,hwi1,hwi2,hc] at ih ⊢
   exact ih
theorem OH (m:Nat) (hm:m=L.length) (hs:s[l]?=some (.buf t 6 ver (flA L++z))):
  aH P0 (.fn (.func aQ) [] []) [.sk l ver 6 0 m] s cx=.ret (.sk l ver 6 0 (bI L).length) (s.set l (.buf t 6 ver (oG L z))):=by
 subst hm
 have hset:s.set l (.buf t 6 ver (flA L++z))=s:=by
  apply List.ext_getElem?
  intro i
  by_cases hi:l=i
  ·subst hi;rw [List.getElem?_set_self hl,hs]
  ·rw [List.getElem?_set_ne hi]
 refine eG (by simp) ?_
 match L,hL with
 | [],_=>
  have h1:oG [] z=flA []++z:=by simp [oG,bI]
  rw [h1,hset]
  simp [au,aB,bI]
 | [a],_=>
  have h1:oG [a] z=flA [a]++z:=by simp [oG,bI,jw]
  rw [h1,hset]
  simp [au,aB,bI,jw]
 | a::b::r,hL=>
  have h:=Ip (a::b::r) hL s ⟨cx.lim,cx.base⟩ l t ver z hl hlim hbase r.length.succ 0 (by simp;omega) (by simp [bI,jw])
  rw [hset] at h
  have h2:¬((a::b::r).length:Int)<2:=by simp;omega
  by_cases hc:(bI (a::b::r)).length=(a::b::r).length
  ·rw [if_pos hc] at h
   simp only [Nat.zero_add] at h
   generalize hX:a::b::r=X at *
   simp at h
   simp [au,aB,h2,h,hc]
  ·rw [if_neg hc] at h
   simp only [Nat.zero_add] at h
   generalize hX:a::b::r=X at *
   simp at h
   simp [au,aB,h2,h]
end
end Go.Ai.Z
