/-
 slices.Compact of atoms: written by program out of T3.
-/
import Derived.Test.YtalbhlfigmlddaaGreatDoorAiQA1QA0QA2
set_option maxRecDepth 100000
set_option linter.unusedSimpArgs false
set_option linter.unusedVariables false
set_option linter.unusedSectionVars false
namespace Go.Ai.Z
@[simp] theorem acf {env:Env} {l ver sz o n:Nat}:qP env (some (.v (.sk l ver sz o n)))=none:=rfl
theorem UL (a b:At):rH [0,1,1,1,0,0] [.i .i64 a.kind,.s a.name,.s a.x,.s a.y,.i .i64 a.lo,.i .i64 a.hi] [.i .i64 b.kind,.s b.name,.s b.x,.s b.y,.i .i64 b.lo,.i .i64 b.hi]=some (decide (mr a b=0)):=by
 have h:decide (mr a b=0)=decide (a=b):=by simp only [rM]
 rw [h]
 obtain ⟨k,n,x,y,lo,hi⟩:=a
 obtain ⟨k',n',x',y',lo',hi'⟩:=b
 simp [rH,Bool.decide_and]
section
variable (L:List At) (hL:L.length≤100000) (s:St) (cx:Ctx) (l t ver:Nat) (z:List AV) (hl:l<s.length) (hlim:cx.lim≤l) (hbase:cx.base≤l)
include hL hl hlim hbase
theorem Ny (k0:Nat) (hk0:1≤k0):∀(d q:Nat),k0+q+1+d=L.length→(dF (L.take (k0+q+1))).length≤k0+q→
  ∃k2:Int,dZ (ak P0.glob (aj P0) cx true bJ) [0,3,4,5]
   [(0,.v (.sk l ver 6 0 L.length)),(3,.v (.i .i64 (dF (L.take (k0+q+1))).length)),(4,.v (.sk l ver 6 (k0 * 6) (L.length - k0))),(5,.v (.i .i64 ((q+1:Nat):Int)))]
   (s.set l (.buf t 6 ver (flA (dF (L.take (k0+q+1))++L.drop (dF (L.take (k0+q+1))).length)++z)))=
   .exit 2 [(0,.v (.sk l ver 6 0 L.length)),(3,.v (.i .i64 (dF L).length)),(4,.v (.sk l ver 6 (k0 * 6) (L.length - k0))),(5,.v (.i .i64 k2)),(32,.v (.b false))]
   (s.set l (.buf t 6 ver (flA (dF L++L.drop (dF L).length)++z)))
 | 0,q,hd,hq=>by
  have h1:L.take (k0+q+1)=L:=List.take_of_length_le (by omega)
  have h2:¬(q+1<L.length - k0):=by omega
  refine ⟨((q+1:Nat):Int),ai fun K hK=>?_⟩
  rw [h1]
  simp [aI,UL,bJ,h2]
  repeat' (first | (split<;>(try simp only [dW,dX,dY,iK,iL])<;>(try simp [*])) | (simp only [dW,dX,dY,iK,iL]<;>(try simp [*]))|omega)
 | d+1,q,hd,hq=>by
  have hj:k0+q+1<L.length:=by omega
  have hct:=Oe L (k0+q) hj
  obtain ⟨k2,ih⟩:=Ny k0 hk0 d (q+1) (by omega) (by
   rw [show k0+(q+1)+1=k0+q+2 by omega,hct]
   split
   ·omega
   ·simp;omega)
  refine ⟨k2,ai fun K hK=>?_⟩
  rw [←hK] at ih
  clear hK
  have hwl:=hq
  rw [show k0+(q+1)+1=k0+q+2 by omega,hct] at ih
  generalize hW:dF (L.take (k0+q+1))=W at ih hwl
  have h2:q+1<L.length - k0:=by omega
  generalize hM:W++L.drop W.length=M
  have hMl:M.length=L.length:=by rw [←hM];simp;omega
  have hg:∀i,W.length≤i→i<L.length→M[i]?=L[i]?:=by
   intro i h3 h4
   rw [←hM,List.getElem?_append_right h3,List.getElem?_drop];congr 1;omega
  have hp1:AV.ag (((flA M++z).drop (k0 * 6+(q+1) * 6)).take 6)=aI L[k0+q+1]:=by
   have h3:k0+q+1<M.length:=by omega
   have h5:=hg (k0+q+1) (by omega) hj
   rw [List.getElem?_eq_getElem h3,List.getElem?_eq_getElem hj] at h5
   rw [show k0 * 6+(q+1) * 6=(k0+q+1) * 6 by omega,GI M z _ h3,Option.some.inj h5]
  have hp2:AV.ag (((flA M++z).drop (k0 * 6+q * 6)).take 6)=aI L[k0+q]:=by
   have h3:k0+q<M.length:=by omega
   have h5:=hg (k0+q) (by omega) (by omega)
   rw [List.getElem?_eq_getElem h3,List.getElem?_eq_getElem (by omega:k0+q<L.length)] at h5
   rw [show k0 * 6+q * 6=(k0+q) * 6 by omega,GI M z _ h3,Option.some.inj h5]
  have hb1:k0 * 6+(q+1) * 6+6≤M.length * 6+z.length:=by have:=Lm M z (k0+q+1) (by omega);omega
  have hb2:k0 * 6+q * 6+6≤M.length * 6+z.length:=by have:=Lm M z (k0+q) (by omega);omega
  have hs:=Ul M z W.length (by omega) L[k0+q+1]
  have hset:M.set W.length L[k0+q+1]=(W++[L[k0+q+1]])++L.drop (W++[L[k0+q+1]]).length:=by
   rw [←hM]
   have h3:L.drop W.length=L[W.length]'(by omega)::L.drop (W.length+1):=List.drop_eq_getElem_cons (by omega)
   rw [h3,List.set_append_right _ _ (Nat.le_refl _),Nat.sub_self,List.set_cons_zero]
   simp
  rw [hset] at hs
  have hwi1:IntKind.i64.wrap (q:Int)=(q:Int):=by rw [w64]<;>omega
  have hwi2:IntKind.i64.wrap ((q:Int)+1+1)=(q:Int)+1+1:=by rw [w64]<;>omega
  have h2i:(q:Int)+1<((L.length - k0:Nat):Int):=by omega
  have h2j:q<L.length - k0:=by omega
  have h00:(0:Int)≤(q:Int)+1:=by omega
  have hWL:W.length<L.length:=by omega
  have hwi3:=wI (i:=W.length) (by omega)
  have hfit:W.length * 6+6≤M.length * 6+z.length:=by have:(W.length+1) * 6≤M.length * 6:=Nat.mul_le_mul_right 6 (by omega);omega
  clear hct hq hW hg hset
  by_cases hc:mr L[k0+q+1] L[k0+q]=0
  ·rw [if_pos hc,hM] at ih
   simp [aI,UL,bJ,h00,hWL,h2,h2i,h2j,hl,hp1,hp2,hb1,hb2,hwi1,hwi2,hc] at ih ⊢
   exact ih
  ·rw [if_neg hc] at ih
   simp [aI,UL,bJ,h00,hWL,h2,h2i,h2j,hl,hp1,hp2,hb1,hb2,hwi1,hwi2,hwi3,hc,hfit,hlim,hbase] at ih ⊢
   simp [splice] at hs
   rw [hs]
   exact ih
def uK (L:List At) (z:List AV):List AV:=
 if (dF L).length=L.length then flA L++z else flA (dF L)++((List.replicate (L.length - (dF L).length) [AV.i .i64 0,.s [],.s [],.s [],.i .i64 0,.i .i64 0]).flatten++z)
theorem Nz:∀(d k:Nat),k+1+d=L.length→dF (L.take (k+1))=L.take (k+1)→
  dZ (ak P0.glob (aj P0) cx true bK) [0,3]
   [(0,.v (.sk l ver 6 0 L.length)),(3,.v (.i .i64 ((k+1:Nat):Int)))] (s.set l (.buf t 6 ver (flA L++z)))=
   if (dF L).length=L.length then .exit 0 [(0,.v (.sk l ver 6 0 L.length)),(3,.v (.i .i64 L.length)),(13,.v (.b false))] (s.set l (.buf t 6 ver (uK L z)))
   else .ret [(2,.v (.sk l ver 6 0 (dF L).length))] (s.set l (.buf t 6 ver (uK L z)))
 | 0,k,hd,hc=>by
  have h1:L.take (k+1)=L:=List.take_of_length_le (by omega)
  rw [h1] at hc
  have h2:¬((k:Int)+1<(L.length:Int)):=by omega
  have h3:(k:Int)+1=(L.length:Int):=by omega
  refine ai fun K hK=>?_
  simp [aI,UL,bK,h2,hc,uK]
  exact h3
 | d+1,k,hd,hcm=>by
  have hj:k+1<L.length:=by omega
  have hct:=Oe L k hj
  refine ai fun K hK=>?_
  have h2:(k:Int)+1<(L.length:Int):=by omega
  have hp1:AV.ag (((flA L++z).drop ((k+1) * 6)).take 6)=aI L[k+1]:=GI L z _ hj
  have hp2:AV.ag (((flA L++z).drop (k * 6)).take 6)=aI L[k]:=GI L z _ (by omega)
  have hb1:=Lm L z (k+1) hj
  have hb2:=Lm L z k (by omega)
  have hwi1:IntKind.i64.wrap (k:Int)=(k:Int):=by rw [w64]<;>omega
  have hwi2:IntKind.i64.wrap ((k:Int)+1+1)=(k:Int)+1+1:=by rw [w64]<;>omega
  have h2j:k<L.length:=by omega
  have h00:(0:Int)≤(k:Int)+1:=by omega
  by_cases hc:mr L[k+1] L[k]=0
  ·-- the first repetition: the inner loop
   rw [if_pos hc,hcm] at hct
   have hne:¬(dF L).length=L.length:=by
    intro hel
    have he:dF L=L:=(Ji L).eq_of_length hel
    have h3:(dF (L.take (k+2))).length=k+2:=by
     have h4:∀(a:At) (x y:List At),nD a (x++y)=x++y→nD a x=x:=by
      intro a x
      induction x generalizing a with
      | nil=>intro y _;rfl
      | cons b x ih=>
       intro y h5
       simp only [List.cons_append,nD] at h5 ⊢
       split at h5
       ·have:=(Ac b (x++y)).length_le
        rw [h5] at this;simp at this;omega
       ·rename_i h6
        rw [if_neg h6]
        injection h5 with _ h7
        rw [ih b y h7]
     have h5:dF (L.take (k+2)++L.drop (k+2))=L.take (k+2)++L.drop (k+2):=by rw [List.take_append_drop];exact he
     have h6:dF (L.take (k+2))=L.take (k+2):=by
      cases hx:L.take (k+2) with
      | nil=>rfl
      | cons a x=>
       rw [hx] at h5
       simp only [List.cons_append,dF] at h5 ⊢
       injection h5 with _ h7
       rw [h4 a x _ h7]
     rw [h6];simp;omega
    rw [hct] at h3;simp at h3;omega
   obtain ⟨k2,hin⟩:=Ny L hL s cx l t ver z hl hlim hbase (k+1) (by omega) (L.length - (k+2)) 0 (by omega) (by
    show (dF (L.take (k+2))).length≤_
    rw [hct];simp;omega)
   have hk2:dF (L.take (k+1+0+1))=L.take (k+1):=hct
   rw [hk2] at hin
   have htd:L.take (k+1)++L.drop (L.take (k+1)).length=L:=by
    rw [List.length_take,Nat.min_eq_left (by omega)];exact List.take_append_drop _ _
   rw [htd,List.length_take,Nat.min_eq_left (by omega)] at hin
   have hcl:=TF L
   have hclt:(dF L).length<L.length:=by omega
   rw [if_neg hne]
   obtain ⟨m,hm⟩:∃m,L.length - (dF L).length=m+1:=⟨L.length - (dF L).length - 1,by omega⟩
   have hcells:uK L z=flA (dF L)++((List.replicate (m+1) [AV.i .i64 0,.s [],.s [],.s [],.i .i64 0,.i .i64 0]).flatten++z):=by rw [uK,if_neg hne,hm]
   have hfit:(dF L).length * 6+(m+1) * 6≤L.length * 6+z.length:=by
    have:L.length=(dF L).length+(m+1):=by omega
    rw [this,Nat.add_mul];omega
   have hzl:(List.replicate (m+1) [AV.i .i64 0,.s [],.s [],.s [],.i .i64 0,.i .i64 0]).flatten.length=(m+1) * 6:=by
    rw [List.length_flatten];simp
   have hdl:(L.drop (dF L).length).length=m+1:=by simp;omega
   have hspl:splice (flA (dF L++L.drop (dF L).length)++z) ((dF L).length * 6) (List.replicate (m+1) [AV.i .i64 0,.s [],.s [],.s [],.i .i64 0,.i .i64 0]).flatten=uK L z:=by
    rw [hcells]
    unfold splice
    rw [hzl]
    have hLc:dF L++L.drop (dF L).length=dF L++L.drop (dF L).length:=rfl
    rw [Ci _ _ _ (by simp),List.take_left']
    ·rw [show (dF L).length * 6+(m+1) * 6=((dF L).length+(m+1)) * 6 by omega,Cj _ _ _ (by simp;omega),List.drop_of_length_le (by simp;omega)]
     simp [flA]
    ·rfl
   have hcond:(dF L).length≤L.length:=hcl
   clear hct hcm hk2 htd hcells hzl hdl hne hclt hK
   generalize hX:List.replicate (m+1) [AV.i .i64 0,.s [],.s [],.s [],.i .i64 0,.i .i64 0]=X at hspl
   simp [aI,UL,bK,h00,h2,h2j,hj,hl,hp1,hp2,hb1,hb2,hwi1,hc] at hin ⊢
   have hj1:k+1≤L.length:=by omega
   have hfit2:(dF L).length * 6+(m+1) * 6≤((dF L).length+(m+1)) * 6+z.length:=by omega
   simp [hj1,hin,hl,hcond,hm,hX,hfit,hfit2,hlim,hbase]
   simp [splice] at hspl
   rw [hspl]
  ·have hct':dF (L.take (k+2))=L.take (k+2):=by
    rw [hct,if_neg hc,hcm];exact (List.take_succ_eq_append_getElem hj).symm
   have ih:=Nz d (k+1) (by omega) hct'
   rw [←hK] at ih
   clear hK hct hct' hcm
   simp [aI,UL,bK,h00,h2,h2j,hj,hl,hp1,hp2,hb1,hb2,hwi1,hwi2,hc] at ih ⊢
   exact ih
theorem Vb (m:Nat) (hm:m=L.length) (hs:s[l]?=some (.buf t 6 ver (flA L++z))):
  aj P0 (.fn (.func dB) [] []) [.sk l ver 6 0 m] s cx=.ret (.sk l ver 6 0 (dF L).length) (s.set l (.buf t 6 ver (uK L z))):=by
 subst hm
 have hset:s.set l (.buf t 6 ver (flA L++z))=s:=by
  apply List.ext_getElem?
  intro i
  by_cases hi:l=i
  ·subst hi;rw [List.getElem?_set_self hl,hs]
  ·rw [List.getElem?_set_ne hi]
 refine qW (by simp) ?_
 match L,hL with
 | [],_=>
  have h1:uK [] z=flA []++z:=by simp [uK,dF]
  rw [h1,hset]
  simp [ah,aT,dF]
 | [a],_=>
  have h1:uK [a] z=flA [a]++z:=by simp [uK,dF,nD]
  rw [h1,hset]
  simp [ah,aT,dF,nD]
 | a::b::r,hL=>
  have h:=Nz (a::b::r) hL s ⟨cx.lim,cx.base⟩ l t ver z hl hlim hbase r.length.succ 0 (by simp;omega) (by simp [dF,nD])
  rw [hset] at h
  have h2:¬((a::b::r).length:Int)<2:=by simp;omega
  by_cases hc:(dF (a::b::r)).length=(a::b::r).length
  ·rw [if_pos hc] at h
   simp only [Nat.zero_add] at h
   generalize hX:a::b::r=X at *
   simp at h
   simp [ah,aT,h2,h,hc]
  ·rw [if_neg hc] at h
   simp only [Nat.zero_add] at h
   generalize hX:a::b::r=X at *
   simp at h
   simp [ah,aT,h2,h]
end
end Go.Ai.Z
namespace Go.Ai.Z
def rowA (z:Bool):List At→AV
 | []=>if z then .ns else .sz
 | a::r=>.sl ((a::r).map aI)
def aaH (z:Bool) (L:List At):AV:=.ag [rowA z L]
theorem VI {S:St} {n m:Nat} {a:AV} (h:a.under n=true):qJ S n m a=some a:=by
 cases m<;>simp [qJ,h]
theorem Nl {F:AV→Option AV}:∀{l:List AV},(∀a∈l,F a=some a)→l.mapM F=some l
 | [],_=>by simp
 | a::l,h=>by
  simp only [List.mapM_cons,Option.bind_eq_bind,Option.pure_def,h a (by simp),Nl (l:=l) (fun b hb=>h b (by simp [hb]))]
  rfl
theorem Lj:∀(L:List At) (a:AV),a∈flA L→a.one=true∧∀n,a.under n=true
 | [],a,h=>by simp [flA] at h
 | c::r,a,h=>by
  simp only [flA,List.cons_append,List.nil_append,List.mem_cons] at h
  rcases h with rfl|rfl|rfl|rfl|rfl|rfl|h
  ·exact ⟨rfl,fun n=>by simp⟩
  ·exact ⟨rfl,fun n=>by simp⟩
  ·exact ⟨rfl,fun n=>by simp⟩
  ·exact ⟨rfl,fun n=>by simp⟩
  ·exact ⟨rfl,fun n=>by simp⟩
  ·exact ⟨rfl,fun n=>by simp⟩
  ·exact Lj r a h
theorem aaB {s:St} {t:Nat} (M:List At) (Z:List AV):frz (s++[.buf t 6 0 (flA M++Z)]) s.length (.ag [.sk s.length 0 6 0 M.length])=some (.ag [.sl (M.map aI)]):=by
 have h0:(AV.ag [.sk s.length 0 6 0 M.length]).under s.length=false:=by simp [AV.under,bP]
 have ht:(flA M++Z).take (M.length * 6)=flA M:=by
  have:=Ci M M.length Z (Nat.le_refl _)
  rwa [List.take_of_length_le (Nat.le_refl _)] at this
 have hm:∀m,(flA M).mapM (qJ (s++[.buf t 6 0 (flA M++Z)]) s.length m)=some (flA M):=fun m=>Nl fun a ha=>VI ((Lj M a ha).2 _)
 have ho:(flA M).all AV.one=true:=List.all_eq_true.2 fun a ha=>(Lj M a ha).1
 have hc:chunk 6 M.length (flA M)=M.map aI:=by have:=Jk M [];rwa [List.append_nil] at this
 have h1:(AV.sk s.length 0 6 0 M.length).under s.length=false:=by simp [AV.under]
 have hfit:M.length * 6≤(flA M++Z).length:=by simp
 have h2:qJ (s++[.buf t 6 0 (flA M++Z)]) s.length 5 (.sk s.length 0 6 0 M.length)=some (.sl (M.map aI)):=by
  rw [qJ,if_neg (by rw [h1];exact Bool.false_ne_true)]
  simp [ht,hm,hc]
  exact fun x hx=>(Lj M x hx).1
 rw [frz,if_neg (by rw [h0];exact Bool.false_ne_true),qJ,if_neg (by rw [h0];exact Bool.false_ne_true)]
 simp [h2]
theorem aac (L:List At):((L.map aI).all fun e=>e.cells.length == 6)=true:=by
 rw [List.all_eq_true]
 intro e he
 obtain ⟨a,_,rfl⟩:=List.mem_map.1 he
 rfl
end Go.Ai.Z
