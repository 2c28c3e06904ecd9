/-
 terms.Vocabulary of axioms that are not all good; strings that are sorted, and that are not repeated.
-/
import Derived.Test.YtcofenimejmoeaaGreatDoorAiOW5
import Derived.Test.YtcofenimejmoeaaGreatDoorAiR61R62R63K13
import Derived.Test.YtcofenimejmoeaaGreatDoorAiPSortS
set_option maxRecDepth 100000
set_option linter.unusedSimpArgs false
set_option linter.unusedVariables false
set_option linter.unusedSectionVars false
namespace Go.Ai.Z
theorem X8 (z:Bool) (l:List Ax) (hl:l.length≤1000) (hx:∀x∈l,x.Few) (s:St) (cx:Ctx):
  ∀(rest:List Ax) (i:Nat),l.drop i=rest→rP rest≠0→
  eX (au P0.glob (ai P0) cx false fJ) [0,2,3,21,22,23]
   [(0,.v (slf z (l.map dD))),(2,.bx [.ns,.ns,.ns,.ns]),(3,.v (.i .i64 0)),(21,.v (slf z (l.map dD))),(22,.v (.i .i64 l.length)),(23,.v (.i .i64 i))] s=
   .ret [(2,.bx [.ns,.ns,.ns,.ns]),(3,.v (.i .i64 (rP rest)))] s
 | [],i,h,hn=>absurd rfl hn
 | x::rest,i,h,hn=>by
  obtain ⟨g1,g2,g3,g4⟩:=drop_cons h
  have g5:=g4 g3
  have hwi:=wI (i:=i) (by omega)
  have hm:x∈l:=by rw [←g5];exact List.getElem_mem g3
  have e1:=zV x (hx x hm)
  by_cases h0:jP x=0
  ·have ih:=X8 z l hl hx s cx rest (i+1) g2 (by rw [rP,if_pos h0] at hn;exact hn)
   refine aj fun K hK=>?_
   rw [←hK,show ((i+1:Nat):Int)=(i:Int)+1 from rfl] at ih
   clear hK g4 hx
   have hc:rP (x::rest)=rP rest:=by rw [rP,if_pos h0]
   rw [hc,←ih]
   rw [h0] at e1
   simp -implicitDefEqProofs [fJ,g3,g5,hwi,e1]
  ·refine aj fun K hK=>?_
   clear hK g4 hx
   have hc:rP (x::rest)=jP x:=by rw [rP,if_neg h0]
   rw [hc]
   simp -implicitDefEqProofs [fJ,g3,g5,hwi,e1,h0,jY,splice]
theorem Gv (z:Bool) (l:List Ax) (hl:l.length≤100) (hx:∀x∈l,x.Few) (h0:rP l≠0) (s:St) (cx:Ctx):
  ai P0 (.fn (.func jw) [] []) [slf z (l.map dD)] s cx=.ret (.tu [.ag [.ns,.ns,.ns,.ns],.i .i64 (rP l)]) s:=by
 have e0:=X8 z l (by omega) hx s ⟨s.length,s.length⟩ l 0 rfl h0
 refine yI (by simp) ?_
 simp at e0
 simp -implicitDefEqProofs [af,jV,e0]
end Go.Ai.Z
namespace Go.Ai.Z
def lH (a:List UInt8):List (List UInt8)→List (List UInt8)
 | []=>[]
 | b::r=>if b=a then lH b r else b::lH b r
def eY:List (List UInt8)→List (List UInt8)
 | []=>[]
 | a::r=>a::lH a r
theorem Dv:∀(a:List UInt8) (l:List (List UInt8)),(lH a l).Sublist l
 | a,[]=>.slnil
 | a,b::r=>by
  unfold lH
  split
  ·exact (Dv b r).cons _
  ·exact (Dv b r).cons_cons _
theorem TA:∀l:List (List UInt8),(eY l).Sublist l
 | []=>.slnil
 | a::r=>(Dv a r).cons_cons _
theorem Qh (a:List UInt8):∀(l:List (List UInt8)) (b:List UInt8),lH a (l++[b])=if b=l.getLastD a then lH a l else lH a l++[b]
 | [],b=>by simp [lH]
 | x::l,b=>by
  simp only [List.cons_append,lH]
  have h:=Qh x l b
  have hl:(x::l).getLastD a=l.getLastD x:=List.getLastD_cons
  rw [h,hl]
  split<;>split<;>rfl
theorem Qd (L:List (List UInt8)) (j:Nat) (h:j+1<L.length):eY (L.take (j+2))=if L[j+1]=L[j] then eY (L.take (j+1)) else eY (L.take (j+1))++[L[j+1]]:=by
 have h1:L.take (j+2)=L.take (j+1)++[L[j+1]]:=List.take_succ_eq_append_getElem h
 rw [h1]
 have h2:∃a r,L.take (j+1)=a::r∧r.getLastD a=L[j]:=by
  have h3:L.take (j+1)=L.take j++[L[j]]:=List.take_succ_eq_append_getElem (by omega)
  rw [h3]
  cases hL:L.take j with
  | nil=>exact ⟨_,_,rfl,rfl⟩
  | cons a r=>exact ⟨a,r++[L[j]],rfl,by simp⟩
 obtain ⟨a,r,e1,e2⟩:=h2
 rw [e1]
 simp only [List.cons_append,eY,Qh,e2]
 split<;>rfl
theorem V5 (l:List (List UInt8)):(eY l).length≤l.length:=(TA l).length_le
@[simp] theorem adI {env:Env} {l ver sz o n:Nat}:uz env (some (.v (.sk l ver sz o n)))=none:=rfl
section
variable (L:List (List UInt8)) (hL:L.length≤100000) (s:St) (cx:Ctx) (l t ver:Nat) (hl:l<s.length) (hlim:cx.lim≤l) (hbase:cx.base≤l)
include hL hl hlim hbase
theorem Mc (k0:Nat) (hk0:1≤k0):∀(d q:Nat),k0+q+1+d=L.length→(eY (L.take (k0+q+1))).length≤k0+q→
  ∃k2:Int,eX (au P0.glob (ai P0) cx true dP) [0,3,4,5]
   [(0,.v (.sk l ver 1 0 L.length)),(3,.v (.i .i64 (eY (L.take (k0+q+1))).length)),(4,.v (.sk l ver 1 k0 (L.length - k0))),(5,.v (.i .i64 ((q+1:Nat):Int)))]
   (s.set l (.buf t 1 ver ((eY (L.take (k0+q+1))++L.drop (eY (L.take (k0+q+1))).length).map .s)))=
   .exit 2 [(0,.v (.sk l ver 1 0 L.length)),(3,.v (.i .i64 (eY L).length)),(4,.v (.sk l ver 1 k0 (L.length - k0))),(5,.v (.i .i64 k2)),(32,.v (.b false))]
   (s.set l (.buf t 1 ver ((eY L++L.drop (eY L).length).map .s)))
 | 0,q,hd,hq=>by
  have h1:L.take (k0+q+1)=L:=List.take_of_length_le (by omega)
  have h2:¬(q+1<L.length - k0):=by omega
  refine ⟨((q+1:Nat):Int),aj fun K hK=>?_⟩
  rw [h1]
  simp [dP,h2]
  repeat' (first | (split<;>(try simp only [ay,aA,aB,aI,aJ])<;>(try simp [*])) | (simp only [ay,aA,aB,aI,aJ]<;>(try simp [*]))|omega)
 | d+1,q,hd,hq=>by
  have hj:k0+q+1<L.length:=by omega
  have hct:=Qd L (k0+q) hj
  obtain ⟨k2,ih⟩:=Mc k0 hk0 d (q+1) (by omega) (by
   rw [show k0+(q+1)+1=k0+q+2 by omega,hct]
   split
   ·omega
   ·simp;omega)
  refine ⟨k2,aj fun K hK=>?_⟩
  rw [←hK] at ih
  clear hK
  have hwl:=hq
  rw [show k0+(q+1)+1=k0+q+2 by omega,hct] at ih
  generalize hW:eY (L.take (k0+q+1))=W at ih hwl
  have h2:q+1<L.length - k0:=by omega
  generalize hM:W++L.drop W.length=M
  have hMl:M.length=L.length:=by rw [←hM];simp;omega
  have hg:∀i,W.length≤i→i<L.length→M[i]?=L[i]?:=by
   intro i h3 h4
   rw [←hM,List.getElem?_append_right h3,List.getElem?_drop];congr 1;omega
  have hp1:M[k0+(q+1)]?=some L[k0+q+1]:=by
   rw [hg _ (by omega) (by omega),List.getElem?_eq_getElem (by omega:k0+(q+1)<L.length)];rfl
  have hp2:M[k0+q]?=some L[k0+q]:=by
   rw [hg _ (by omega) (by omega),List.getElem?_eq_getElem (by omega:k0+q<L.length)]
  have hs:splice (M.map AV.s) W.length [.s L[k0+q+1]]=(M.set W.length L[k0+q+1]).map .s:=by
   simp only [splice,List.length_cons,List.length_nil,←List.map_take,←List.map_drop]
   rw [List.set_eq_take_append_cons_drop,if_pos (by omega)]
   simp
  have hset:M.set W.length L[k0+q+1]=(W++[L[k0+q+1]])++L.drop (W++[L[k0+q+1]]).length:=by
   rw [←hM]
   have h3:L.drop W.length=L[W.length]'(by omega)::L.drop (W.length+1):=List.drop_eq_getElem_cons (by omega)
   rw [h3,List.set_append_right _ _ (Nat.le_refl _),Nat.sub_self,List.set_cons_zero]
   simp
  rw [hset] at hs
  have hwi1:IntKind.i64.wrap (q:Int)=(q:Int):=by rw [w64]<;>omega
  have hwi2:IntKind.i64.wrap ((q:Int)+1+1)=(q:Int)+1+1:=by rw [w64]<;>omega
  have h2i:(q:Int)+1<((L.length - k0:Nat):Int):=by omega
  have h2j:q<L.length - k0:=by omega
  have h00:(0:Int)≤(q:Int)+1:=by omega
  have hWL:W.length<L.length:=by omega
  have hwi3:=wI (i:=W.length) (by omega)
  have hfit:W.length+1≤M.length:=by omega
  clear hct hq hW hg hset
  by_cases hc:L[k0+q+1]=L[k0+q]
  ·rw [if_pos hc,hM] at ih
   simp [dP,h00,hWL,h2,h2i,h2j,hl,hp1,hp2,hwi1,hwi2,hc] at ih ⊢
   exact ih
  ·rw [if_neg hc] at ih
   simp [dP,h00,hWL,h2,h2i,h2j,hl,hp1,hp2,hwi1,hwi2,hwi3,hc,hfit,hlim,hbase] at ih ⊢
   simp [splice] at hs
   rw [hs]
   exact ih
def yD (L:List (List UInt8)):List AV:=(eY L).map AV.s++List.replicate (L.length - (eY L).length) (AV.s [])
theorem Md:∀(d k:Nat),k+1+d=L.length→eY (L.take (k+1))=L.take (k+1)→
  eX (au P0.glob (ai P0) cx true dQ) [0,3]
   [(0,.v (.sk l ver 1 0 L.length)),(3,.v (.i .i64 ((k+1:Nat):Int)))] (s.set l (.buf t 1 ver (L.map .s)))=
   if (eY L).length=L.length then .exit 0 [(0,.v (.sk l ver 1 0 L.length)),(3,.v (.i .i64 L.length)),(13,.v (.b false))] (s.set l (.buf t 1 ver (yD L)))
   else .ret [(2,.v (.sk l ver 1 0 (eY L).length))] (s.set l (.buf t 1 ver (yD L)))
 | 0,k,hd,hc=>by
  have h1:L.take (k+1)=L:=List.take_of_length_le (by omega)
  rw [h1] at hc
  have h2:¬((k:Int)+1<(L.length:Int)):=by omega
  have h3:(k:Int)+1=(L.length:Int):=by omega
  refine aj fun K hK=>?_
  simp [dQ,h2,hc,yD]
  exact h3
 | d+1,k,hd,hcm=>by
  have hj:k+1<L.length:=by omega
  have hct:=Qd L k hj
  refine aj fun K hK=>?_
  have h2:(k:Int)+1<(L.length:Int):=by omega
  have hp1:L[k+1]?=some L[k+1]:=List.getElem?_eq_getElem hj
  have hp2:L[k]?=some L[k]:=List.getElem?_eq_getElem (by omega)
  have hwi1:IntKind.i64.wrap (k:Int)=(k:Int):=by rw [w64]<;>omega
  have hwi2:IntKind.i64.wrap ((k:Int)+1+1)=(k:Int)+1+1:=by rw [w64]<;>omega
  have h2j:k<L.length:=by omega
  have h00:(0:Int)≤(k:Int)+1:=by omega
  by_cases hc:L[k+1]=L[k]
  ·-- the first repetition: the inner loop
   rw [if_pos hc,hcm] at hct
   have hne:¬(eY L).length=L.length:=by
    intro hel
    have he:eY L=L:=(TA L).eq_of_length hel
    have h3:(eY (L.take (k+2))).length=k+2:=by
     have h4:∀(a:List UInt8) (x y:List (List UInt8)),lH a (x++y)=x++y→lH a x=x:=by
      intro a x
      induction x generalizing a with
      | nil=>intro y _;rfl
      | cons b x ih=>
       intro y h5
       simp only [List.cons_append,lH] at h5 ⊢
       split at h5
       ·have:=(Dv b (x++y)).length_le
        rw [h5] at this;simp at this;omega
       ·rename_i h6
        rw [if_neg h6]
        injection h5 with _ h7
        rw [ih b y h7]
     have h5:eY (L.take (k+2)++L.drop (k+2))=L.take (k+2)++L.drop (k+2):=by rw [List.take_append_drop];exact he
     have h6:eY (L.take (k+2))=L.take (k+2):=by
      cases hx:L.take (k+2) with
      | nil=>rfl
      | cons a x=>
       rw [hx] at h5
       simp only [List.cons_append,eY] at h5 ⊢
       injection h5 with _ h7
       rw [h4 a x _ h7]
     rw [h6];simp;omega
    rw [hct] at h3;simp at h3;omega
   obtain ⟨k2,hin⟩:=Mc L hL s cx l t ver hl hlim hbase (k+1) (by omega) (L.length - (k+2)) 0 (by omega) (by
    show (eY (L.take (k+2))).length≤_
    rw [hct];simp;omega)
   have hk2:eY (L.take (k+1+0+1))=L.take (k+1):=hct
   rw [hk2] at hin
   have htd:L.take (k+1)++L.drop (L.take (k+1)).length=L:=by
    rw [List.length_take,Nat.min_eq_left (by omega)];exact List.take_append_drop _ _
   rw [htd,List.length_take,Nat.min_eq_left (by omega)] at hin
   have hcl:=V5 L
   have hclt:(eY L).length<L.length:=by omega
   rw [if_neg hne]
   obtain ⟨m,hm⟩:∃m,L.length - (eY L).length=m+1:=⟨L.length - (eY L).length - 1,by omega⟩
   have hcells:yD L=(eY L).map AV.s++List.replicate (m+1) (AV.s []):=by rw [yD,hm]
   have hspl:splice ((eY L++L.drop (eY L).length).map AV.s) (eY L).length (List.replicate (m+1) (AV.s []))=yD L:=by
    rw [hcells]
    unfold splice
    rw [List.map_append,List.take_left' (by simp),List.drop_of_length_le (by simp;omega),List.append_nil]
   have hrep:(List.replicate (m+1) [AV.s []]).flatten=List.replicate (m+1) (AV.s []):=by
    generalize m+1=r
    induction r with
    | zero=>rfl
    | succ r ih=>simp [List.replicate_succ,ih]
   have hfit:(eY L).length+(m+1)≤L.length:=by omega
   have hcond:(eY L).length≤L.length:=hcl
   clear hct hcm hk2 htd hcells hne hclt hK
   generalize hX:List.replicate (m+1) (AV.s [])=X at hspl hrep
   simp [dQ,h00,h2,h2j,hj,hl,hp1,hp2,hwi1,hc] at hin ⊢
   have hj1:k+1≤L.length:=by omega
   have hfit2:(eY L).length+(m+1)≤(eY L).length+(L.length - (eY L).length):=by omega
   simp [hj1,hin,hl,hcond,hm,hrep,hX,hfit,hfit2,hlim,hbase]
   simp [splice] at hspl
   rw [hspl]
  ·have hct':eY (L.take (k+2))=L.take (k+2):=by
    rw [hct,if_neg hc,hcm];exact (List.take_succ_eq_append_getElem hj).symm
   have ih:=Md d (k+1) (by omega) hct'
   rw [←hK] at ih
   clear hK hct hct' hcm
   simp [dQ,h00,h2,h2j,hj,hl,hp1,hp2,hwi1,hwi2,hc] at ih ⊢
   exact ih
theorem XJ (m:Nat) (hm:m=L.length) (hs:s[l]?=some (.buf t 1 ver (L.map .s))):
  ai P0 (.fn (.func dO) [] []) [.sk l ver 1 0 m] s cx=.ret (.sk l ver 1 0 (eY L).length) (s.set l (.buf t 1 ver (yD L))):=by
 subst hm
 have hset:s.set l (.buf t 1 ver (L.map .s))=s:=by
  apply List.ext_getElem?
  intro i
  by_cases hi:l=i
  ·subst hi;rw [List.getElem?_set_self hl,hs]
  ·rw [List.getElem?_set_ne hi]
 refine mW (by simp) ?_
 match L,hL with
 | [],_=>
  have h1:yD []=([]:List (List UInt8)).map .s:=by simp [yD,eY]
  rw [h1,hset]
  simp [af,bG,eY]
 | [a],_=>
  have h1:yD [a]=[a].map .s:=by simp [yD,eY,lH]
  rw [h1,hset]
  simp [af,bG,eY,lH]
 | a::b::r,hL=>
  have h:=Md (a::b::r) hL s ⟨cx.lim,cx.base⟩ l t ver hl hlim hbase r.length.succ 0 (by simp;omega) (by simp [eY,lH])
  rw [hset] at h
  have h2:¬((a::b::r).length:Int)<2:=by simp;omega
  by_cases hc:(eY (a::b::r)).length=(a::b::r).length
  ·rw [if_pos hc] at h
   simp only [Nat.zero_add] at h
   generalize hX:a::b::r=X at *
   simp at h
   simp [af,bG,h2,h,hc]
  ·rw [if_neg hc] at h
   simp only [Nat.zero_add] at h
   generalize hX:a::b::r=X at *
   simp at h
   simp [af,bG,h2,h]
end
def XK (n:Nat):List (List UInt8)→AV
 | []=>.ns
 | _::r=>.sk n r.length 1 0 (r.length+1)
def WE:List (List UInt8)→St
 | []=>[]
 | a::r=>[.buf ak 1 r.length ((a::r).map .s)]
theorem XI (V:List (List UInt8)) (hV:V.length≤300000) (s:St) (cx:Ctx) (l t ver:Nat) (hs:s[l]?=some (.buf t 1 ver (V.map .s))) (hlim:cx.lim≤l) (hbase:cx.base≤l):
  ai P0 (.fn (.func iR) [] []) [.sk l ver 1 0 V.length] s cx=.ret (.tu []) (s.set l (.buf t 1 ver ((Go.Ai.sortStr V).map .s))):=by
 refine Lm (A:=P0) (k:=.sortS) rfl rfl (by simp) ?_
 cases V with
 | nil=>
  have hset:s.set l (.buf t 1 ver (([]:List (List UInt8)).map .s))=s:=by
   apply List.ext_getElem?
   intro i
   by_cases hi:l=i
   ·subst hi;rw [List.getElem?_set_self (List.getElem?_eq_some_iff.1 hs).1,hs]
   ·rw [List.getElem?_set_ne hi]
  simp only [Go.Ai.sortStr]
  rw [hset]
  simp [jr]
 | cons a r=>
  have hm:∀l:List (List UInt8),(l.map AV.s).mapM strOf=some l:=by
   intro l
   induction l with
   | nil=>rfl
   | cons x l ih=>simp only [List.map_cons,List.mapM_cons,ih,strOf];rfl
  have hlen:(Go.Ai.sortStr (a::r)).length=r.length+1:=(oq (a::r)).length_eq
  have hcond:ver=ver∧(1:Nat)=1∧(1:Nat)=1∧0+(r.length+1)≤((a::r).map AV.s).length∧r.length<aP∧cx.lim≤l∧cx.base≤l:=
   ⟨rfl,rfl,rfl,by simp,by unfold aP;simp at hV;omega,hlim,hbase⟩
  have htk:(((a::r).map AV.s).drop 0).take (r.length+1)=(a::r).map AV.s:=by rw [List.drop_zero,List.take_of_length_le (by simp)]
  have hsp:splice ((a::r).map AV.s) 0 ((Go.Ai.sortStr (a::r)).map AV.s)=(Go.Ai.sortStr (a::r)).map AV.s:=by
   unfold splice
   rw [List.take_zero,List.nil_append,List.drop_of_length_le (by simp [hlen]),List.append_nil]
  show jr (ai P0) (ai P0.quiet) .sortS [.sk l ver 1 0 (r.length+1)] s cx=_
  unfold jr
  dsimp only
  rw [hs]
  dsimp only
  rw [if_pos hcond,htk,hm]
  dsimp only
  rw [hsp]
theorem ach {S:St} {n m:Nat} {a:AV} (h:a.under n=true):Ap S n m a=some a:=by
 cases m<;>simp [Ap,h]
theorem Vw {F:AV→Option AV}:∀{l:List AV},(∀a∈l,F a=some a)→l.mapM F=some l
 | [],_=>by simp
 | a::l,h=>by
  simp only [List.mapM_cons,Option.bind_eq_bind,Option.pure_def,h a (by simp),Vw (l:=l) (fun b hb=>h b (by simp [hb]))]
  rfl
theorem Yg {s:St} {t ver:Nat} (M:List (List UInt8)) (hM:M≠[]) (Z:List AV):frz (s++[.buf t 1 ver (M.map .s++Z)]) s.length (.sk s.length ver 1 0 M.length)=some (.sl (M.map .s)):=by
 have h1:(AV.sk s.length ver 1 0 M.length).under s.length=false:=by simp [AV.under]
 have ht:(M.map AV.s++Z).take (M.length * 1)=M.map AV.s:=by rw [Nat.mul_one,List.take_left' (by simp)]
 have hm:(M.map AV.s).mapM (Ap (s++[.buf t 1 ver (M.map .s++Z)]) s.length 5)=some (M.map AV.s):=Vw fun a ha=>ach (by
  obtain ⟨x,_,rfl⟩:=List.mem_map.1 ha;simp)
 have ho:(M.map AV.s).all AV.one=true:=List.all_eq_true.2 fun a ha=>by obtain ⟨x,_,rfl⟩:=List.mem_map.1 ha;rfl
 have hc:∀N:List (List UInt8),chunk 1 N.length (N.map AV.s)=N.map .s:=by
  intro N
  induction N with
  | nil=>rfl
  | cons x N ih=>simp only [List.length_cons,List.map_cons,chunk,if_true,List.drop_succ_cons,List.drop_zero,ih];rfl
 rw [frz,if_neg (by rw [h1];exact Bool.false_ne_true),Ap,if_neg (by rw [h1];exact Bool.false_ne_true)]
 simp only [List.getElem?_append_right (Nat.le_refl _),Nat.sub_self,List.getElem?_cons_zero]
 rw [if_pos (by simp),List.drop_zero,ht,hm]
 show (if _ then _ else _)=_
 rw [if_pos ⟨by omega,ho⟩,hc]
theorem RG (s:St) (cx:Ctx):ai P0 (.fn (.func dO) [] []) [.ns] s cx=.ret .ns s:=by
 refine mW (by simp) ?_
 simp [af,bG]
theorem Rw (s:St) (cx:Ctx):ai P0 (.fn (.func iR) [] []) [.ns] s cx=.ret (.tu []) s:=
 Lm (A:=P0) (k:=.sortS) rfl rfl (by simp) (by simp [jr])
theorem VE (l:List (List UInt8)) (x:List UInt8) (hl:l.length≤1000000) (v:AV) (hv:v=.sl (l.map .s)∨(v=.ns∧l=[])) (s:St) (cx:Ctx):
  ∀(rest:List (List UInt8)) (i:Nat),l.drop i=rest→
  ∃j:Nat,eX (au P0.glob (ai P0) cx false eH) [0,1,7,8] [(0,.v v),(1,.v (.s x)),(7,.v (.i .i64 l.length)),(8,.v (.i .i64 i))] s=
   if x∈rest then .ret [(4,.v (.i .i64 (j:Int)))] s else .exit 0 [(0,.v v),(1,.v (.s x)),(7,.v (.i .i64 l.length)),(8,.v (.i .i64 (j:Int))),(9,.v (.b false))] s
 | [],i,h=>by
  have h1:¬i<l.length:=Nat.not_lt.2 (drop_nil h)
  refine ⟨i,aj fun K hK=>?_⟩
  simp [eH,h1]
 | p::r,i,h=>by
  obtain ⟨h1,h2,h3,h4⟩:=drop_cons h
  have h5:=h4 h3
  have hw:=wI (i:=i) (by omega)
  have hv':v=.sl (l.map .s):=by
   rcases hv with h|⟨_,h⟩
   ·exact h
   ·subst h;simp at h3
  subst hv'
  by_cases hp:p=x
  ·refine ⟨i,aj fun K hK=>?_⟩
   clear h4
   simp [eH,h3,h5,hw,hp]
  ·obtain ⟨j,ih⟩:=VE l x hl _ (.inl rfl) s cx r (i+1) h2
   have hp':¬x=p:=fun h=>hp h.symm
   refine ⟨j,aj fun K hK=>?_⟩
   rw [←hK,show ((i+1:Nat):Int)=(i:Int)+1 from rfl] at ih
   clear hK h4
   try simp at ih
   simp [eH,h3,h5,hw,hp,hp',ih]
theorem MS (l:List (List UInt8)) (x:List UInt8) (hl:l.length≤1000000) (v:AV) (hv:v=.sl (l.map .s)∨(v=.ns∧l=[])) (s:St) (cx:Ctx):
  ai P0 (.fn (.func dH) [] []) [v,.s x] s cx=.ret (.b (decide (x∈l))) s:=by
 have key:∃n:Int,(0≤n ↔ x∈l)∧∀cx,ai P0 (.fn (.func fP) [] []) [v,.s x] s cx=.ret (.i .i64 n) s:=by
  obtain ⟨j,h⟩:=VE l x hl v hv s ⟨s.length,s.length⟩ l 0 rfl
  have hlen:uz [(6,.v v),(0,.v v),(1,.v (.s x))] (some (.v v))=some (l.map .s):=by
   rcases hv with h|⟨h,h'⟩
   ·subst h;rfl
   ·subst h h';rfl
  rw [show ((0:Nat):Int)=0 from rfl] at h
  by_cases hx:x∈l
  ·rw [if_pos hx] at h
   refine ⟨j,by simp [hx],fun cx=>nZ (by simp) ?_⟩
   rcases hv with h' | ⟨h',h''⟩
   ·subst h'
    try simp at h
    simp [af,dW,h]
   ·subst h'';cases hx
  ·rw [if_neg hx] at h
   refine ⟨-1,by simp [hx],fun cx=>nZ (by simp) ?_⟩
   rcases hv with h' | ⟨h',h''⟩
   ·subst h'
    try simp at h
    simp [af,dW,h]
   ·subst h' h''
    try simp at h
    simp [af,dW,h]
 obtain ⟨n,hn,h⟩:=key
 refine vN (by simp) ?_
 have hd:decide (x∈l)=decide (0≤n):=by by_cases hx:x∈l<;>simp [hx,hn]
 rw [hd]
 rcases hv with h' | ⟨h',h''⟩
 ·subst h'
  simp [af,eP,h]
 ·subst h'
  simp [af,eP,h]
theorem adR (n:Nat) (h1:0<n) (h2:n≤1000000) (s:St) (cx:Ctx):
  ai P0 (.fn (.func fC) [] []) [.ns,.i .i64 n] s cx=.ret (.sk s.length 0 1 0 0) (s++[.buf ak 1 0 (List.replicate n [AV.s []]).flatten]):=by
 refine pI (by simp) ?_
 have q1:¬(n:Int)<0:=by omega
 have q2:(0:Int)<n:=by omega
 have q3:n≤16777216:=by omega
 have q4:IntKind.i64.wrap (n:Int)=n:=w64 (by omega) (by omega)
 have q5:IntKind.i64.wrap (0:Int)=0:=by decide
 simp [af,fM,q1,q2,q3,q4,q5,h1]
end Go.Ai.Z
