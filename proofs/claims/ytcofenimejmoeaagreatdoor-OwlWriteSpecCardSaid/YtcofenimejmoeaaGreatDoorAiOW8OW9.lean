/-
 slices.Concat of rows of strings; owl.foreign.
-/
import Derived.Test.YtcofenimejmoeaaGreatDoorAiOW6OW7
set_option maxRecDepth 100000
set_option linter.unusedSimpArgs false
set_option linter.unusedVariables false
set_option linter.unusedSectionVars false
namespace Go.Ai.Z
theorem abB (l:List Rl):slS l=slf true (l.map .s):=by cases l<;>rfl
def iG (l:List Rl):AV:=slf true (l.map .s)
def yL:List (List Rl)→Nat
 | []=>0
 | a::r=>a.length+yL r
theorem RQ:∀LL:List (List Rl),LL.flatten.length=yL LL
 | []=>rfl
 | a::r=>by simp [yL,RQ r]
@[simp] theorem ads (l:List Rl):(iG l).plain=iG l:=by cases l<;>rfl
@[simp] theorem acV (l:List Rl):(iG l).plain1=iG l:=by cases l<;>rfl
@[simp] theorem afH (l:List Rl):(iG l).one=true:=by cases l<;>rfl
@[simp] theorem adu (l:List Rl):(iG l).cells=[iG l]:=by cases l<;>rfl
@[simp] theorem adt (l:List Rl) (env:Env):uz env (some (.v (iG l)))=some (l.map .s):=by cases l<;>rfl
theorem Zx (V:List (List UInt8)):(V.map AV.s).all (fun e=>e.cells.length == 1)=true:=by simp
section
variable (LL:List (List Rl)) (hL:LL.length≤1000) (hT:yL LL≤100000) (s:St) (cx:Ctx)
include hL
theorem acX:∀(rest:List (List Rl)) (k n:Nat),LL.drop k=rest→k≤LL.length→n+yL rest≤100000→
  eX (au P0.glob (ai P0) cx false fU) [0,3,9,10,11] [(0,.v (.sl (LL.map iG))),(3,.v (.i .i64 n)),(9,.v (.sl (LL.map iG))),(10,.v (.i .i64 LL.length)),(11,.v (.i .i64 k))] s=
   .exit 0 [(0,.v (.sl (LL.map iG))),(3,.v (.i .i64 ((n+yL rest:Nat):Int))),(9,.v (.sl (LL.map iG))),(10,.v (.i .i64 LL.length)),(11,.v (.i .i64 LL.length)),(12,.v (.b false))] s
 | [],k,n,h,hk,hn=>by
  have h1:¬k<LL.length:=Nat.not_lt.2 (drop_nil h)
  have h2:k=LL.length:=by omega
  refine aj fun K hK=>?_
  simp [fU,h2,yL]
 | p::r,k,n,h,hk,hn=>by
  obtain ⟨h1,h2,h3,h4⟩:=drop_cons h
  have h5:=h4 h3
  have hw:=wI (i:=k) (by omega)
  simp only [yL] at hn
  have ih:=acX r (k+1) (n+p.length) h2 (by omega) (by omega)
  have w1:IntKind.i64.wrap ((n:Int)+p.length)=n+p.length:=w64 (by omega) (by omega)
  have q1:¬(n:Int)+p.length<0:=by omega
  refine aj fun K hK=>?_
  rw [←hK,show ((k+1:Nat):Int)=(k:Int)+1 from rfl,show ((n+p.length:Nat):Int)=(n:Int)+p.length by omega] at ih
  clear hK h4
  rw [show n+yL (p::r)=n+p.length+yL r by simp [yL];omega]
  simp [fU,h3,h5,hw,w1,q1,ih]
theorem aaz (hlim:cx.lim≤s.length):∀(rest:List (List Rl)) (k v:Nat) (M:List Rl) (Z:List AV),LL.drop k=rest→k≤LL.length→M.length+yL rest≤100000→
  ∃(v':Nat) (Z':List AV),eX (au P0.glob (ai P0) cx false bf) [6,25,26,27] [(6,.v (.sk s.length v 1 0 M.length)),(25,.v (.sl (LL.map iG))),(26,.v (.i .i64 LL.length)),(27,.v (.i .i64 k))] (s++[.buf ak 1 v (M.map .s++Z)])=
    .exit 2 [(6,.v (.sk s.length v' 1 0 (M++rest.flatten).length)),(25,.v (.sl (LL.map iG))),(26,.v (.i .i64 LL.length)),(27,.v (.i .i64 LL.length)),(28,.v (.b false))] (s++[.buf ak 1 v' ((M++rest.flatten).map .s++Z')])
 | [],k,v,M,Z,h,hk,hn=>by
  have h1:¬k<LL.length:=Nat.not_lt.2 (drop_nil h)
  have h2:k=LL.length:=by omega
  refine ⟨v,Z,aj fun K hK=>?_⟩
  simp [bf,h2]
 | []::r,k,v,M,Z,h,hk,hn=>by
  obtain ⟨h1,h2,h3,h4⟩:=drop_cons h
  have h5:=h4 h3
  have hw:=wI (i:=k) (by omega)
  obtain ⟨v',Z',ih⟩:=aaz hlim r (k+1) v M Z h2 (by omega) (by simpa [yL] using hn)
  refine ⟨v',Z',aj fun K hK=>?_⟩
  rw [←hK,show ((k+1:Nat):Int)=(k:Int)+1 from rfl] at ih
  clear hK h4
  have e0:iG []=.ns:=rfl
  simp only [List.flatten_cons,List.nil_append]
  rw [←ih]
  clear ih
  simp [bf,h3,h5,hw,e0]
 | (a::p)::r,k,v,M,Z,h,hk,hn=>by
  obtain ⟨h1,h2,h3,h4⟩:=drop_cons h
  have h5:=h4 h3
  have hw:=wI (i:=k) (by omega)
  simp only [yL,List.length_cons] at hn
  obtain ⟨v',Z',ih⟩:=aaz hlim r (k+1) (v+1) (M++(a::p)) [] h2 (by omega) (by simp;omega)
  refine ⟨v',Z',aj fun K hK=>?_⟩
  rw [←hK,show ((k+1:Nat):Int)=(k:Int)+1 from rfl] at ih
  clear hK h4
  have e0:iG (a::p)=.sl ((a::p).map .s):=rfl
  have hfm:∀L:List (List UInt8),(L.map AV.s).flatMap AV.cells=L.map AV.s:=fun L=>by
   induction L with
   | nil=>rfl
   | cons x r ih=>rw [List.map_cons,List.flatMap_cons,ih];rfl
  have hcl:=Zx p
  have hm2:M.length+(p.length+1)≤1073741824:=by omega
  have htk:∀Y:List AV,List.take M.length (M.map AV.s++Y)=M.map AV.s:=fun Y=>List.take_left' (by simp)
  simp only [List.flatten_cons,←List.append_assoc]
  rw [←ih]
  clear ih
  simp [bf,h3,h5,hw,e0,aP,hlim,hm2,hcl,hfm,htk]
theorem TK (s:St) (cx:Ctx):∀(rest:List (List Rl)) (k:Nat),LL.drop k=rest→k≤LL.length→yL rest=0→
  eX (au P0.glob (ai P0) cx false bf) [6,25,26,27] [(6,.v .ns),(25,.v (.sl (LL.map iG))),(26,.v (.i .i64 LL.length)),(27,.v (.i .i64 k))] s=
   .exit 2 [(6,.v .ns),(25,.v (.sl (LL.map iG))),(26,.v (.i .i64 LL.length)),(27,.v (.i .i64 LL.length)),(28,.v (.b false))] s
 | [],k,h,hk,hn=>by
  have h1:¬k<LL.length:=Nat.not_lt.2 (drop_nil h)
  have h2:k=LL.length:=by omega
  refine aj fun K hK=>?_
  simp [bf,h2]
 | p::r,k,h,hk,hn=>by
  obtain ⟨h1,h2,h3,h4⟩:=drop_cons h
  have h5:=h4 h3
  have hw:=wI (i:=k) (by omega)
  simp only [yL] at hn
  have ih:=TK s cx r (k+1) h2 (by omega) (by omega)
  have hp:p=[]:=List.eq_nil_of_length_eq_zero (by omega)
  subst hp
  refine aj fun K hK=>?_
  rw [←hK,show ((k+1:Nat):Int)=(k:Int)+1 from rfl] at ih
  clear hK h4
  have e0:iG []=.ns:=rfl
  rw [←ih]
  clear ih
  simp [bf,h3,h5,hw,e0]
include hT
theorem aa3 (s:St) (cx:Ctx) (hlim:cx.lim≤s.length):
  ai P0 (.fn (.func fH) [] []) [.sl (LL.map iG)] s cx=.ret (iG LL.flatten) s:=by
 have e0:=acX LL hL s ⟨cx.lim,s.length⟩ LL 0 0 rfl (by omega) (by omega)
 have hfl:=RQ LL
 refine xq (by simp) ?_
 simp only [Nat.zero_add] at e0
 by_cases hz:yL LL=0
 ·have e1:=TK LL hL s ⟨cx.lim,s.length⟩ LL 0 rfl (by omega) hz
  have h0:LL.flatten=[]:=List.eq_nil_of_length_eq_zero (by omega)
  rw [hz] at e0
  have q5:IntKind.i64.wrap (0:Int)=0:=by decide
  have hg:ai P0 (.fn (.func fC) [] []) [.ns,.i .i64 0] s ⟨cx.lim,s.length⟩=.ret .ns s:=by
   refine pI (by simp) ?_
   simp [af,fM,q5]
  simp at e0 e1
  simp [af,fD,e0,e1,hg,h0,iG]
 ·have eg:=adR (yL LL) (by omega) (by omega) s ⟨cx.lim,s.length⟩
  obtain ⟨v',Z',e1⟩:=aaz LL hL s ⟨cx.lim,s.length⟩ hlim LL 0 0 [] (List.replicate (yL LL) [AV.s []]).flatten rfl (by omega) (by simpa using hT)
  generalize (List.replicate (yL LL) [AV.s []]).flatten=Z at *
  have hne:LL.flatten≠[]:=fun h=>by rw [h] at hfl;exact hz hfl.symm
  have hfr:=Yg (s:=s) (t:=ak) (ver:=v') LL.flatten hne Z'
  have hr:iG LL.flatten=.sl (LL.flatten.map .s):=by
   cases hh:LL.flatten with
   | nil=>exact absurd hh hne
   | cons a r=>rfl
  rw [hr]
  simp only [List.nil_append] at e1
  generalize LL.flatten=M at *
  simp at e0 e1 hfr
  simp [af,fD,e0,eg,e1,hfr]
end
def IC (n:Rl):List Rl:=match kZ 58 n with|some (x,_)=>[x] | none=>[]
theorem VZ (n:Rl):(IC n).length≤1:=by unfold IC;split<;>simp
theorem KY:∀N:List Rl,(N.flatMap IC).length≤N.length
 | []=>by simp
 | a::r=>by
  have h1:=KY r
  have h2:=VZ a
  simp only [List.flatMap_cons,List.length_append,List.length_cons];omega
theorem Tc (N:List Rl) (hN:N.length≤100000) (hn:∀x∈N,x.length≤1000000) (s:St):∀(rest:List Rl) (k:Nat) (V:List Rl),N.drop k=rest→k≤N.length→V.length+rest.length≤100000→
  eX (au P0.glob (ai P0) ⟨s.length,s.length⟩ false jO) [2,17,18,19]
   [(2,.v (XK s.length V)),(17,.v (iG N)),(18,.v (.i .i64 N.length)),(19,.v (.i .i64 k))] (s++WE V)=
  .exit 0 [(2,.v (XK s.length (V++rest.flatMap IC))),(17,.v (iG N)),(18,.v (.i .i64 N.length)),(19,.v (.i .i64 N.length)),(20,.v (.b false))] (s++WE (V++rest.flatMap IC))
 | [],k,V,h,hk,_=>by
  have h1:¬k<N.length:=Nat.not_lt.2 (drop_nil h)
  have h2:k=N.length:=by omega
  refine aj fun K hK=>?_
  simp [jO,h2]
 | p::r,k,V,h,hk,hV=>by
  obtain ⟨h1,h2,h3,h4⟩:=drop_cons h
  have h5:=h4 h3
  have hw:=wI (i:=k) (by omega)
  have hc1:=VZ p
  simp only [List.length_cons] at hV
  have ih:=Tc N hN hn s r (k+1) (V++IC p) h2 (by omega) (by simp;omega)
  have ec:=Bj p 58 (by have:=hn p (by rw [←h5];exact List.getElem_mem h3);omega)
  have hr:iG N=.sl (N.map .s):=by
   cases N with
   | nil=>simp at h3
   | cons a r=>rfl
  have hmx:V.length+1≤aP:=by unfold aP;omega
  have h1m:1≤aP:=by unfold aP;omega
  simp only [List.flatMap_cons,←List.append_assoc]
  rw [hr] at ih ⊢
  refine aj fun K hK=>?_
  rw [←hK,show ((k+1:Nat):Int)=(k:Int)+1 from rfl] at ih
  rw [←ih]
  clear hK h4 ih hn
  unfold IC
  cases hc:kZ 58 p with
  | none=>
   rw [hc] at ec
   simp [jO,h3,h5,hw,ec]
  | some q=>
   obtain ⟨x,y⟩:=q
   rw [hc] at ec
   cases V with
   | nil=>simp [jO,h3,h5,hw,ec,XK,WE,h1m]
   | cons v r=>
    simp at hmx
    have htk:List.take r.length (r.map AV.s)=r.map AV.s:=List.take_of_length_le (by simp)
    simp [jO,h3,h5,hw,ec,XK,WE,hmx,htk]
def Na (V:List Rl):List Rl:=eY (Go.Ai.sortStr V)
theorem RF (A R F I:List Rl) (hT:A.length+R.length+F.length+I.length≤100000) (hn:∀x∈A++R++F++I,x.length≤1000000) (s:St) (cx:Ctx):
  ai P0 (.fn (.func tq) [] []) [.ag [iG A,iG R,iG F,iG I]] s cx=.ret (iG (Na ((A++R++F++I).flatMap IC))) s:=by
 have ec:=aa3 [A,R,F,I] (by simp) (by simp [yL];omega) s ⟨s.length,s.length⟩ (Nat.le_refl _)
 have hfl:[A,R,F,I].flatten=A++R++F++I:=by simp
 rw [hfl] at ec
 have hNl:(A++R++F++I).length≤100000:=by simp;omega
 generalize A++R++F++I=N at *
 have hl:=Tc N (by omega) hn s N 0 [] rfl (by omega) (by simp;omega)
 have hvl:=KY N
 rw [show XK s.length []=.ns from rfl,show s++WE []=s from by simp [WE],List.nil_append] at hl
 generalize N.flatMap IC=V at *
 simp only [List.map_cons,List.map_nil] at ec
 cases V with
 | nil=>
  have h0:iG (Na [])=.ns:=rfl
  rw [h0]
  refine EW (by simp) ?_
  simp [XK,WE] at hl
  simp [af,qR,show List.range 4=[0,1,2,3] from rfl,ec,hl,jY,splice,Rw,RG]
 | cons v r=>
  have hvl':(v::r).length≤300000:=by omega
  have hSl:(Go.Ai.sortStr (v::r)).length=(v::r).length:=(oq (v::r)).length_eq
  have hne:eY (Go.Ai.sortStr (v::r))≠[]:=by
   cases hS:Go.Ai.sortStr (v::r) with
   | nil=>rw [hS] at hSl;simp at hSl
   | cons a r=>simp [eY]
  have e2:=XI (v::r) hvl' (s++[.buf ak 1 r.length ((v::r).map .s)]) ⟨s.length,s.length⟩ s.length ak r.length (by simp) (Nat.le_refl _) (Nat.le_refl _)
  have e3:=XJ (Go.Ai.sortStr (v::r)) (by omega) (s++[.buf ak 1 r.length ((Go.Ai.sortStr (v::r)).map .s)]) ⟨s.length,s.length⟩ s.length ak r.length (by simp) (Nat.le_refl _) (Nat.le_refl _) (v::r).length hSl.symm (by simp)
  obtain ⟨Z,hZ⟩:∃Z,yD (Go.Ai.sortStr (v::r))=(eY (Go.Ai.sortStr (v::r))).map AV.s++Z:=⟨_,rfl⟩
  rw [hZ] at e3
  have hset:∀x y:gG,(s++[x]).set s.length y=s++[y]:=fun x y=>by simp
  rw [hset] at e2 e3
  have hfz:=Yg (s:=s) (t:=ak) (ver:=r.length) (eY (Go.Ai.sortStr (v::r))) hne Z
  have h0:iG (Na (v::r))=.sl ((eY (Go.Ai.sortStr (v::r))).map AV.s):=by
   unfold Na
   cases hc:eY (Go.Ai.sortStr (v::r)) with
   | nil=>exact absurd hc hne
   | cons x y=>rfl
  rw [h0]
  generalize eY (Go.Ai.sortStr (v::r))=C at *
  generalize Go.Ai.sortStr (v::r)=S1 at *
  simp only [XK,WE] at hl
  simp only [List.length_cons] at e2 e3
  simp only [List.map_cons] at hl e2
  refine EW (by simp) ?_
  simp at hl
  simp [af,qR,show List.range 4=[0,1,2,3] from rfl,ec,hl,jY,splice,e2,e3,hfz]
end Go.Ai.Z
namespace Go.Ai.Z
def goW (x:Rl):List Rl→Bool→List Rl×Bool
 | [],d=>([],d)
 | y::r,d=>if x<y∧(d || decide (y=x))=false then (x::y::(goW x r true).1,(goW x r true).2)
  else (y::(goW x r (d || decide (y=x))).1,(goW x r (d || decide (y=x))).2)
def IL (l:List Rl) (x:Rl):List Rl:=if (goW x l false).2=true then (goW x l false).1 else (goW x l false).1++[x]
theorem UB (x:Rl):∀(l:List Rl) (d:Bool),(goW x l d).1.length≤2 * l.length
 | [],d=>by simp [goW]
 | y::r,d=>by
  have h1:=UB x r true
  have h2:=UB x r (d || decide (y=x))
  simp only [goW]
  split<;>simp only [List.length_cons]<;>omega
theorem PZ (x:Rl):∀(l:List Rl),goW x l true=(l,true)
 | []=>rfl
 | y::r=>by simp [goW,PZ x r]
theorem J4 {x:Rl}:∀{l:List Rl},Srt l→IL l x=kS l x
 | [],_=>by simp [IL,goW,kS]
 | y::r,h=>by
  have h2:Srt r:=by unfold Srt at h ⊢;exact (List.pairwise_cons.1 h).2
  have h3:∀z∈r,y<z:=by unfold Srt at h;exact (List.pairwise_cons.1 h).1
  have ih:=J4 (x:=x) h2
  by_cases he:y=x
  ·subst he
   have hnl:¬y<y:=List.lt_irrefl y
   simp [IL,goW,PZ,kS,hnl]
  ·by_cases hlt:x<y
   ·have hx:x ∉ y::r:=by
     intro hm
     rcases List.mem_cons.1 hm with rfl|hm
     ·exact he rfl
     ·exact List.lt_irrefl x (List.lt_trans hlt (h3 x hm))
    have hny:¬y<x:=fun hh=>List.lt_irrefl x (List.lt_trans hlt hh)
    rw [kS,if_neg hx]
    simp [IL,goW,PZ,he,hlt,hny,List.takeWhile_cons,List.dropWhile_cons]
   ·have hyx:y<x:=by
     rcases List.le_iff_lt_or_eq.1 (List.not_lt.1 hlt) with h|h
     ·exact h
     ·exact absurd h he
    have e1:IL (y::r) x=y::IL r x:=by
     unfold IL
     have:goW x (y::r) false=(y::(goW x r false).1,(goW x r false).2):=by simp [goW,he,hlt]
     rw [this]
     split<;>simp
    rw [e1,ih]
    unfold kS
    have hxy:¬x=y:=fun h=>he h.symm
    by_cases hm:x∈r
    ·simp [hm]
    ·simp [hm,hxy,hyx,List.takeWhile_cons,List.dropWhile_cons]
theorem Dj (z:Bool) (l:List Rl) (x:Rl) (hl:l.length≤100000) (s:St) (cx:Ctx):∀(rest:List Rl) (i:Nat) (d:Bool) (acc:List Rl),l.drop i=rest→acc.length+2 * rest.length≤400000→
  ∃j:Int,eX (au P0.glob (ai P0) cx false iO) [0,1,5,6,7] [(0,.v (slf z (l.map .s))),(1,.v (.s x)),(5,.own false ak 1 (acc.map .s)),(6,.v (.b d)),(7,.v (.i .i64 i))] s=
   .exit 0 [(0,.v (slf z (l.map .s))),(1,.v (.s x)),(5,.own false ak 1 ((acc++(goW x rest d).1).map .s)),(6,.v (.b (goW x rest d).2)),(7,.v (.i .i64 j)),(12,.v (.b false))] s
 | [],i,d,acc,h,ha=>by
  have h1:¬i<l.length:=Nat.not_lt.2 (drop_nil h)
  refine ⟨i,aj fun K hK=>?_⟩
  simp [iO,h1,goW]
 | y::r,i,d,acc,h,ha=>by
  obtain ⟨h1,h2,h3,h4⟩:=drop_cons h
  have h5:=h4 h3
  have hw:=wI (i:=i) (by omega)
  simp only [List.length_cons] at ha
  have m1:acc.length+1≤aP:=by unfold aP;omega
  have m2:acc.length+1+1≤aP:=by unfold aP;omega
  by_cases hc:x<y∧(d || decide (y=x))=false
  ·obtain ⟨j,ih⟩:=Dj z l x hl s cx r (i+1) true (acc++[x]++[y]) h2 (by simp;omega)
   refine ⟨j,aj fun K hK=>?_⟩
   rw [←hK,show ((i+1:Nat):Int)=(i:Int)+1 from rfl] at ih
   clear hK h4
   have e1:goW x (y::r) d=(x::y::(goW x r true).1,(goW x r true).2):=by rw [goW,if_pos hc]
   rw [e1]
   obtain ⟨c1,c2⟩:=hc
   obtain ⟨rfl,c3⟩:d=false∧¬y=x:=by simpa using c2
   simp at ih
   simp -implicitDefEqProofs [iO,h3,h5,hw,rQ,c1,c3,m1,m2,ih]
  ·have e1:goW x (y::r) d=(y::(goW x r (d || decide (y=x))).1,(goW x r (d || decide (y=x))).2):=by rw [goW,if_neg hc]
   obtain ⟨j,ih⟩:=Dj z l x hl s cx r (i+1) (d || decide (y=x)) (acc++[y]) h2 (by simp;omega)
   refine ⟨j,aj fun K hK=>?_⟩
   rw [←hK,show ((i+1:Nat):Int)=(i:Int)+1 from rfl] at ih
   clear hK h4
   rw [e1]
   by_cases hy:y=x
   ·simp [hy] at ih
    rw [hy] at h5
    have hnl:¬x<x:=List.lt_irrefl x
    simp -implicitDefEqProofs [iO,h3,h5,hw,rQ,hnl,hy,m1,m2,ih]
   ·simp [hy] at ih hc
    cases d
    ·have hlt:¬x<y:=by simpa using hc
     simp -implicitDefEqProofs [iO,h3,h5,hw,rQ,hlt,hy,m1,m2,ih]
    ·by_cases hlt:x<y
     ·simp -implicitDefEqProofs [iO,h3,h5,hw,rQ,hlt,hy,m1,m2,ih]
     ·simp -implicitDefEqProofs [iO,h3,h5,hw,rQ,hlt,hy,m1,m2,ih]
theorem JV (z:Bool) (l:List Rl) (x:Rl) (hl:l.length≤100000) (s:St) (cx:Ctx):ai P0 (.fn (.func gy) [] []) [slf z (l.map .s),.s x] s cx=.ret (.sl ((IL l x).map .s)) s:=by
 obtain ⟨j,h⟩:=Dj z l x hl s ⟨s.length,s.length⟩ l 0 false [] rfl (by simp;omega)
 refine Rh (by simp) ?_
 have hg:=UB x l false
 have m1:(goW x l false).1.length+1≤aP:=by unfold aP;omega
 simp at h
 unfold IL
 cases hd:(goW x l false).2
 ·rw [hd] at h
  simp -implicitDefEqProofs [af,sS,h,m1]
 ·rw [hd] at h
  simp -implicitDefEqProofs [af,sS,h]
end Go.Ai.Z
