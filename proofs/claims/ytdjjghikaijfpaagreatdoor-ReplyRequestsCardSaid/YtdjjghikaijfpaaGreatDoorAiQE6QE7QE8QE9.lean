/-
 The printed text of a query; equal queries.
-/
import Derived.Test.YtdjjghikaijfpaaGreatDoorAiQE3QE4QE5
import Derived.Test.YtdjjghikaijfpaaGreatDoorAiQA5QA6QA7QB1QB2
import Derived.Test.YtdjjghikaijfpaaGreatDoorAiQD1QD2QD3QD4
set_option maxRecDepth 100000
set_option linter.unusedSimpArgs false
set_option linter.unusedVariables false
set_option linter.unusedSectionVars false
namespace Go.Ai.Z
open Go.Ai
open Go.Lib (itoa decDigits nDigits)
theorem abH (A B X:AV) (T:List (List UInt8)) (hT:T.length≤100000) (hA:A=.sl (T.map .s)) (hB:B=.sl (T.map .s)) (s:St) (cx:Ctx):∀(rest:List (List UInt8)) (i:Nat),T.drop i=rest→
  ∃j:Int,bF (ay P0.glob (aj P0) cx false nC) [2,3,5] [(2,.bx [A,X]),(3,.bx [B,X]),(5,.v (.i .i64 i))] s=
   .exit 0 [(2,.bx [A,X]),(3,.bx [B,X]),(5,.v (.i .i64 j)),(27,.v (.b false))] s
 | [],i,h=>by
  subst hA hB
  have h1:¬i<T.length:=Nat.not_lt.2 (drop_nil h)
  refine ⟨i,ak fun K hK=>?_⟩
  simp [nC,h1]
 | p::r,i,h=>by
  obtain ⟨h1,h2,h3,h4⟩:=drop_cons h
  have h5:=h4 h3
  have hwi:=wI (i:=i) (by omega)
  obtain ⟨j,ih⟩:=abH A B X T hT hA hB s cx r (i+1) h2
  subst hA hB
  refine ⟨j,ak fun K hK=>?_⟩
  rw [←hK] at ih
  clear hK h4
  simp at ih
  simp [nC,h3,h5,hwi,ih]
theorem abG (A B:AV) (L:List (List At)) (hL:L.length≤100000) (hl:∀p∈L,p.length≤100000) (s:St) (cx:Ctx):∀(rest:List (List At)) (i:Nat),L.drop i=rest→
  ∃j:Int,bF (ay P0.glob (aj P0) cx false uO) [2,3,6] [(2,.bx [A,.sl (L.map jT)]),(3,.bx [B,.sl (L.map jT)]),(6,.v (.i .i64 i))] s=
   .exit 2 [(2,.bx [A,.sl (L.map jT)]),(3,.bx [B,.sl (L.map jT)]),(6,.v (.i .i64 j)),(45,.v (.b false))] s
 | [],i,h=>by
  have h1:¬i<L.length:=Nat.not_lt.2 (drop_nil h)
  refine ⟨i,ak fun K hK=>?_⟩
  simp [uO,h1]
 | p::r,i,h=>by
  obtain ⟨h1,h2,h3,h4⟩:=drop_cons h
  have h5:=h4 h3
  have hwi:=wI (i:=i) (by omega)
  have e1:=aiE p (hl p (by rw [←h5];exact List.getElem_mem h3))
  obtain ⟨j,ih⟩:=abG A B L hL hl s cx r (i+1) h2
  refine ⟨j,ak fun K hK=>?_⟩
  rw [←hK] at ih
  clear hK h4
  simp at ih
  simp [uO,h3,h5,hwi,ih,jT,e1]
def atS (a:At):List UInt8:=
 if a.kind=2 then a.name++[40]++a.x++[44,32]++a.y++[41]
 else if a.kind=3 then a.name++[40]++a.x++[41,32,105,110,32]++itoa a.lo++[32,116,111,32]++itoa a.hi
 else a.name++[40]++a.x++[41]
theorem Jj (n:Int) (h1:-1099511627776≤n) (h2:n≤1099511627776):(itoa n).length≤20:=by
 have hd:∀u:Nat,u≤1099511627776→(decDigits u).length≤17:=fun u hu=>by
  have h10:∀(k:Nat) (u:Nat),u<10 ^ (k+1)→(decDigits u).length≤k+1:=by
   intro k
   induction k with
   | zero=>intro u hu;rw [AX (by simpa using hu)];simp
   | succ k ih=>
    intro u hu
    by_cases h10:u<10
    ·rw [AX h10];simp
    ·rw [XU h10]
     have:=ih (u / 10) (by rw [Nat.pow_succ] at hu;omega)
     simp;omega
  exact h10 16 u (by omega)
 unfold itoa
 split
 ·have:=hd n.natAbs (by omega);simp;omega
 ·have:=hd n.toNat (by omega);omega
structure At.Val (a:At):Prop where
 k:a.kind=1∨a.kind=2∨a.kind=3
 y:a.kind≠2→a.y=[]
 z:a.kind≠3→a.lo=0∧a.hi=0
 l1:-1099511627776≤a.lo
 l2:a.lo≤1099511627776
 h1:-1099511627776≤a.hi
 h2:a.hi≤1099511627776
 n:zB a.name=true
 tx:qg a.x=true
 ty:a.kind=2→qg a.y=true
theorem At.val {a:At} (h:atE a=0):a.Val:=by
 unfold atE at h
 split at h
 ·omega
 rename_i c1
 split at h
 ·omega
 rename_i c2
 split at h
 ·omega
 rename_i c3
 split at h
 ·omega
 rename_i c4
 split at h
 rotate_left
 ·omega
 rename_i c5
 simp only [Bool.not_eq_false] at c4
 refine ⟨by omega,fun hk=>?_,fun hk=>?_,by omega,by omega,by omega,by omega,c4, ?_,fun hk=>?_⟩
 ·rcases Classical.em (a.y=[]) with h|h
  ·exact h
  ·exact absurd (.inl ⟨hk,h⟩) c2
 ·constructor
  ·rcases Classical.em (a.lo=0) with h|h
   ·exact h
   ·exact absurd (.inr ⟨hk,.inl h⟩) c2
  ·rcases Classical.em (a.hi=0) with h|h
   ·exact h
   ·exact absurd (.inr ⟨hk,.inr h⟩) c2
 ·rw [List.all_eq_true] at c5
  exact c5 a.x (by unfold Ey;split<;>simp)
 ·rw [List.all_eq_true] at c5
  exact c5 a.y (by unfold Ey;rw [if_pos hk];simp)
theorem AB {l:List UInt8} (h:qg l=true):l.length≤24:=by
 unfold qg at h
 rw [Bool.or_eq_true] at h
 rcases h with h|h
 ·unfold yE at h
  split at h
  ·simp only [Bool.and_eq_true,decide_eq_true_eq,List.length_cons] at h ⊢
   omega
  ·cases h
 ·unfold zB at h
  rw [Bool.and_eq_true,Bool.or_eq_true] at h
  rcases h.1 with h|h
  ·unfold jc at h;rw [Bool.and_eq_true,decide_eq_true_eq] at h;exact h.1
  ·unfold Gg at h;simp only [Bool.and_eq_true,decide_eq_true_eq] at h;exact h.1.1.2
theorem Y5 {l:List UInt8} (h:zB l=true):l.length≤24:=AB (by unfold qg;rw [h];simp)
theorem ab1 {a:At} (h:a.Val):(atS a).length≤130:=by
 have h1:=Y5 h.n
 have h2:=AB h.tx
 have h3:=Jj a.lo h.l1 h.l2
 have h4:=Jj a.hi h.h1 h.h2
 unfold atS
 split
 ·rename_i hk
  have:=AB (h.ty hk)
  simp;omega
 ·split<;>simp<;>omega
theorem aiD (a:At) (h:a.Val) (s:St) (cx:Ctx):aj P0 (.fn (.func yh) [] []) [bG a] s cx=.ret (.s (atS a)) s:=by
 have h1:=Y5 h.n
 have h2:=AB h.tx
 have h3:=Jj a.lo h.l1 h.l2
 have h4:=Jj a.hi h.h1 h.h2
 have e1:=IL a.lo (by have:=h.l1;omega) (by have:=h.l2;omega)
 have e2:=IL a.hi (by have:=h.h1;omega) (by have:=h.h2;omega)
 refine VH (by simp) ?_
 unfold atS
 by_cases k2:a.kind=2
 ·have h5:=AB (h.ty k2)
  have q1:a.name.length+1≤4611686018427387904:=by omega
  have q2:a.name.length+(a.x.length+1)≤4611686018427387904:=by omega
  rw [if_pos k2]
  simp [af,sG,bG,k2]
  repeat' (first | (split<;>(try simp only [dG,dH,dI,gQ,gU])<;>(try simp [*])) | (simp only [dG,dH,dI,gQ,gU]<;>(try simp [*]))|omega)
 ·by_cases k3:a.kind=3
  ·rw [if_neg k2,if_pos k3]
   simp [af,sG,bG,k2,k3,e1,e2]
   repeat' (first | (split<;>(try simp only [dG,dH,dI,gQ,gU])<;>(try simp [*])) | (simp only [dG,dH,dI,gQ,gU]<;>(try simp [*]))|omega)
  ·rw [if_neg k2,if_neg k3]
   simp [af,sG,bG,k2,k3]
   repeat' (first | (split<;>(try simp only [dG,dH,dI,gQ,gU])<;>(try simp [*])) | (simp only [dG,dH,dI,gQ,gU]<;>(try simp [*]))|omega)
end Go.Ai.Z
namespace Go.Ai.Z
open Go.Ai
def WZ:List UInt8:=[32,97,110,100,32]
def wOr:List UInt8:=[32,111,114,32]
def NZ:List UInt8:=[32,119,104,101,114,101,32]
def ptS (p:List At):List UInt8:=joinL WZ (p.map atS)
def quS (T:List (List UInt8)) (ps:List (Bool×List At)):List UInt8:=joinL [32] (EM::T)++NZ++joinL wOr (ps.map fun p=>ptS p.2)
theorem Ji (sep:List UInt8) (k:Nat):∀(l:List (List UInt8)),(∀x∈l,x.length≤k)→(joinL sep l).length≤l.length * (k+sep.length)
 | [],_=>by simp [joinL]
 | x::r,h=>by
  have hx:=h x (by simp)
  have hr:(r.flatMap fun y=>sep++y).length≤r.length * (k+sep.length):=by
   have:∀r:List (List UInt8),(∀x∈r,x.length≤k)→(r.flatMap fun y=>sep++y).length≤r.length * (k+sep.length):=by
    intro r
    induction r with
    | nil=>intro _;simp
    | cons a r ih=>
     intro hr
     have h1:=hr a (by simp)
     have h2:=ih (fun x hx=>hr x (by simp [hx]))
     simp only [List.flatMap_cons,List.length_append,List.length_cons]
     rw [Nat.add_mul];omega
   exact this r (fun x hx=>h x (by simp [hx]))
  simp only [joinL,List.length_append,List.length_cons]
  rw [Nat.add_mul];omega
theorem aa1 (n:Nat) (h1:0<n) (h2:n≤10000) (s:St) (cx:Ctx):
  aj P0 (.fn (.func gK) [] []) [.ns,.i .i64 n] s cx=.ret (.sk s.length 0 1 0 0) (s++[.buf au 1 0 (List.replicate n [AV.s []]).flatten]):=by
 refine zS (by simp) ?_
 have q1:¬(n:Int)<0:=by omega
 have q2:(0:Int)<n:=by omega
 have q3:n≤16777216:=by omega
 have q4:IntKind.i64.wrap (n:Int)=n:=w64 (by omega) (by omega)
 have q5:IntKind.i64.wrap (0:Int)=0:=by decide
 simp [af,iZ,q1,q2,q3,q4,q5,h1]
theorem adH (u:List UInt8) (T:List (List UInt8)) (hne:T≠[]) (hT:T.length≤1000) (s:St) (cx:Ctx) (hlim:cx.lim≤s.length):
  aj P0 (.fn (.func aY) [] []) [.sl [.sl [.s u],.sl (T.map .s)]] s cx=.ret (.sl ((u::T).map .s)) s:=by
 refine kJ (by simp) ?_
 have v1:IntKind.i64.wrap 1=1:=by decide
 have v2:IntKind.i64.wrap 2=2:=by decide
 have w1:IntKind.i64.wrap ((1:Int)+T.length)=1+T.length:=w64 (by omega) (by omega)
 have q1:¬(1:Int)+T.length<0:=by omega
 have e2:bF (ay P0.glob (aj P0) ⟨cx.lim,s.length⟩ false aB) [0,3,9,10,11] [(0,.v (.sl [.sl [.s u],.sl (T.map .s)])),(3,.v (.i .i64 (1+T.length))),(9,.v (.sl [.sl [.s u],.sl (T.map .s)])),(10,.v (.i .i64 2)),(11,.v (.i .i64 2))] s=.exit 0 [(0,EV.v (.sl [.sl [.s u],.sl (T.map .s)])),(3,.v (.i .i64 (1+T.length))),(9,.v (.sl [.sl [.s u],.sl (T.map .s)])),(10,.v (.i .i64 2)),(11,.v (.i .i64 2)),(12,.v (.b false))] s:=
  ak fun K hK=>by simp [aB]
 have e1:bF (ay P0.glob (aj P0) ⟨cx.lim,s.length⟩ false aB) [0,3,9,10,11] [(0,.v (.sl [.sl [.s u],.sl (T.map .s)])),(3,.v (.i .i64 1)),(9,.v (.sl [.sl [.s u],.sl (T.map .s)])),(10,.v (.i .i64 2)),(11,.v (.i .i64 1))] s=.exit 0 [(0,EV.v (.sl [.sl [.s u],.sl (T.map .s)])),(3,.v (.i .i64 (1+T.length))),(9,.v (.sl [.sl [.s u],.sl (T.map .s)])),(10,.v (.i .i64 2)),(11,.v (.i .i64 2)),(12,.v (.b false))] s:=
  ak fun K hK=>by
   rw [←hK] at e2
   clear hK
   simp [aB,v1,v2,w1,q1,e2]
 have e0:bF (ay P0.glob (aj P0) ⟨cx.lim,s.length⟩ false aB) [0,3,9,10,11] [(0,.v (.sl [.sl [.s u],.sl (T.map .s)])),(3,.v (.i .i64 0)),(9,.v (.sl [.sl [.s u],.sl (T.map .s)])),(10,.v (.i .i64 2)),(11,.v (.i .i64 0))] s=.exit 0 [(0,EV.v (.sl [.sl [.s u],.sl (T.map .s)])),(3,.v (.i .i64 (1+T.length))),(9,.v (.sl [.sl [.s u],.sl (T.map .s)])),(10,.v (.i .i64 2)),(11,.v (.i .i64 2)),(12,.v (.b false))] s:=
  ak fun K hK=>by
   rw [←hK] at e1
   clear hK
   simp [aB,v1,v2,e1]
 clear e1 e2
 have eg:=aa1 (T.length+1) (by omega) (by omega) s ⟨cx.lim,s.length⟩
 rw [show ((T.length+1:Nat):Int)=1+T.length by omega] at eg
 generalize (List.replicate (T.length+1) [AV.s []]).flatten=Z at eg
 have hcl:=O9 T
 have hm':1+T.length≤1073741824:=by omega
 obtain ⟨a,T,rfl⟩:∃a T',T=a::T':=by
  cases T with
  | nil=>exact absurd rfl hne
  | cons a T=>exact ⟨a,T,rfl⟩
 have hfm:∀L:List (List UInt8),(L.map AV.s).flatMap AV.cells=L.map AV.s:=fun L=>by
  induction L with
  | nil=>rfl
  | cons x r ih=>rw [List.map_cons,List.flatMap_cons,ih];rfl
 have hm2:1+(T.length+1)≤1073741824:=by simp at hm';omega
 have hfr:=XK (s:=s) (t:=au) (ver:=2) (u::a::T) (by simp) []
 have g2:bF (ay P0.glob (aj P0) ⟨cx.lim,s.length⟩ false aA) [6,25,26,27] [(6,.v (.sk s.length 2 1 0 (1+(a::T).length))),(25,.v (.sl [.sl [.s u],.sl ((a::T).map .s)])),(26,.v (.i .i64 2)),(27,.v (.i .i64 2))] (s++[.buf au 1 2 (.s u::(a::T).map .s)])=.exit 2 [(6,.v (.sk s.length 2 1 0 (1+(a::T).length))),(25,.v (.sl [.sl [.s u],.sl ((a::T).map .s)])),(26,.v (.i .i64 2)),(27,.v (.i .i64 2)),(28,.v (.b false))] (s++[.buf au 1 2 (.s u::(a::T).map .s)]):=
  ak fun K hK=>by simp [aA]
 have g1:bF (ay P0.glob (aj P0) ⟨cx.lim,s.length⟩ false aA) [6,25,26,27] [(6,.v (.sk s.length 1 1 0 1)),(25,.v (.sl [.sl [.s u],.sl ((a::T).map .s)])),(26,.v (.i .i64 2)),(27,.v (.i .i64 1))] (s++[.buf au 1 1 [.s u]])=.exit 2 [(6,.v (.sk s.length 2 1 0 (1+(a::T).length))),(25,.v (.sl [.sl [.s u],.sl ((a::T).map .s)])),(26,.v (.i .i64 2)),(27,.v (.i .i64 2)),(28,.v (.b false))] (s++[.buf au 1 2 (.s u::(a::T).map .s)]):=
  ak fun K hK=>by
   rw [←hK] at g2
   clear hK
   simp at g2
   simp [aA,v2,aW,hlim,hm2,hcl,hfm,g2]
 have g0:bF (ay P0.glob (aj P0) ⟨cx.lim,s.length⟩ false aA) [6,25,26,27] [(6,.v (.sk s.length 0 1 0 0)),(25,.v (.sl [.sl [.s u],.sl ((a::T).map .s)])),(26,.v (.i .i64 2)),(27,.v (.i .i64 0))] (s++[.buf au 1 0 Z])=.exit 2 [(6,.v (.sk s.length 2 1 0 (1+(a::T).length))),(25,.v (.sl [.sl [.s u],.sl ((a::T).map .s)])),(26,.v (.i .i64 2)),(27,.v (.i .i64 2)),(28,.v (.b false))] (s++[.buf au 1 2 (.s u::(a::T).map .s)]):=
  ak fun K hK=>by
   rw [←hK] at g1
   clear hK
   simp at g1
   simp [aA,v1,aW,hlim,g1]
 have hcm:1+((T.length:Int)+1)=(T.length:Int)+1+1:=by omega
 have hcn:1+(T.length+1)=T.length+1+1:=by omega
 simp [hcm,hcn] at e0 eg g0 hfr
 simp [af,dL,e0,eg,g0,hfr,hcm,hcn]
theorem aa2 (u:List UInt8)  (s:St) (cx:Ctx) (hlim:cx.lim≤s.length):
  aj P0 (.fn (.func aY) [] []) [.sl [.sl [.s u],.ns]] s cx=.ret (.sl ([.s u])) s:=by
 refine kJ (by simp) ?_
 have v1:IntKind.i64.wrap 1=1:=by decide
 have v2:IntKind.i64.wrap 2=2:=by decide
 have e2:bF (ay P0.glob (aj P0) ⟨cx.lim,s.length⟩ false aB) [0,3,9,10,11] [(0,.v (.sl [.sl [.s u],.ns])),(3,.v (.i .i64 1)),(9,.v (.sl [.sl [.s u],.ns])),(10,.v (.i .i64 2)),(11,.v (.i .i64 2))] s=.exit 0 [(0,EV.v (.sl [.sl [.s u],.ns])),(3,.v (.i .i64 1)),(9,.v (.sl [.sl [.s u],.ns])),(10,.v (.i .i64 2)),(11,.v (.i .i64 2)),(12,.v (.b false))] s:=
  ak fun K hK=>by simp [aB]
 have e1:bF (ay P0.glob (aj P0) ⟨cx.lim,s.length⟩ false aB) [0,3,9,10,11] [(0,.v (.sl [.sl [.s u],.ns])),(3,.v (.i .i64 1)),(9,.v (.sl [.sl [.s u],.ns])),(10,.v (.i .i64 2)),(11,.v (.i .i64 1))] s=.exit 0 [(0,EV.v (.sl [.sl [.s u],.ns])),(3,.v (.i .i64 1)),(9,.v (.sl [.sl [.s u],.ns])),(10,.v (.i .i64 2)),(11,.v (.i .i64 2)),(12,.v (.b false))] s:=
  ak fun K hK=>by
   rw [←hK] at e2
   clear hK
   simp [aB,v1,v2, e2]
 have e0:bF (ay P0.glob (aj P0) ⟨cx.lim,s.length⟩ false aB) [0,3,9,10,11] [(0,.v (.sl [.sl [.s u],.ns])),(3,.v (.i .i64 0)),(9,.v (.sl [.sl [.s u],.ns])),(10,.v (.i .i64 2)),(11,.v (.i .i64 0))] s=.exit 0 [(0,EV.v (.sl [.sl [.s u],.ns])),(3,.v (.i .i64 1)),(9,.v (.sl [.sl [.s u],.ns])),(10,.v (.i .i64 2)),(11,.v (.i .i64 2)),(12,.v (.b false))] s:=
  ak fun K hK=>by
   rw [←hK] at e1
   clear hK
   simp [aB,v1,v2,e1]
 clear e1 e2
 have eg:=aa1 1 (by omega) (by omega) s ⟨cx.lim,s.length⟩
 generalize (List.replicate 1 [AV.s []]).flatten=Z at eg
 have g2:bF (ay P0.glob (aj P0) ⟨cx.lim,s.length⟩ false aA) [6,25,26,27] [(6,.v (.sk s.length 1 1 0 1)),(25,.v (.sl [.sl [.s u],.ns])),(26,.v (.i .i64 2)),(27,.v (.i .i64 2))] (s++[.buf au 1 1 [.s u]])=.exit 2 [(6,.v (.sk s.length 1 1 0 1)),(25,.v (.sl [.sl [.s u],.ns])),(26,.v (.i .i64 2)),(27,.v (.i .i64 2)),(28,.v (.b false))] (s++[.buf au 1 1 [.s u]]):=
  ak fun K hK=>by simp [aA]
 have g1:bF (ay P0.glob (aj P0) ⟨cx.lim,s.length⟩ false aA) [6,25,26,27] [(6,.v (.sk s.length 1 1 0 1)),(25,.v (.sl [.sl [.s u],.ns])),(26,.v (.i .i64 2)),(27,.v (.i .i64 1))] (s++[.buf au 1 1 [.s u]])=.exit 2 [(6,.v (.sk s.length 1 1 0 1)),(25,.v (.sl [.sl [.s u],.ns])),(26,.v (.i .i64 2)),(27,.v (.i .i64 2)),(28,.v (.b false))] (s++[.buf au 1 1 [.s u]]):=
  ak fun K hK=>by
   rw [←hK] at g2
   clear hK
   simp [aA,v2,aW,hlim,g2]
 have g0:bF (ay P0.glob (aj P0) ⟨cx.lim,s.length⟩ false aA) [6,25,26,27] [(6,.v (.sk s.length 0 1 0 0)),(25,.v (.sl [.sl [.s u],.ns])),(26,.v (.i .i64 2)),(27,.v (.i .i64 0))] (s++[.buf au 1 0 Z])=.exit 2 [(6,.v (.sk s.length 1 1 0 1)),(25,.v (.sl [.sl [.s u],.ns])),(26,.v (.i .i64 2)),(27,.v (.i .i64 2)),(28,.v (.b false))] (s++[.buf au 1 1 [.s u]]):=
  ak fun K hK=>by
   rw [←hK] at g1
   clear hK
   simp [aA,v1,aW,hlim,g1]
 simp at e0 eg g0
 simp [af,dL,e0,eg,g0,frz,rQ,AV.under,chunk]
theorem aa3 (u:List UInt8)  (s:St) (cx:Ctx) (hlim:cx.lim≤s.length):
  aj P0 (.fn (.func aY) [] []) [.sl [.sl [.s u],.sl []]] s cx=.ret (.sl ([.s u])) s:=by
 refine kJ (by simp) ?_
 have v1:IntKind.i64.wrap 1=1:=by decide
 have v2:IntKind.i64.wrap 2=2:=by decide
 have e2:bF (ay P0.glob (aj P0) ⟨cx.lim,s.length⟩ false aB) [0,3,9,10,11] [(0,.v (.sl [.sl [.s u],.sl []])),(3,.v (.i .i64 1)),(9,.v (.sl [.sl [.s u],.sl []])),(10,.v (.i .i64 2)),(11,.v (.i .i64 2))] s=.exit 0 [(0,EV.v (.sl [.sl [.s u],.sl []])),(3,.v (.i .i64 1)),(9,.v (.sl [.sl [.s u],.sl []])),(10,.v (.i .i64 2)),(11,.v (.i .i64 2)),(12,.v (.b false))] s:=
  ak fun K hK=>by simp [aB]
 have e1:bF (ay P0.glob (aj P0) ⟨cx.lim,s.length⟩ false aB) [0,3,9,10,11] [(0,.v (.sl [.sl [.s u],.sl []])),(3,.v (.i .i64 1)),(9,.v (.sl [.sl [.s u],.sl []])),(10,.v (.i .i64 2)),(11,.v (.i .i64 1))] s=.exit 0 [(0,EV.v (.sl [.sl [.s u],.sl []])),(3,.v (.i .i64 1)),(9,.v (.sl [.sl [.s u],.sl []])),(10,.v (.i .i64 2)),(11,.v (.i .i64 2)),(12,.v (.b false))] s:=
  ak fun K hK=>by
   rw [←hK] at e2
   clear hK
   simp [aB,v1,v2, e2]
 have e0:bF (ay P0.glob (aj P0) ⟨cx.lim,s.length⟩ false aB) [0,3,9,10,11] [(0,.v (.sl [.sl [.s u],.sl []])),(3,.v (.i .i64 0)),(9,.v (.sl [.sl [.s u],.sl []])),(10,.v (.i .i64 2)),(11,.v (.i .i64 0))] s=.exit 0 [(0,EV.v (.sl [.sl [.s u],.sl []])),(3,.v (.i .i64 1)),(9,.v (.sl [.sl [.s u],.sl []])),(10,.v (.i .i64 2)),(11,.v (.i .i64 2)),(12,.v (.b false))] s:=
  ak fun K hK=>by
   rw [←hK] at e1
   clear hK
   simp [aB,v1,v2,e1]
 clear e1 e2
 have eg:=aa1 1 (by omega) (by omega) s ⟨cx.lim,s.length⟩
 generalize (List.replicate 1 [AV.s []]).flatten=Z at eg
 have g2:bF (ay P0.glob (aj P0) ⟨cx.lim,s.length⟩ false aA) [6,25,26,27] [(6,.v (.sk s.length 1 1 0 1)),(25,.v (.sl [.sl [.s u],.sl []])),(26,.v (.i .i64 2)),(27,.v (.i .i64 2))] (s++[.buf au 1 1 [.s u]])=.exit 2 [(6,.v (.sk s.length 1 1 0 1)),(25,.v (.sl [.sl [.s u],.sl []])),(26,.v (.i .i64 2)),(27,.v (.i .i64 2)),(28,.v (.b false))] (s++[.buf au 1 1 [.s u]]):=
  ak fun K hK=>by simp [aA]
 have g1:bF (ay P0.glob (aj P0) ⟨cx.lim,s.length⟩ false aA) [6,25,26,27] [(6,.v (.sk s.length 1 1 0 1)),(25,.v (.sl [.sl [.s u],.sl []])),(26,.v (.i .i64 2)),(27,.v (.i .i64 1))] (s++[.buf au 1 1 [.s u]])=.exit 2 [(6,.v (.sk s.length 1 1 0 1)),(25,.v (.sl [.sl [.s u],.sl []])),(26,.v (.i .i64 2)),(27,.v (.i .i64 2)),(28,.v (.b false))] (s++[.buf au 1 1 [.s u]]):=
  ak fun K hK=>by
   rw [←hK] at g2
   clear hK
   simp [aA,v2,aW,hlim,g2]
 have g0:bF (ay P0.glob (aj P0) ⟨cx.lim,s.length⟩ false aA) [6,25,26,27] [(6,.v (.sk s.length 0 1 0 0)),(25,.v (.sl [.sl [.s u],.sl []])),(26,.v (.i .i64 2)),(27,.v (.i .i64 0))] (s++[.buf au 1 0 Z])=.exit 2 [(6,.v (.sk s.length 1 1 0 1)),(25,.v (.sl [.sl [.s u],.sl []])),(26,.v (.i .i64 2)),(27,.v (.i .i64 2)),(28,.v (.b false))] (s++[.buf au 1 1 [.s u]]):=
  ak fun K hK=>by
   rw [←hK] at g1
   clear hK
   simp [aA,v1,aW,hlim,g1]
 simp at e0 eg g0
 simp [af,dL,e0,eg,g0,frz,rQ,AV.under,chunk]
end Go.Ai.Z
namespace Go.Ai.Z
open Go.Ai
theorem ahj (L:List At) (hL:L.length≤1000) (hv:∀a∈L,a.Val) (Q P:List AV) (PS:AV) (n i:Int) (s:St) (cx:Ctx):∀(rest:List At) (k:Nat) (acc:List (List UInt8)),L.drop k=rest→acc.length+rest.length≤100000→
  ∃j:Int,bF (ay P0.glob (aj P0) cx false sS) [1,4,7,17,18,19,24,25,26]
   [(1,.bx Q),(4,.own false au 1 P),(7,.own false au 1 (acc.map .s)),(17,.v PS),(18,.v (.i .i64 n)),(19,.v (.i .i64 i)),(24,.v (.sl (L.map bG))),(25,.v (.i .i64 L.length)),(26,.v (.i .i64 k))] s=
   .exit 2 [(1,.bx Q),(4,.own false au 1 P),(7,.own false au 1 ((acc++rest.map atS).map .s)),(17,.v PS),(18,.v (.i .i64 n)),(19,.v (.i .i64 i)),(24,.v (.sl (L.map bG))),(25,.v (.i .i64 L.length)),(26,.v (.i .i64 j)),(27,.v (.b false))] s
 | [],k,acc,h,_=>by
  have h1:¬k<L.length:=Nat.not_lt.2 (drop_nil h)
  refine ⟨k,ak fun K hK=>?_⟩
  simp [sS,h1]
 | p::r,k,acc,h,hc=>by
  obtain ⟨h1,h2,h3,h4⟩:=drop_cons h
  have h5:=h4 h3
  have hw:=wI (i:=k) (by omega)
  have e1:=aiD p (hv p (by rw [←h5];exact List.getElem_mem h3))
  obtain ⟨j,ih⟩:=ahj L hL hv Q P PS n i s cx r (k+1) (acc++[atS p]) h2 (by simp at hc ⊢;omega)
  have hcl:=O9 acc
  have hm:acc.length+1≤1073741824:=by simp at hc;omega
  refine ⟨j,ak fun K hK=>?_⟩
  rw [←hK,show ((k+1:Nat):Int)=(k:Int)+1 from rfl] at ih
  clear hK h4
  simp [bG] at ih e1
  simp [sS,h3,h5,hw,bG,e1,splice,aW,hm,ih]
theorem ahk (ps:List (Bool×List At)) (hps:ps.length≤1000) (hne:∀p∈ps,p.2≠[]) (hL:∀p∈ps,p.2.length≤1000) (hv:∀p∈ps,∀a∈p.2,a.Val) (Q:List AV) (s:St) (cx:Ctx):∀(rest:List (Bool×List At)) (k:Nat) (acc:List (List UInt8)),ps.drop k=rest→acc.length+rest.length≤100000→
  ∃j:Int,bF (ay P0.glob (aj P0) cx false sU) [1,4,17,18,19]
   [(1,.bx Q),(4,.own false au 1 (acc.map .s)),(17,.v (.sl (ps.map encPt))),(18,.v (.i .i64 ps.length)),(19,.v (.i .i64 k))] s=
   .exit 0 [(1,.bx Q),(4,.own false au 1 ((acc++rest.map fun p=>ptS p.2).map .s)),(17,.v (.sl (ps.map encPt))),(18,.v (.i .i64 ps.length)),(19,.v (.i .i64 j)),(20,.v (.b false))] s
 | [],k,acc,h,_=>by
  have h1:¬k<ps.length:=Nat.not_lt.2 (drop_nil h)
  refine ⟨k,ak fun K hK=>?_⟩
  simp [sU,h1]
 | p::r,k,acc,h,hc=>by
  obtain ⟨h1,h2,h3,h4⟩:=drop_cons h
  have h5:=h4 h3
  have hpm:p∈ps:=by rw [←h5];exact List.getElem_mem h3
  have hw:=wI (i:=k) (by omega)
  have hr:=DK (z:=p.1) (hne p hpm)
  obtain ⟨j1,e1⟩:=ahj p.2 (hL p hpm) (hv p hpm) Q (acc.map .s) (.sl (ps.map encPt)) ps.length k s cx p.2 0 [] rfl (by have:=hL p hpm;simp;omega)
  have hj:(ptS p.2).length≤1048576:=by
   have:=Ji WZ 130 (p.2.map atS) (fun x hx=>by obtain ⟨a,ha,rfl⟩:=List.mem_map.1 hx;exact ab1 (hv p hpm a ha))
   have h6:=hL p hpm
   simp [WZ] at this
   unfold ptS WZ
   have:p.2.length * 135≤1000 * 135:=Nat.mul_le_mul_right _ h6
   omega
  have e2:=xW (p.2.map atS) [32,97,110,100,32] hj (by have:=hL p hpm;simp;omega)
  obtain ⟨j,ih⟩:=ahk ps hps hne hL hv Q s cx r (k+1) (acc++[ptS p.2]) h2 (by simp at hc ⊢;omega)
  have hm:acc.length+1≤1073741824:=by simp at hc;omega
  refine ⟨j,ak fun K hK=>?_⟩
  rw [←hK,show ((k+1:Nat):Int)=(k:Int)+1 from rfl] at ih
  clear hK h4
  simp [ptS,WZ] at ih e1 e2
  simp [sU,h3,h5,hw,encPt,hr,e1,e2,splice,aW,hm,ptS,WZ,ih]
structure Rk (T:List (List UInt8)) (ps:List (Bool×List At)):Prop where
 t:T.length≤3
 p:ps.length≤4
 ne:ps≠[]
 a:∀p∈ps,p.2≠[]∧p.2.length≤12
 v:∀p∈ps,∀a∈p.2,a.Val
 w:∀t∈T,yE t=true
theorem Rk.of {T:List (List UInt8)} {ps:List (Bool×List At)} (h:chB T ps=0):Rk T ps:=by
 obtain ⟨h1,h2,h3,_⟩:=abV h
 obtain ⟨⟨a1,a2,a3⟩,a4⟩:=ad9 h1
 refine ⟨a3,a2,fun hn=>by rw [hn] at a1;simp at a1,fun p hp=>⟨fun hn=>?_,(a4 p hp).2⟩,fun p hp a ha=>At.val (IZ (G6 h2 p hp) a ha),(ad1 h3).2.1⟩
 have:=(a4 p hp).1
 rw [hn] at this;simp at this
theorem adX {l:List UInt8} (h:yE l=true):l.length≤24:=AB (by unfold qg;rw [h];rfl)
theorem Xq {T:List (List UInt8)} {ps:List (Bool×List At)} (h:Rk T ps):(joinL [32] (EM::T)).length≤1000∧(joinL wOr (ps.map fun p=>ptS p.2)).length≤10000:=by
 constructor
 ·have:=Ji [32] 24 (EM::T) (fun x hx=>by
   rcases List.mem_cons.1 hx with rfl|hx
   ·decide
   ·exact adX (h.w x hx))
  have h1:=h.t
  simp at this
  have:(T.length+1) * 25≤4 * 25:=Nat.mul_le_mul_right _ (by omega)
  omega
 ·have:=Ji wOr 1700 (ps.map fun p=>ptS p.2) (fun x hx=>by
   obtain ⟨p,hp,rfl⟩:=List.mem_map.1 hx
   have:=Ji WZ 130 (p.2.map atS) (fun x hx=>by obtain ⟨a,ha,rfl⟩:=List.mem_map.1 hx;exact ab1 (h.v p hp a ha))
   have h6:=(h.a p hp).2
   simp [WZ] at this
   unfold ptS WZ
   have:p.2.length * 135≤12 * 135:=Nat.mul_le_mul_right _ h6
   omega)
  have h1:=h.p
  simp [wOr] at this
  unfold wOr
  have:ps.length * 1704≤4 * 1704:=Nat.mul_le_mul_right _ h1
  omega
theorem abX (zt:Bool) (T:List (List UInt8)) (zp:Bool) (ps:List (Bool×List At)) (hq:QOk T ps) (s:St) (cx:Ctx):
  aj P0 (.fn (.func vM) [] []) [xQ zt T zp ps] s cx=.ret (if chB T ps=0 then .tu [.sl (ai (quS T ps)),.i .i64 0] else .tu [.ns,.i .i64 (chB T ps)]) s:=by
 have e1:=UZ zt T zp ps hq
 refine Uu (by simp) ?_
 simp only [xQ] at e1 ⊢
 by_cases c:chB T ps=0
 ·rw [if_pos c]
  rw [c] at e1
  have hv:=Rk.of c
  obtain ⟨l1,l2⟩:=Xq hv
  have hps:slf zp (ps.map encPt)=.sl (ps.map encPt):=by
   cases hp:ps with
   | nil=>exact absurd hp hv.ne
   | cons a r=>cases zp<;>rfl
  obtain ⟨j,e2⟩:=ahk ps (by have:=hv.p;omega) (fun p hp=>(hv.a p hp).1) (fun p hp=>by have:=(hv.a p hp).2;omega) hv.v [slf zt (T.map .s),slf zp (ps.map encPt)] s ⟨s.length,s.length⟩ ps 0 [] rfl (by have:=hv.p;simp;omega)
  have e3:∀(cx:Ctx),cx.lim≤s.length→aj P0 (.fn (.func aY) [] []) [.sl [.sl [.s [115,101,108,101,99,116]],slf zt (T.map .s)]] s cx=.ret (.sl ((EM::T).map .s)) s:=by
   intro cx hcx
   rcases EF zt T with h|⟨hn,h⟩
   ·rw [h]
    by_cases hT:T=[]
    ·subst hT;exact aa3 EM s cx hcx
    ·exact adH EM T hT (by have:=hv.t;omega) s cx hcx
   ·rw [hn,h];exact aa2 EM s cx hcx
  have e3':=e3 ⟨s.length,s.length⟩ (Nat.le_refl _)
  have e4:=xW (EM::T) [32] (by omega) (by have:=hv.t;simp;omega)
  have e5:=xW (ps.map fun p=>ptS p.2) [32,111,114,32] (by have:wOr=[32,111,114,32]:=rfl;rw [←this];omega) (by have:=hv.p;simp;omega)
  have q1:(joinL [32] (EM::T)).length+7≤4611686018427387904:=by omega
  rw [hps] at e1 e2 ⊢
  simp at e2 e4 e5
  simp [af,ug,e1,e2,e3',e4,e5,iI,quS,NZ,wOr,List.range_succ]
  simp only [wOr] at l2
  repeat' (first | (split<;>(try simp only [dG,dH,dI,gQ,gU])<;>(try simp [*])) | (simp only [dG,dH,dI,gQ,gU]<;>(try simp [*]))|omega)
 ·rw [if_neg c]
  simp [af,ug,e1,c]
end Go.Ai.Z
namespace Go.Ai.Z
open Go.Ai
open Go.Lib (itoa)
def tkT (t:List UInt8):List Tk:=if headB 63 t=true then [(3,[63]),(1,t.tail)] else [(1,t)]
def tkA (a:At):List Tk:=
 (1,a.name)::(3,[40])::(tkT a.x++(if a.kind=2 then (3,[44])::(tkT a.y++[(3,[41])]) else (3,[41])::(if a.kind=3 then [(1,qIn),(2,itoa a.lo),(1,qTo),(2,itoa a.hi)] else [])))
def Bz (s:Tk):List (List Tk)→List Tk
 | []=>[]
 | [a]=>a
 | a::b::r=>a++s::Bz s (b::r)
def tkP (p:List At):List Tk:=Bz (1,KG) (p.map tkA)
def tkQ (T:List (List UInt8)) (ps:List (Bool×List At)):List Tk:=(1,EM)::(T.flatMap tkT++(1,Vp)::Bz (1,qOr) (ps.map fun p=>tkP p.2))
theorem Reads.sg {n:Nat} {u:List UInt8} {M:List Tk} (h:Reads n u M) {c:UInt8} (hc:jS c=6) (ws:List UInt8) (hw:∀b∈ws,vI b=true):Reads (n+1) (ws++([c]++u)) ((3,[c])::M):=
 h.tok (x:=(3,[c])) (by simp) (by simp) (fun c' r e=>by obtain ⟨rfl,-⟩:=List.cons.inj e;rw [hc];decide) hw (by
  rw [List.cons_append,ql,if_neg (by rw [hc];decide),if_neg (by rw [hc];decide),if_neg (by rw [hc];decide),if_pos hc];rfl)
theorem wF {t:List UInt8} (h:zB t=true):jc t=true:=by
 unfold zB at h
 rw [Bool.and_eq_true,Bool.or_eq_true] at h
 rcases h.1 with h1|h1
 ·exact h1
 ·exfalso
  unfold Gg at h1
  simp only [Bool.and_eq_true,decide_eq_true_eq] at h1
  cases t with
  | nil=>simp at h1
  | cons b r=>
   have hb:b=95:=UInt8.toNat_inj.1 (by have h3:(b.toNat:Int)=95:=by simpa using h1.1.2
                                       have:(95:UInt8).toNat=95:=rfl
                                       omega)
   have:=h.2
   rw [hb] at this
   simp [headB] at this
theorem afU {b:UInt8} (h:Yh b.toNat=true):uH b=true:=by
 unfold Yh SY at h
 unfold uH jS aaR
 generalize b.toNat=n at *
 simp at h
 repeat' split
 all_goals simp
 all_goals omega
theorem aa8:∀{l:List UInt8},Qw l=true→∀b∈l,uH b=true
 | [],_=>by simp
 | c::r,h=>by
  simp only [Qw,Bool.and_eq_true] at h
  intro b hb
  rcases List.mem_cons.1 hb with rfl|hb
  ·exact afU h.1
  ·exact aa8 h.2 b hb
theorem aeo {b:UInt8} (h:SY b.toNat=true):jS b=3:=by
 unfold SY at h
 unfold jS aaR
 generalize b.toNat=n at *
 simp at h
 repeat' split
 all_goals omega
theorem amM {l:List UInt8} (h:∀b∈l,uH b=true):58 ∉ l:=fun h58=>absurd (h 58 h58) (by decide)
theorem RU {t:List UInt8} (h:yE t=true):∃v,t=63::v∧NQ 1 v∧agm v=true∧58 ∉ v∧v.length≤16:=by
 match t,h with
 | a::b::r,h=>
  simp only [yE,Bool.and_eq_true,decide_eq_true_eq] at h
  obtain ⟨⟨⟨h1,rfl⟩,h3⟩,h4⟩:=h
  have hc:=aeo h3
  have hw:∀x∈b::r,uH x=true:=fun x hx=>by
   rcases List.mem_cons.1 hx with rfl|hx
   ·unfold uH;rw [hc];rfl
   ·exact aa8 h4 x hx
  exact ⟨b::r,rfl,wO rfl hc hw,h3,amM hw,by simp;omega⟩
theorem abO {c:UInt8} (u:List UInt8) (h:(decide (uH c=false) && decide (c≠58))=true):Fol (c::u):=by
 simp only [Bool.and_eq_true,decide_eq_true_eq] at h
 exact Fol.cons h.1 h.2
theorem L9 {t:List UInt8} (ht:qg t=true) {n:Nat} {u:List UInt8} {M:List Tk} (h:Reads n u M) (hu:Fol u) (ws:List UInt8) (hw:∀b∈ws,vI b=true):Reads (n+(tkT t).length) (ws++(t++u)) (tkT t++M):=by
 unfold qg at ht
 unfold tkT
 by_cases hv:yE t=true
 ·obtain ⟨v,rfl,tv,_⟩:=RU hv
  rw [if_pos (by simp [headB])]
  have h1:=h.tk (x:=(1,v)) tv hu [] (by simp)
  have h2:=h1.sg (c:=63) (by decide) ws hw
  simpa using h2
 ·have hi:zB t=true:=by
   rw [Bool.or_eq_true] at ht
   exact ht.resolve_left hv
  rw [if_neg (by rw [OM hi];simp)]
  have h1:=h.tk (x:=(1,t)) (EN (wF hi)) hu ws hw
  simpa using h1
theorem aaQ:jS 40=6∧jS 41=6∧jS 44=6:=by decide
theorem Rq {w:List UInt8} (h0:NQ 1 w) {n:Nat} {u:List UInt8} {M:List Tk} (h:Reads n u M) (hu:Fol u):Reads (n+1) (32::(w++u)) ((1,w)::M):=
 h.tk (x:=(1,w)) h0 hu [32] (by decide)
theorem ahI:NQ 1 qIn:=wO rfl (by decide) (by decide)
theorem ahG:NQ 1 qTo:=wO rfl (by decide) (by decide)
theorem afZ:NQ 1 KG:=wO rfl (by decide) (by decide)
theorem ahH:NQ 1 qOr:=wO rfl (by decide) (by decide)
theorem afY:NQ 1 EM:=wO rfl (by decide) (by decide)
theorem afX:NQ 1 Vp:=wO rfl (by decide) (by decide)
theorem Qh (u:List UInt8):Fol (32::u):=abO u (by decide)
theorem afs (u:List UInt8):Fol (41::u):=abO u (by decide)
theorem aft (u:List UInt8):Fol (40::u):=abO u (by decide)
theorem akS (u:List UInt8):Fol (44::u):=abO u (by decide)
theorem af6 {a:At} (ha:a.Val) {n:Nat} {u:List UInt8} {M:List Tk} (h:Reads n u M) (hu:Fol u) (ws:List UInt8) (hw:∀b∈ws,vI b=true):Reads (n+(tkA a).length) (ws++(atS a++u)) (tkA a++M):=by
 unfold tkA atS
 by_cases k2:a.kind=2
 ·have h1:=h.sg aaQ.2.1 [] (by simp)
  have h2:=L9 (ha.ty k2) h1 (afs _) [32] (by decide)
  have h3:=h2.sg aaQ.2.2 [] (by simp)
  have h4:=L9 ha.tx h3 (akS _) [] (by simp)
  have h5:=h4.sg aaQ.1 [] (by simp)
  have h6:=h5.tk (x:=(1,a.name)) (EN (wF ha.n)) (aft _) ws hw
  rw [if_pos k2,if_pos k2]
  simp at h6 ⊢
  have e:n+((tkT a.x).length+((tkT a.y).length+1+1)+1+1)=n+1+(tkT a.y).length+1+(tkT a.x).length+1+1:=by omega
  rw [e]
  exact h6
 ·by_cases k3:a.kind=3
  ·have h1:=h.tk (x:=(2,itoa a.hi)) (Y3 ha.h1 ha.h2) hu [32] (by decide)
   have h2:=Rq ahG h1 (Qh _)
   have h3:=h2.tk (x:=(2,itoa a.lo)) (Y3 ha.l1 ha.l2) (Qh _) [32] (by decide)
   have h4:=Rq ahI h3 (Qh _)
   have h5:=h4.sg aaQ.2.1 [] (by simp)
   have h6:=L9 ha.tx h5 (afs _) [] (by simp)
   have h7:=h6.sg aaQ.1 [] (by simp)
   have h8:=h7.tk (x:=(1,a.name)) (EN (wF ha.n)) (aft _) ws hw
   rw [if_neg k2,if_pos k3,if_neg k2,if_pos k3]
   simp [qIn,qTo] at h8 ⊢
   have e:n+((tkT a.x).length+5+1+1)=n+1+1+1+1+1+(tkT a.x).length+1+1:=by omega
   rw [e]
   exact h8
  ·have h1:=h.sg aaQ.2.1 [] (by simp)
   have h4:=L9 ha.tx h1 (afs _) [] (by simp)
   have h5:=h4.sg aaQ.1 [] (by simp)
   have h6:=h5.tk (x:=(1,a.name)) (EN (wF ha.n)) (aft _) ws hw
   rw [if_neg k2,if_neg k3,if_neg k2,if_neg k3]
   simp at h6 ⊢
   have e:n+((tkT a.x).length+1+1+1)=n+1+(tkT a.x).length+1+1:=by omega
   rw [e]
   exact h6
theorem Wy (sep a b:List UInt8) (r:List (List UInt8)):joinL sep (a::b::r)=a++(sep++joinL sep (b::r)):=by simp [joinL]
theorem Xp {w:List UInt8} (hw0:NQ 1 w) {α:Type} (tk:α→List Tk) (tx:α→List UInt8):∀(l:List α),l≠[]→(∀a∈l,∀{n:Nat} {u:List UInt8} {M:List Tk},Reads n u M→Fol u→∀ws:List UInt8,(∀b∈ws,vI b=true)→Reads (n+(tk a).length) (ws++(tx a++u)) (tk a++M))→
  ∀{n:Nat} {u:List UInt8} {M:List Tk},Reads n u M→Fol u→∀ws:List UInt8,(∀b∈ws,vI b=true)→
   Reads (n+(Bz (1,w) (l.map tk)).length) (ws++(joinL ([32]++w++[32]) (l.map tx)++u)) (Bz (1,w) (l.map tk)++M)
 | [],h,_,_,_,_,_,_,_,_=>absurd rfl h
 | [a],_,h,n,u,M,h1,hu,ws,hws=>by simpa [Bz,joinL] using h a (by simp) h1 hu ws hws
 | a::b::r,_,h,n,u,M,h1,hu,ws,hws=>by
  have ih:=Xp hw0 tk tx (b::r) (by simp) (fun c hc=>h c (by simp [hc])) h1 hu [32] (by decide)
  have h2:=Rq hw0 ih (Qh _)
  have h3:=h a (by simp) h2 (Qh _) ws hws
  simp only [List.map_cons,Bz,Wy]
  simp only [List.map_cons] at h3
  have e:n+(tk a++(1,w)::Bz (1,w) (tk b::r.map tk)).length=n+(Bz (1,w) (tk b::r.map tk)).length+1+(tk a).length:=by simp;omega
  rw [e]
  simpa using h3
theorem YE {n:Nat} {u:List UInt8} {M:List Tk} (h:Reads n u M) (hu:Fol u):∀(T:List (List UInt8)),(∀t∈T,yE t=true)→Reads (n+(T.flatMap tkT).length) ((T.flatMap fun y=>[32]++y)++u) (T.flatMap tkT++M)∧Fol ((T.flatMap fun y=>[32]++y)++u)
 | [],_=>by simpa using ⟨h,hu⟩
 | t::r,ht=>by
  obtain ⟨i1,i2⟩:=YE h hu r (fun x hx=>ht x (by simp [hx]))
  have h1:=L9 (t:=t) (by unfold qg;rw [ht t (by simp)];rfl) i1 i2 [32] (by decide)
  refine ⟨?_,by simp;exact Qh _⟩
  simp at h1 ⊢
  have e:∀x y:Nat,n+(x+y)=n+y+x:=by omega
  rw [e]
  exact h1
theorem ael {T:List (List UInt8)} {ps:List (Bool×List At)} (h:Rk T ps):Reads ((tkQ T ps).length+1) (quS T ps) (tkQ T ps++[(4,[])]):=by
 have h1:=Xp ahH (fun p:Bool×List At=>tkP p.2) (fun p=>ptS p.2) ps h.ne (fun p hp {n u M} hR hu ws hws=>by
  have:=Xp afZ tkA atS p.2 (h.a p hp).1 (fun a ha {n u M} hR hu ws hws=>af6 (h.v p hp a ha) hR hu ws hws) hR hu ws hws
  exact this) Reads.fin Fol.nil [32] (by decide)
 have h2:=Rq afX h1 (Qh _)
 obtain ⟨h3,h4⟩:=YE h2 (Qh _) T h.w
 have h5:=h3.tk (x:=(1,EM)) afY h4 [] (by simp)
 unfold tkQ quS
 have e:((1,EM)::(T.flatMap tkT++(1,Vp)::Bz (1,qOr) (ps.map fun p=>tkP p.2))).length+1=1+(Bz (1,qOr) (ps.map fun p=>tkP p.2)).length+1+(T.flatMap tkT).length+1:=by simp;omega
 rw [e]
 simpa [joinL,NZ,wOr,qOr,Vp] using h5
end Go.Ai.Z
