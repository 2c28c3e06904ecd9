/-
 The printed text of a query; equal queries.
-/
import Derived.Test.YtalbhlfigmlddaaGreatDoorAiQE3QE4QE5
import Derived.Test.YtalbhlfigmlddaaGreatDoorAiQA5QA6QA7QB1
import Derived.Test.YtalbhlfigmlddaaGreatDoorAiQD1QD2QD3QD4
set_option maxRecDepth 100000
set_option linter.unusedSimpArgs false
set_option linter.unusedVariables false
set_option linter.unusedSectionVars false
namespace Go.Ai.Z
open Go.Ai
open Go.Lib (itoa decDigits nDigits)
theorem Y7 (A B X:AV) (T:List (List UInt8)) (hT:T.length≤100000) (hA:A=.sl (T.map .s)) (hB:B=.sl (T.map .s)) (s:St) (cx:Ctx):∀(rest:List (List UInt8)) (i:Nat),T.drop i=rest→
  ∃j:Int,bg (au P0.glob (aj P0) cx false jb) [2,3,5] [(2,.bx [A,X]),(3,.bx [B,X]),(5,.v (.i .i64 i))] s=
   .exit 0 [(2,.bx [A,X]),(3,.bx [B,X]),(5,.v (.i .i64 j)),(27,.v (.b false))] s
 | [],i,h=>by
  subst hA hB
  have h1:¬i<T.length:=Nat.not_lt.2 (drop_nil h)
  refine ⟨i,ai fun K hK=>?_⟩
  simp [jb,h1]
 | p::r,i,h=>by
  obtain ⟨h1,h2,h3,h4⟩:=drop_cons h
  have h5:=h4 h3
  have hwi:=wI (i:=i) (by omega)
  obtain ⟨j,ih⟩:=Y7 A B X T hT hA hB s cx r (i+1) h2
  subst hA hB
  refine ⟨j,ai fun K hK=>?_⟩
  rw [←hK] at ih
  clear hK h4
  simp at ih
  simp [jb,h3,h5,hwi,ih]
theorem Y6 (A B:AV) (L:List (List At)) (hL:L.length≤100000) (hl:∀p∈L,p.length≤100000) (s:St) (cx:Ctx):∀(rest:List (List At)) (i:Nat),L.drop i=rest→
  ∃j:Int,bg (au P0.glob (aj P0) cx false sO) [2,3,6] [(2,.bx [A,.sl (L.map jT)]),(3,.bx [B,.sl (L.map jT)]),(6,.v (.i .i64 i))] s=
   .exit 2 [(2,.bx [A,.sl (L.map jT)]),(3,.bx [B,.sl (L.map jT)]),(6,.v (.i .i64 j)),(45,.v (.b false))] s
 | [],i,h=>by
  have h1:¬i<L.length:=Nat.not_lt.2 (drop_nil h)
  refine ⟨i,ai fun K hK=>?_⟩
  simp [sO,h1]
 | p::r,i,h=>by
  obtain ⟨h1,h2,h3,h4⟩:=drop_cons h
  have h5:=h4 h3
  have hwi:=wI (i:=i) (by omega)
  have e1:=agb p (hl p (by rw [←h5];exact List.getElem_mem h3))
  obtain ⟨j,ih⟩:=Y6 A B L hL hl s cx r (i+1) h2
  refine ⟨j,ai fun K hK=>?_⟩
  rw [←hK] at ih
  clear hK h4
  simp at ih
  simp [sO,h3,h5,hwi,ih,jT,e1]
theorem aes (zt:Bool) (T:List (List UInt8)) (hT:T.length≤100000) (L:List (List At)) (hL:L.length≤100000) (hl:∀p∈L,p.length≤100000) (s:St) (cx:Ctx):
  aj P0 (.fn (.func vP) [] []) [.ag [slf zt (T.map .s),.sl (L.map jT)],.ag [slf true (T.map .s),.sl (L.map jT)]] s cx=.ret (.b true) s:=by
 refine RS (by simp) ?_
 obtain ⟨j1,h1⟩:=Y6 (slf zt (T.map .s)) (slf true (T.map .s)) L hL hl s ⟨s.length,s.length⟩ L 0 rfl
 cases T with
 | nil=>
  have h0:∀K,bg (au P0.glob (aj P0) ⟨s.length,s.length⟩ false jb) [2,3,5] [(2,.bx [K,.sl (L.map jT)]),(3,.bx [.ns,.sl (L.map jT)]),(5,.v (.i .i64 0))] s=bg (au P0.glob (aj P0) ⟨s.length,s.length⟩ false jb) [2,3,5] [(2,.bx [K,.sl (L.map jT)]),(3,.bx [.ns,.sl (L.map jT)]),(5,.v (.i .i64 0))] s:=fun _=>rfl
  have g:∀K:AV,K=.ns∨K=.sl []→bg (au P0.glob (aj P0) ⟨s.length,s.length⟩ false jb) [2,3,5] [(2,.bx [K,.sl (L.map jT)]),(3,.bx [.ns,.sl (L.map jT)]),(5,.v (.i .i64 0))] s=
    .exit 0 [(2,.bx [K,.sl (L.map jT)]),(3,.bx [.ns,.sl (L.map jT)]),(5,.v (.i .i64 0)),(27,.v (.b false))] s:=by
   rintro K (rfl|rfl)<;>exact ai fun K hK=>by simp [jb]
  cases zt with
  | true=>
   have g1:=g .ns (.inl rfl)
   simp [slf] at h1 g1 ⊢
   simp [af,qP,g1,h1]
  | false=>
   have g1:=g (.sl []) (.inr rfl)
   simp [slf] at h1 g1 ⊢
   simp [af,qP,g1,h1]
 | cons t T=>
  obtain ⟨j0,h0⟩:=Y7 (slf zt ((t::T).map .s)) (slf true ((t::T).map .s)) (.sl (L.map jT)) (t::T) hT (by cases zt<;>rfl) rfl s ⟨s.length,s.length⟩ (t::T) 0 rfl
  have hz:slf zt ((t::T).map .s)=.sl ((t::T).map .s):=by cases zt<;>rfl
  have hz':slf true ((t::T).map .s)=.sl ((t::T).map .s):=rfl
  rw [hz,hz'] at h0 h1 ⊢
  generalize ht:(t::T).map AV.s=M at *
  simp at h0 h1
  simp [af,qP,h0,h1]
def atS (a:At):List UInt8:=
 if a.kind=2 then a.name++[40]++a.x++[44,32]++a.y++[41]
 else if a.kind=3 then a.name++[40]++a.x++[41,32,105,110,32]++itoa a.lo++[32,116,111,32]++itoa a.hi
 else a.name++[40]++a.x++[41]
theorem Fv (n:Int) (h1:-1099511627776≤n) (h2:n≤1099511627776):(itoa n).length≤20:=by
 have hd:∀u:Nat,u≤1099511627776→(decDigits u).length≤17:=fun u hu=>by
  have h10:∀(k:Nat) (u:Nat),u<10 ^ (k+1)→(decDigits u).length≤k+1:=by
   intro k
   induction k with
   | zero=>intro u hu;rw [yY (by simpa using hu)];simp
   | succ k ih=>
    intro u hu
    by_cases h10:u<10
    ·rw [yY h10];simp
    ·rw [UO h10]
     have:=ih (u / 10) (by rw [Nat.pow_succ] at hu;omega)
     simp;omega
  exact h10 16 u (by omega)
 unfold itoa
 split
 ·have:=hd n.natAbs (by omega);simp;omega
 ·have:=hd n.toNat (by omega);omega
structure At.Val (a:At):Prop where
 k:a.kind=1∨a.kind=2∨a.kind=3
 y:a.kind≠2→a.y=[]
 z:a.kind≠3→a.lo=0∧a.hi=0
 l1:-1099511627776≤a.lo
 l2:a.lo≤1099511627776
 h1:-1099511627776≤a.hi
 h2:a.hi≤1099511627776
 n:yc a.name=true
 tx:oK a.x=true
 ty:a.kind=2→oK a.y=true
theorem At.val {a:At} (h:atE a=0):a.Val:=by
 unfold atE at h
 split at h
 ·omega
 rename_i c1
 split at h
 ·omega
 rename_i c2
 split at h
 ·omega
 rename_i c3
 split at h
 ·omega
 rename_i c4
 split at h
 rotate_left
 ·omega
 rename_i c5
 simp only [Bool.not_eq_false] at c4
 refine ⟨by omega,fun hk=>?_,fun hk=>?_,by omega,by omega,by omega,by omega,c4, ?_,fun hk=>?_⟩
 ·rcases Classical.em (a.y=[]) with h|h
  ·exact h
  ·exact absurd (.inl ⟨hk,h⟩) c2
 ·constructor
  ·rcases Classical.em (a.lo=0) with h|h
   ·exact h
   ·exact absurd (.inr ⟨hk,.inl h⟩) c2
  ·rcases Classical.em (a.hi=0) with h|h
   ·exact h
   ·exact absurd (.inr ⟨hk,.inr h⟩) c2
 ·rw [List.all_eq_true] at c5
  exact c5 a.x (by unfold BD;split<;>simp)
 ·rw [List.all_eq_true] at c5
  exact c5 a.y (by unfold BD;rw [if_pos hk];simp)
theorem yQ {l:List UInt8} (h:oK l=true):l.length≤24:=by
 unfold oK at h
 rw [Bool.or_eq_true] at h
 rcases h with h|h
 ·unfold wE at h
  split at h
  ·simp only [Bool.and_eq_true,decide_eq_true_eq,List.length_cons] at h ⊢
   omega
  ·cases h
 ·unfold yc at h
  rw [Bool.and_eq_true,Bool.or_eq_true] at h
  rcases h.1 with h|h
  ·unfold jU at h;rw [Bool.and_eq_true,decide_eq_true_eq] at h;exact h.1
  ·unfold FN at h;simp only [Bool.and_eq_true,decide_eq_true_eq] at h;exact h.1.1.2
theorem Wu {l:List UInt8} (h:yc l=true):l.length≤24:=yQ (by unfold oK;rw [h];simp)
theorem Zp {a:At} (h:a.Val):(atS a).length≤130:=by
 have h1:=Wu h.n
 have h2:=yQ h.tx
 have h3:=Fv a.lo h.l1 h.l2
 have h4:=Fv a.hi h.h1 h.h2
 unfold atS
 split
 ·rename_i hk
  have:=yQ (h.ty hk)
  simp;omega
 ·split<;>simp<;>omega
theorem aga (a:At) (h:a.Val) (s:St) (cx:Ctx):aj P0 (.fn (.func vS) [] []) [aX a] s cx=.ret (.s (atS a)) s:=by
 have h1:=Wu h.n
 have h2:=yQ h.tx
 have h3:=Fv a.lo h.l1 h.l2
 have h4:=Fv a.hi h.h1 h.h2
 have e1:=ER a.lo (by have:=h.l1;omega) (by have:=h.l2;omega)
 have e2:=ER a.hi (by have:=h.h1;omega) (by have:=h.h2;omega)
 refine RU (by simp) ?_
 unfold atS
 by_cases k2:a.kind=2
 ·have h5:=yQ (h.ty k2)
  have q1:a.name.length+1≤4611686018427387904:=by omega
  have q2:a.name.length+(a.x.length+1)≤4611686018427387904:=by omega
  rw [if_pos k2]
  simp [af,qQ,aX,k2]
  repeat' (first | (split<;>(try simp only [dD,dF,dH,gW,gX])<;>(try simp [*])) | (simp only [dD,dF,dH,gW,gX]<;>(try simp [*]))|omega)
 ·by_cases k3:a.kind=3
  ·rw [if_neg k2,if_pos k3]
   simp [af,qQ,aX,k2,k3,e1,e2]
   repeat' (first | (split<;>(try simp only [dD,dF,dH,gW,gX])<;>(try simp [*])) | (simp only [dD,dF,dH,gW,gX]<;>(try simp [*]))|omega)
  ·rw [if_neg k2,if_neg k3]
   simp [af,qQ,aX,k2,k3]
   repeat' (first | (split<;>(try simp only [dD,dF,dH,gW,gX])<;>(try simp [*])) | (simp only [dD,dF,dH,gW,gX]<;>(try simp [*]))|omega)
end Go.Ai.Z
namespace Go.Ai.Z
open Go.Ai
def Ub:List UInt8:=[32,97,110,100,32]
def wOr:List UInt8:=[32,111,114,32]
def Ua:List UInt8:=[32,119,104,101,114,101,32]
def ptS (p:List At):List UInt8:=joinL Ub (p.map atS)
def quS (T:List (List UInt8)) (ps:List (Bool×List At)):List UInt8:=joinL [32] (BN::T)++Ua++joinL wOr (ps.map fun p=>ptS p.2)
theorem Fq (sep:List UInt8) (k:Nat):∀(l:List (List UInt8)),(∀x∈l,x.length≤k)→(joinL sep l).length≤l.length * (k+sep.length)
 | [],_=>by simp [joinL]
 | x::r,h=>by
  have hx:=h x (by simp)
  have hr:(r.flatMap fun y=>sep++y).length≤r.length * (k+sep.length):=by
   have:∀r:List (List UInt8),(∀x∈r,x.length≤k)→(r.flatMap fun y=>sep++y).length≤r.length * (k+sep.length):=by
    intro r
    induction r with
    | nil=>intro _;simp
    | cons a r ih=>
     intro hr
     have h1:=hr a (by simp)
     have h2:=ih (fun x hx=>hr x (by simp [hx]))
     simp only [List.flatMap_cons,List.length_append,List.length_cons]
     rw [Nat.add_mul];omega
   exact this r (fun x hx=>h x (by simp [hx]))
  simp only [joinL,List.length_append,List.length_cons]
  rw [Nat.add_mul];omega
theorem Yx (n:Nat) (h1:0<n) (h2:n≤10000) (s:St) (cx:Ctx):
  aj P0 (.fn (.func gu) [] []) [.ns,.i .i64 n] s cx=.ret (.sk s.length 0 1 0 0) (s++[.buf ak 1 0 (List.replicate n [AV.s []]).flatten]):=by
 refine yg (by simp) ?_
 have q1:¬(n:Int)<0:=by omega
 have q2:(0:Int)<n:=by omega
 have q3:n≤16777216:=by omega
 have q4:IntKind.i64.wrap (n:Int)=n:=w64 (by omega) (by omega)
 have q5:IntKind.i64.wrap (0:Int)=0:=by decide
 simp [af,iT,q1,q2,q3,q4,q5,h1]
theorem aa6 (u:List UInt8) (T:List (List UInt8)) (hne:T≠[]) (hT:T.length≤1000) (s:St) (cx:Ctx) (hlim:cx.lim≤s.length):
  aj P0 (.fn (.func bF) [] []) [.sl [.sl [.s u],.sl (T.map .s)]] s cx=.ret (.sl ((u::T).map .s)) s:=by
 refine jY (by simp) ?_
 have v1:IntKind.i64.wrap 1=1:=by decide
 have v2:IntKind.i64.wrap 2=2:=by decide
 have w1:IntKind.i64.wrap ((1:Int)+T.length)=1+T.length:=w64 (by omega) (by omega)
 have q1:¬(1:Int)+T.length<0:=by omega
 have e2:bg (au P0.glob (aj P0) ⟨cx.lim,s.length⟩ false aA) [0,3,9,10,11] [(0,.v (.sl [.sl [.s u],.sl (T.map .s)])),(3,.v (.i .i64 (1+T.length))),(9,.v (.sl [.sl [.s u],.sl (T.map .s)])),(10,.v (.i .i64 2)),(11,.v (.i .i64 2))] s=.exit 0 [(0,EV.v (.sl [.sl [.s u],.sl (T.map .s)])),(3,.v (.i .i64 (1+T.length))),(9,.v (.sl [.sl [.s u],.sl (T.map .s)])),(10,.v (.i .i64 2)),(11,.v (.i .i64 2)),(12,.v (.b false))] s:=
  ai fun K hK=>by simp [aA]
 have e1:bg (au P0.glob (aj P0) ⟨cx.lim,s.length⟩ false aA) [0,3,9,10,11] [(0,.v (.sl [.sl [.s u],.sl (T.map .s)])),(3,.v (.i .i64 1)),(9,.v (.sl [.sl [.s u],.sl (T.map .s)])),(10,.v (.i .i64 2)),(11,.v (.i .i64 1))] s=.exit 0 [(0,EV.v (.sl [.sl [.s u],.sl (T.map .s)])),(3,.v (.i .i64 (1+T.length))),(9,.v (.sl [.sl [.s u],.sl (T.map .s)])),(10,.v (.i .i64 2)),(11,.v (.i .i64 2)),(12,.v (.b false))] s:=
  ai fun K hK=>by
   rw [←hK] at e2
   clear hK
   simp [aA,v1,v2,w1,q1,e2]
 have e0:bg (au P0.glob (aj P0) ⟨cx.lim,s.length⟩ false aA) [0,3,9,10,11] [(0,.v (.sl [.sl [.s u],.sl (T.map .s)])),(3,.v (.i .i64 0)),(9,.v (.sl [.sl [.s u],.sl (T.map .s)])),(10,.v (.i .i64 2)),(11,.v (.i .i64 0))] s=.exit 0 [(0,EV.v (.sl [.sl [.s u],.sl (T.map .s)])),(3,.v (.i .i64 (1+T.length))),(9,.v (.sl [.sl [.s u],.sl (T.map .s)])),(10,.v (.i .i64 2)),(11,.v (.i .i64 2)),(12,.v (.b false))] s:=
  ai fun K hK=>by
   rw [←hK] at e1
   clear hK
   simp [aA,v1,v2,e1]
 clear e1 e2
 have eg:=Yx (T.length+1) (by omega) (by omega) s ⟨cx.lim,s.length⟩
 rw [show ((T.length+1:Nat):Int)=1+T.length by omega] at eg
 generalize (List.replicate (T.length+1) [AV.s []]).flatten=Z at eg
 have hcl:=LH T
 have hm':1+T.length≤1073741824:=by omega
 obtain ⟨a,T,rfl⟩:∃a T',T=a::T':=by
  cases T with
  | nil=>exact absurd rfl hne
  | cons a T=>exact ⟨a,T,rfl⟩
 have hfm:∀L:List (List UInt8),(L.map AV.s).flatMap AV.cells=L.map AV.s:=fun L=>by
  induction L with
  | nil=>rfl
  | cons x r ih=>rw [List.map_cons,List.flatMap_cons,ih];rfl
 have hm2:1+(T.length+1)≤1073741824:=by simp at hm';omega
 have hfr:=Zc (s:=s) (t:=ak) (ver:=2) (u::a::T) (by simp) []
 have g2:bg (au P0.glob (aj P0) ⟨cx.lim,s.length⟩ false ay) [6,25,26,27] [(6,.v (.sk s.length 2 1 0 (1+(a::T).length))),(25,.v (.sl [.sl [.s u],.sl ((a::T).map .s)])),(26,.v (.i .i64 2)),(27,.v (.i .i64 2))] (s++[.buf ak 1 2 (.s u::(a::T).map .s)])=.exit 2 [(6,.v (.sk s.length 2 1 0 (1+(a::T).length))),(25,.v (.sl [.sl [.s u],.sl ((a::T).map .s)])),(26,.v (.i .i64 2)),(27,.v (.i .i64 2)),(28,.v (.b false))] (s++[.buf ak 1 2 (.s u::(a::T).map .s)]):=
  ai fun K hK=>by simp [ay]
 have g1:bg (au P0.glob (aj P0) ⟨cx.lim,s.length⟩ false ay) [6,25,26,27] [(6,.v (.sk s.length 1 1 0 1)),(25,.v (.sl [.sl [.s u],.sl ((a::T).map .s)])),(26,.v (.i .i64 2)),(27,.v (.i .i64 1))] (s++[.buf ak 1 1 [.s u]])=.exit 2 [(6,.v (.sk s.length 2 1 0 (1+(a::T).length))),(25,.v (.sl [.sl [.s u],.sl ((a::T).map .s)])),(26,.v (.i .i64 2)),(27,.v (.i .i64 2)),(28,.v (.b false))] (s++[.buf ak 1 2 (.s u::(a::T).map .s)]):=
  ai fun K hK=>by
   rw [←hK] at g2
   clear hK
   simp at g2
   simp [ay,v2,aU,hlim,hm2,hcl,hfm,g2]
 have g0:bg (au P0.glob (aj P0) ⟨cx.lim,s.length⟩ false ay) [6,25,26,27] [(6,.v (.sk s.length 0 1 0 0)),(25,.v (.sl [.sl [.s u],.sl ((a::T).map .s)])),(26,.v (.i .i64 2)),(27,.v (.i .i64 0))] (s++[.buf ak 1 0 Z])=.exit 2 [(6,.v (.sk s.length 2 1 0 (1+(a::T).length))),(25,.v (.sl [.sl [.s u],.sl ((a::T).map .s)])),(26,.v (.i .i64 2)),(27,.v (.i .i64 2)),(28,.v (.b false))] (s++[.buf ak 1 2 (.s u::(a::T).map .s)]):=
  ai fun K hK=>by
   rw [←hK] at g1
   clear hK
   simp at g1
   simp [ay,v1,aU,hlim,g1]
 have hcm:1+((T.length:Int)+1)=(T.length:Int)+1+1:=by omega
 have hcn:1+(T.length+1)=T.length+1+1:=by omega
 simp [hcm,hcn] at e0 eg g0 hfr
 simp [af,dG,e0,eg,g0,hfr,hcm,hcn]
theorem Yy (u:List UInt8)  (s:St) (cx:Ctx) (hlim:cx.lim≤s.length):
  aj P0 (.fn (.func bF) [] []) [.sl [.sl [.s u],.ns]] s cx=.ret (.sl ([.s u])) s:=by
 refine jY (by simp) ?_
 have v1:IntKind.i64.wrap 1=1:=by decide
 have v2:IntKind.i64.wrap 2=2:=by decide
 have e2:bg (au P0.glob (aj P0) ⟨cx.lim,s.length⟩ false aA) [0,3,9,10,11] [(0,.v (.sl [.sl [.s u],.ns])),(3,.v (.i .i64 1)),(9,.v (.sl [.sl [.s u],.ns])),(10,.v (.i .i64 2)),(11,.v (.i .i64 2))] s=.exit 0 [(0,EV.v (.sl [.sl [.s u],.ns])),(3,.v (.i .i64 1)),(9,.v (.sl [.sl [.s u],.ns])),(10,.v (.i .i64 2)),(11,.v (.i .i64 2)),(12,.v (.b false))] s:=
  ai fun K hK=>by simp [aA]
 have e1:bg (au P0.glob (aj P0) ⟨cx.lim,s.length⟩ false aA) [0,3,9,10,11] [(0,.v (.sl [.sl [.s u],.ns])),(3,.v (.i .i64 1)),(9,.v (.sl [.sl [.s u],.ns])),(10,.v (.i .i64 2)),(11,.v (.i .i64 1))] s=.exit 0 [(0,EV.v (.sl [.sl [.s u],.ns])),(3,.v (.i .i64 1)),(9,.v (.sl [.sl [.s u],.ns])),(10,.v (.i .i64 2)),(11,.v (.i .i64 2)),(12,.v (.b false))] s:=
  ai fun K hK=>by
   rw [←hK] at e2
   clear hK
   simp [aA,v1,v2, e2]
 have e0:bg (au P0.glob (aj P0) ⟨cx.lim,s.length⟩ false aA) [0,3,9,10,11] [(0,.v (.sl [.sl [.s u],.ns])),(3,.v (.i .i64 0)),(9,.v (.sl [.sl [.s u],.ns])),(10,.v (.i .i64 2)),(11,.v (.i .i64 0))] s=.exit 0 [(0,EV.v (.sl [.sl [.s u],.ns])),(3,.v (.i .i64 1)),(9,.v (.sl [.sl [.s u],.ns])),(10,.v (.i .i64 2)),(11,.v (.i .i64 2)),(12,.v (.b false))] s:=
  ai fun K hK=>by
   rw [←hK] at e1
   clear hK
   simp [aA,v1,v2,e1]
 clear e1 e2
 have eg:=Yx 1 (by omega) (by omega) s ⟨cx.lim,s.length⟩
 generalize (List.replicate 1 [AV.s []]).flatten=Z at eg
 have g2:bg (au P0.glob (aj P0) ⟨cx.lim,s.length⟩ false ay) [6,25,26,27] [(6,.v (.sk s.length 1 1 0 1)),(25,.v (.sl [.sl [.s u],.ns])),(26,.v (.i .i64 2)),(27,.v (.i .i64 2))] (s++[.buf ak 1 1 [.s u]])=.exit 2 [(6,.v (.sk s.length 1 1 0 1)),(25,.v (.sl [.sl [.s u],.ns])),(26,.v (.i .i64 2)),(27,.v (.i .i64 2)),(28,.v (.b false))] (s++[.buf ak 1 1 [.s u]]):=
  ai fun K hK=>by simp [ay]
 have g1:bg (au P0.glob (aj P0) ⟨cx.lim,s.length⟩ false ay) [6,25,26,27] [(6,.v (.sk s.length 1 1 0 1)),(25,.v (.sl [.sl [.s u],.ns])),(26,.v (.i .i64 2)),(27,.v (.i .i64 1))] (s++[.buf ak 1 1 [.s u]])=.exit 2 [(6,.v (.sk s.length 1 1 0 1)),(25,.v (.sl [.sl [.s u],.ns])),(26,.v (.i .i64 2)),(27,.v (.i .i64 2)),(28,.v (.b false))] (s++[.buf ak 1 1 [.s u]]):=
  ai fun K hK=>by
   rw [←hK] at g2
   clear hK
   simp [ay,v2,aU,hlim,g2]
 have g0:bg (au P0.glob (aj P0) ⟨cx.lim,s.length⟩ false ay) [6,25,26,27] [(6,.v (.sk s.length 0 1 0 0)),(25,.v (.sl [.sl [.s u],.ns])),(26,.v (.i .i64 2)),(27,.v (.i .i64 0))] (s++[.buf ak 1 0 Z])=.exit 2 [(6,.v (.sk s.length 1 1 0 1)),(25,.v (.sl [.sl [.s u],.ns])),(26,.v (.i .i64 2)),(27,.v (.i .i64 2)),(28,.v (.b false))] (s++[.buf ak 1 1 [.s u]]):=
  ai fun K hK=>by
   rw [←hK] at g1
   clear hK
   simp [ay,v1,aU,hlim,g1]
 simp at e0 eg g0
 simp [af,dG,e0,eg,g0,frz,tY,AV.under,chunk]
theorem Yz (u:List UInt8)  (s:St) (cx:Ctx) (hlim:cx.lim≤s.length):
  aj P0 (.fn (.func bF) [] []) [.sl [.sl [.s u],.sl []]] s cx=.ret (.sl ([.s u])) s:=by
 refine jY (by simp) ?_
 have v1:IntKind.i64.wrap 1=1:=by decide
 have v2:IntKind.i64.wrap 2=2:=by decide
 have e2:bg (au P0.glob (aj P0) ⟨cx.lim,s.length⟩ false aA) [0,3,9,10,11] [(0,.v (.sl [.sl [.s u],.sl []])),(3,.v (.i .i64 1)),(9,.v (.sl [.sl [.s u],.sl []])),(10,.v (.i .i64 2)),(11,.v (.i .i64 2))] s=.exit 0 [(0,EV.v (.sl [.sl [.s u],.sl []])),(3,.v (.i .i64 1)),(9,.v (.sl [.sl [.s u],.sl []])),(10,.v (.i .i64 2)),(11,.v (.i .i64 2)),(12,.v (.b false))] s:=
  ai fun K hK=>by simp [aA]
 have e1:bg (au P0.glob (aj P0) ⟨cx.lim,s.length⟩ false aA) [0,3,9,10,11] [(0,.v (.sl [.sl [.s u],.sl []])),(3,.v (.i .i64 1)),(9,.v (.sl [.sl [.s u],.sl []])),(10,.v (.i .i64 2)),(11,.v (.i .i64 1))] s=.exit 0 [(0,EV.v (.sl [.sl [.s u],.sl []])),(3,.v (.i .i64 1)),(9,.v (.sl [.sl [.s u],.sl []])),(10,.v (.i .i64 2)),(11,.v (.i .i64 2)),(12,.v (.b false))] s:=
  ai fun K hK=>by
   rw [←hK] at e2
   clear hK
   simp [aA,v1,v2, e2]
 have e0:bg (au P0.glob (aj P0) ⟨cx.lim,s.length⟩ false aA) [0,3,9,10,11] [(0,.v (.sl [.sl [.s u],.sl []])),(3,.v (.i .i64 0)),(9,.v (.sl [.sl [.s u],.sl []])),(10,.v (.i .i64 2)),(11,.v (.i .i64 0))] s=.exit 0 [(0,EV.v (.sl [.sl [.s u],.sl []])),(3,.v (.i .i64 1)),(9,.v (.sl [.sl [.s u],.sl []])),(10,.v (.i .i64 2)),(11,.v (.i .i64 2)),(12,.v (.b false))] s:=
  ai fun K hK=>by
   rw [←hK] at e1
   clear hK
   simp [aA,v1,v2,e1]
 clear e1 e2
 have eg:=Yx 1 (by omega) (by omega) s ⟨cx.lim,s.length⟩
 generalize (List.replicate 1 [AV.s []]).flatten=Z at eg
 have g2:bg (au P0.glob (aj P0) ⟨cx.lim,s.length⟩ false ay) [6,25,26,27] [(6,.v (.sk s.length 1 1 0 1)),(25,.v (.sl [.sl [.s u],.sl []])),(26,.v (.i .i64 2)),(27,.v (.i .i64 2))] (s++[.buf ak 1 1 [.s u]])=.exit 2 [(6,.v (.sk s.length 1 1 0 1)),(25,.v (.sl [.sl [.s u],.sl []])),(26,.v (.i .i64 2)),(27,.v (.i .i64 2)),(28,.v (.b false))] (s++[.buf ak 1 1 [.s u]]):=
  ai fun K hK=>by simp [ay]
 have g1:bg (au P0.glob (aj P0) ⟨cx.lim,s.length⟩ false ay) [6,25,26,27] [(6,.v (.sk s.length 1 1 0 1)),(25,.v (.sl [.sl [.s u],.sl []])),(26,.v (.i .i64 2)),(27,.v (.i .i64 1))] (s++[.buf ak 1 1 [.s u]])=.exit 2 [(6,.v (.sk s.length 1 1 0 1)),(25,.v (.sl [.sl [.s u],.sl []])),(26,.v (.i .i64 2)),(27,.v (.i .i64 2)),(28,.v (.b false))] (s++[.buf ak 1 1 [.s u]]):=
  ai fun K hK=>by
   rw [←hK] at g2
   clear hK
   simp [ay,v2,aU,hlim,g2]
 have g0:bg (au P0.glob (aj P0) ⟨cx.lim,s.length⟩ false ay) [6,25,26,27] [(6,.v (.sk s.length 0 1 0 0)),(25,.v (.sl [.sl [.s u],.sl []])),(26,.v (.i .i64 2)),(27,.v (.i .i64 0))] (s++[.buf ak 1 0 Z])=.exit 2 [(6,.v (.sk s.length 1 1 0 1)),(25,.v (.sl [.sl [.s u],.sl []])),(26,.v (.i .i64 2)),(27,.v (.i .i64 2)),(28,.v (.b false))] (s++[.buf ak 1 1 [.s u]]):=
  ai fun K hK=>by
   rw [←hK] at g1
   clear hK
   simp [ay,v1,aU,hlim,g1]
 simp at e0 eg g0
 simp [af,dG,e0,eg,g0,frz,tY,AV.under,chunk]
end Go.Ai.Z
namespace Go.Ai.Z
open Go.Ai
theorem aeU (L:List At) (hL:L.length≤1000) (hv:∀a∈L,a.Val) (Q P:List AV) (PS:AV) (n i:Int) (s:St) (cx:Ctx):∀(rest:List At) (k:Nat) (acc:List (List UInt8)),L.drop k=rest→acc.length+rest.length≤100000→
  ∃j:Int,bg (au P0.glob (aj P0) cx false qX) [1,4,7,17,18,19,24,25,26]
   [(1,.bx Q),(4,.own false ak 1 P),(7,.own false ak 1 (acc.map .s)),(17,.v PS),(18,.v (.i .i64 n)),(19,.v (.i .i64 i)),(24,.v (.sl (L.map aX))),(25,.v (.i .i64 L.length)),(26,.v (.i .i64 k))] s=
   .exit 2 [(1,.bx Q),(4,.own false ak 1 P),(7,.own false ak 1 ((acc++rest.map atS).map .s)),(17,.v PS),(18,.v (.i .i64 n)),(19,.v (.i .i64 i)),(24,.v (.sl (L.map aX))),(25,.v (.i .i64 L.length)),(26,.v (.i .i64 j)),(27,.v (.b false))] s
 | [],k,acc,h,_=>by
  have h1:¬k<L.length:=Nat.not_lt.2 (drop_nil h)
  refine ⟨k,ai fun K hK=>?_⟩
  simp [qX,h1]
 | p::r,k,acc,h,hc=>by
  obtain ⟨h1,h2,h3,h4⟩:=drop_cons h
  have h5:=h4 h3
  have hw:=wI (i:=k) (by omega)
  have e1:=aga p (hv p (by rw [←h5];exact List.getElem_mem h3))
  obtain ⟨j,ih⟩:=aeU L hL hv Q P PS n i s cx r (k+1) (acc++[atS p]) h2 (by simp at hc ⊢;omega)
  have hcl:=LH acc
  have hm:acc.length+1≤1073741824:=by simp at hc;omega
  refine ⟨j,ai fun K hK=>?_⟩
  rw [←hK,show ((k+1:Nat):Int)=(k:Int)+1 from rfl] at ih
  clear hK h4
  simp [aX] at ih e1
  simp [qX,h3,h5,hw,aX,e1,splice,aU,hm,ih]
theorem aeV (ps:List (Bool×List At)) (hps:ps.length≤1000) (hne:∀p∈ps,p.2≠[]) (hL:∀p∈ps,p.2.length≤1000) (hv:∀p∈ps,∀a∈p.2,a.Val) (Q:List AV) (s:St) (cx:Ctx):∀(rest:List (Bool×List At)) (k:Nat) (acc:List (List UInt8)),ps.drop k=rest→acc.length+rest.length≤100000→
  ∃j:Int,bg (au P0.glob (aj P0) cx false qY) [1,4,17,18,19]
   [(1,.bx Q),(4,.own false ak 1 (acc.map .s)),(17,.v (.sl (ps.map encPt))),(18,.v (.i .i64 ps.length)),(19,.v (.i .i64 k))] s=
   .exit 0 [(1,.bx Q),(4,.own false ak 1 ((acc++rest.map fun p=>ptS p.2).map .s)),(17,.v (.sl (ps.map encPt))),(18,.v (.i .i64 ps.length)),(19,.v (.i .i64 j)),(20,.v (.b false))] s
 | [],k,acc,h,_=>by
  have h1:¬k<ps.length:=Nat.not_lt.2 (drop_nil h)
  refine ⟨k,ai fun K hK=>?_⟩
  simp [qY,h1]
 | p::r,k,acc,h,hc=>by
  obtain ⟨h1,h2,h3,h4⟩:=drop_cons h
  have h5:=h4 h3
  have hpm:p∈ps:=by rw [←h5];exact List.getElem_mem h3
  have hw:=wI (i:=k) (by omega)
  have hr:=yR (z:=p.1) (hne p hpm)
  obtain ⟨j1,e1⟩:=aeU p.2 (hL p hpm) (hv p hpm) Q (acc.map .s) (.sl (ps.map encPt)) ps.length k s cx p.2 0 [] rfl (by have:=hL p hpm;simp;omega)
  have hj:(ptS p.2).length≤1048576:=by
   have:=Fq Ub 130 (p.2.map atS) (fun x hx=>by obtain ⟨a,ha,rfl⟩:=List.mem_map.1 hx;exact Zp (hv p hpm a ha))
   have h6:=hL p hpm
   simp [Ub] at this
   unfold ptS Ub
   have:p.2.length * 135≤1000 * 135:=Nat.mul_le_mul_right _ h6
   omega
  have e2:=zK (p.2.map atS) [32,97,110,100,32] hj (by have:=hL p hpm;simp;omega)
  obtain ⟨j,ih⟩:=aeV ps hps hne hL hv Q s cx r (k+1) (acc++[ptS p.2]) h2 (by simp at hc ⊢;omega)
  have hm:acc.length+1≤1073741824:=by simp at hc;omega
  refine ⟨j,ai fun K hK=>?_⟩
  rw [←hK,show ((k+1:Nat):Int)=(k:Int)+1 from rfl] at ih
  clear hK h4
  simp [ptS,Ub] at ih e1 e2
  simp [qY,h3,h5,hw,encPt,hr,e1,e2,splice,aU,hm,ptS,Ub,ih]
structure U9 (T:List (List UInt8)) (ps:List (Bool×List At)):Prop where
 t:T.length≤3
 p:ps.length≤4
 ne:ps≠[]
 a:∀p∈ps,p.2≠[]∧p.2.length≤12
 v:∀p∈ps,∀a∈p.2,a.Val
 w:∀t∈T,wE t=true
theorem U9.of {T:List (List UInt8)} {ps:List (Bool×List At)} (h:chB T ps=0):U9 T ps:=by
 obtain ⟨h1,h2,h3,_⟩:=Zk h
 obtain ⟨⟨a1,a2,a3⟩,a4⟩:=abC h1
 refine ⟨a3,a2,fun hn=>by rw [hn] at a1;simp at a1,fun p hp=>⟨fun hn=>?_,(a4 p hp).2⟩,fun p hp a ha=>At.val (EW (DY h2 p hp) a ha),(abv h3).2.1⟩
 have:=(a4 p hp).1
 rw [hn] at this;simp at this
theorem abp {l:List UInt8} (h:wE l=true):l.length≤24:=yQ (by unfold oK;rw [h];rfl)
theorem YM {T:List (List UInt8)} {ps:List (Bool×List At)} (h:U9 T ps):(joinL [32] (BN::T)).length≤1000∧(joinL wOr (ps.map fun p=>ptS p.2)).length≤10000:=by
 constructor
 ·have:=Fq [32] 24 (BN::T) (fun x hx=>by
   rcases List.mem_cons.1 hx with rfl|hx
   ·decide
   ·exact abp (h.w x hx))
  have h1:=h.t
  simp at this
  have:(T.length+1) * 25≤4 * 25:=Nat.mul_le_mul_right _ (by omega)
  omega
 ·have:=Fq wOr 1700 (ps.map fun p=>ptS p.2) (fun x hx=>by
   obtain ⟨p,hp,rfl⟩:=List.mem_map.1 hx
   have:=Fq Ub 130 (p.2.map atS) (fun x hx=>by obtain ⟨a,ha,rfl⟩:=List.mem_map.1 hx;exact Zp (h.v p hp a ha))
   have h6:=(h.a p hp).2
   simp [Ub] at this
   unfold ptS Ub
   have:p.2.length * 135≤12 * 135:=Nat.mul_le_mul_right _ h6
   omega)
  have h1:=h.p
  simp [wOr] at this
  unfold wOr
  have:ps.length * 1704≤4 * 1704:=Nat.mul_le_mul_right _ h1
  omega
theorem aeu (zt:Bool) (T:List (List UInt8)) (zp:Bool) (ps:List (Bool×List At)) (hq:QOk T ps) (s:St) (cx:Ctx):
  aj P0 (.fn (.func kM) [] []) [pK zt T zp ps] s cx=.ret (if chB T ps=0 then .tu [.sl (aB (quS T ps)),.i .i64 0] else .tu [.ns,.i .i64 (chB T ps)]) s:=by
 have e1:=JV zt T zp ps hq
 refine Qs (by simp) ?_
 simp only [pK] at e1 ⊢
 by_cases c:chB T ps=0
 ·rw [if_pos c]
  rw [c] at e1
  have hv:=U9.of c
  obtain ⟨l1,l2⟩:=YM hv
  have hps:slf zp (ps.map encPt)=.sl (ps.map encPt):=by
   cases hp:ps with
   | nil=>exact absurd hp hv.ne
   | cons a r=>cases zp<;>rfl
  obtain ⟨j,e2⟩:=aeV ps (by have:=hv.p;omega) (fun p hp=>(hv.a p hp).1) (fun p hp=>by have:=(hv.a p hp).2;omega) hv.v [slf zt (T.map .s),slf zp (ps.map encPt)] s ⟨s.length,s.length⟩ ps 0 [] rfl (by have:=hv.p;simp;omega)
  have e3:∀(cx:Ctx),cx.lim≤s.length→aj P0 (.fn (.func bF) [] []) [.sl [.sl [.s [115,101,108,101,99,116]],slf zt (T.map .s)]] s cx=.ret (.sl ((BN::T).map .s)) s:=by
   intro cx hcx
   rcases BH zt T with h|⟨hn,h⟩
   ·rw [h]
    by_cases hT:T=[]
    ·subst hT;exact Yz BN s cx hcx
    ·exact aa6 BN T hT (by have:=hv.t;omega) s cx hcx
   ·rw [hn,h];exact Yy BN s cx hcx
  have e3':=e3 ⟨s.length,s.length⟩ (Nat.le_refl _)
  have e4:=zK (BN::T) [32] (by omega) (by have:=hv.t;simp;omega)
  have e5:=zK (ps.map fun p=>ptS p.2) [32,111,114,32] (by have:wOr=[32,111,114,32]:=rfl;rw [←this];omega) (by have:=hv.p;simp;omega)
  have q1:(joinL [32] (BN::T)).length+7≤4611686018427387904:=by omega
  rw [hps] at e1 e2 ⊢
  simp at e2 e4 e5
  simp [af,rP,e1,e2,e3',e4,e5,jS,quS,Ua,wOr,List.range_succ]
  simp only [wOr] at l2
  repeat' (first | (split<;>(try simp only [dD,dF,dH,gW,gX])<;>(try simp [*])) | (simp only [dD,dF,dH,gW,gX]<;>(try simp [*]))|omega)
 ·rw [if_neg c]
  simp [af,rP,e1,c]
end Go.Ai.Z
namespace Go.Ai.Z
open Go.Ai
open Go.Lib (itoa)
def tkT (t:List UInt8):List Tk:=if headB 63 t=true then [(3,[63]),(1,t.tail)] else [(1,t)]
def tkA (a:At):List Tk:=
 (1,a.name)::(3,[40])::(tkT a.x++(if a.kind=2 then (3,[44])::(tkT a.y++[(3,[41])]) else (3,[41])::(if a.kind=3 then [(1,qIn),(2,itoa a.lo),(1,qTo),(2,itoa a.hi)] else [])))
def zx (s:Tk):List (List Tk)→List Tk
 | []=>[]
 | [a]=>a
 | a::b::r=>a++s::zx s (b::r)
def tkP (p:List At):List Tk:=zx (1,He) (p.map tkA)
def tkQ (T:List (List UInt8)) (ps:List (Bool×List At)):List Tk:=(1,BN)::(T.flatMap tkT++(1,Ru)::zx (1,qOr) (ps.map fun p=>tkP p.2))
theorem Reads.sg {n:Nat} {u:List UInt8} {M:List Tk} (h:Reads n u M) {c:UInt8} (hc:jI c=6) (ws:List UInt8) (hw:∀b∈ws,uf b=true):Reads (n+1) (ws++([c]++u)) ((3,[c])::M):=
 h.tok (x:=(3,[c])) (by simp) (by simp) (fun c' r e=>by obtain ⟨rfl,-⟩:=List.cons.inj e;rw [hc];decide) hw (by
  rw [List.cons_append,oM,if_neg (by rw [hc];decide),if_neg (by rw [hc];decide),if_neg (by rw [hc];decide),if_pos hc];rfl)
theorem wR {t:List UInt8} (h:yc t=true):jU t=true:=by
 unfold yc at h
 rw [Bool.and_eq_true,Bool.or_eq_true] at h
 rcases h.1 with h1|h1
 ·exact h1
 ·exfalso
  unfold FN at h1
  simp only [Bool.and_eq_true,decide_eq_true_eq] at h1
  cases t with
  | nil=>simp at h1
  | cons b r=>
   have hb:b=95:=UInt8.toNat_inj.1 (by have h3:(b.toNat:Int)=95:=by simpa using h1.1.2
                                       have:(95:UInt8).toNat=95:=rfl
                                       omega)
   have:=h.2
   rw [hb] at this
   simp [headB] at this
theorem adw {b:UInt8} (h:Vf b.toNat=true):sF b=true:=by
 unfold Vf Ph at h
 unfold sF jI Yn
 generalize b.toNat=n at *
 simp at h
 repeat' split
 all_goals simp
 all_goals omega
theorem YE:∀{l:List UInt8},Nv l=true→∀b∈l,sF b=true
 | [],_=>by simp
 | c::r,h=>by
  simp only [Nv,Bool.and_eq_true] at h
  intro b hb
  rcases List.mem_cons.1 hb with rfl|hb
  ·exact adw h.1
  ·exact YE h.2 b hb
theorem abS {b:UInt8} (h:Ph b.toNat=true):jI b=3:=by
 unfold Ph at h
 unfold jI Yn
 generalize b.toNat=n at *
 simp at h
 repeat' split
 all_goals omega
theorem aj8 {l:List UInt8} (h:∀b∈l,sF b=true):58 ∉ l:=fun h58=>absurd (h 58 h58) (by decide)
theorem OG {t:List UInt8} (h:wE t=true):∃v,t=63::v∧J4 1 v∧adX v=true∧58 ∉ v∧v.length≤16:=by
 match t,h with
 | a::b::r,h=>
  simp only [wE,Bool.and_eq_true,decide_eq_true_eq] at h
  obtain ⟨⟨⟨h1,rfl⟩,h3⟩,h4⟩:=h
  have hc:=abS h3
  have hw:∀x∈b::r,sF x=true:=fun x hx=>by
   rcases List.mem_cons.1 hx with rfl|hx
   ·unfold sF;rw [hc];rfl
   ·exact YE h4 x hx
  exact ⟨b::r,rfl,uO rfl hc hw,h3,aj8 hw,by simp;omega⟩
theorem Zd {c:UInt8} (u:List UInt8) (h:(decide (sF c=false) && decide (c≠58))=true):Fol (c::u):=by
 simp only [Bool.and_eq_true,decide_eq_true_eq] at h
 exact Fol.cons h.1 h.2
theorem I5 {t:List UInt8} (ht:oK t=true) {n:Nat} {u:List UInt8} {M:List Tk} (h:Reads n u M) (hu:Fol u) (ws:List UInt8) (hw:∀b∈ws,uf b=true):Reads (n+(tkT t).length) (ws++(t++u)) (tkT t++M):=by
 unfold oK at ht
 unfold tkT
 by_cases hv:wE t=true
 ·obtain ⟨v,rfl,tv,_⟩:=OG hv
  rw [if_pos (by simp [headB])]
  have h1:=h.tk (x:=(1,v)) tv hu [] (by simp)
  have h2:=h1.sg (c:=63) (by decide) ws hw
  simpa using h2
 ·have hi:yc t=true:=by
   rw [Bool.or_eq_true] at ht
   exact ht.resolve_left hv
  rw [if_neg (by rw [KU hi];simp)]
  have h1:=h.tk (x:=(1,t)) (BO (wR hi)) hu ws hw
  simpa using h1
theorem Ym:jI 40=6∧jI 41=6∧jI 44=6:=by decide
theorem Ol {w:List UInt8} (h0:J4 1 w) {n:Nat} {u:List UInt8} {M:List Tk} (h:Reads n u M) (hu:Fol u):Reads (n+1) (32::(w++u)) ((1,w)::M):=
 h.tk (x:=(1,w)) h0 hu [32] (by decide)
theorem aff:J4 1 qIn:=uO rfl (by decide) (by decide)
theorem afd:J4 1 qTo:=uO rfl (by decide) (by decide)
theorem adB:J4 1 He:=uO rfl (by decide) (by decide)
theorem afe:J4 1 qOr:=uO rfl (by decide) (by decide)
theorem adA:J4 1 BN:=uO rfl (by decide) (by decide)
theorem adz:J4 1 Ru:=uO rfl (by decide) (by decide)
theorem MZ (u:List UInt8):Fol (32::u):=Zd u (by decide)
theorem ac2 (u:List UInt8):Fol (41::u):=Zd u (by decide)
theorem ac3 (u:List UInt8):Fol (40::u):=Zd u (by decide)
theorem air (u:List UInt8):Fol (44::u):=Zd u (by decide)
theorem adJ {a:At} (ha:a.Val) {n:Nat} {u:List UInt8} {M:List Tk} (h:Reads n u M) (hu:Fol u) (ws:List UInt8) (hw:∀b∈ws,uf b=true):Reads (n+(tkA a).length) (ws++(atS a++u)) (tkA a++M):=by
 unfold tkA atS
 by_cases k2:a.kind=2
 ·have h1:=h.sg Ym.2.1 [] (by simp)
  have h2:=I5 (ha.ty k2) h1 (ac2 _) [32] (by decide)
  have h3:=h2.sg Ym.2.2 [] (by simp)
  have h4:=I5 ha.tx h3 (air _) [] (by simp)
  have h5:=h4.sg Ym.1 [] (by simp)
  have h6:=h5.tk (x:=(1,a.name)) (BO (wR ha.n)) (ac3 _) ws hw
  rw [if_pos k2,if_pos k2]
  simp at h6 ⊢
  have e:n+((tkT a.x).length+((tkT a.y).length+1+1)+1+1)=n+1+(tkT a.y).length+1+(tkT a.x).length+1+1:=by omega
  rw [e]
  exact h6
 ·by_cases k3:a.kind=3
  ·have h1:=h.tk (x:=(2,itoa a.hi)) (Wn ha.h1 ha.h2) hu [32] (by decide)
   have h2:=Ol afd h1 (MZ _)
   have h3:=h2.tk (x:=(2,itoa a.lo)) (Wn ha.l1 ha.l2) (MZ _) [32] (by decide)
   have h4:=Ol aff h3 (MZ _)
   have h5:=h4.sg Ym.2.1 [] (by simp)
   have h6:=I5 ha.tx h5 (ac2 _) [] (by simp)
   have h7:=h6.sg Ym.1 [] (by simp)
   have h8:=h7.tk (x:=(1,a.name)) (BO (wR ha.n)) (ac3 _) ws hw
   rw [if_neg k2,if_pos k3,if_neg k2,if_pos k3]
   simp [qIn,qTo] at h8 ⊢
   have e:n+((tkT a.x).length+5+1+1)=n+1+1+1+1+1+(tkT a.x).length+1+1:=by omega
   rw [e]
   exact h8
  ·have h1:=h.sg Ym.2.1 [] (by simp)
   have h4:=I5 ha.tx h1 (ac2 _) [] (by simp)
   have h5:=h4.sg Ym.1 [] (by simp)
   have h6:=h5.tk (x:=(1,a.name)) (BO (wR ha.n)) (ac3 _) ws hw
   rw [if_neg k2,if_neg k3,if_neg k2,if_neg k3]
   simp at h6 ⊢
   have e:n+((tkT a.x).length+1+1+1)=n+1+(tkT a.x).length+1+1:=by omega
   rw [e]
   exact h6
theorem Z7 (sep a b:List UInt8) (r:List (List UInt8)):joinL sep (a::b::r)=a++(sep++joinL sep (b::r)):=by simp [joinL]
theorem Uo {w:List UInt8} (hw0:J4 1 w) {α:Type} (tk:α→List Tk) (tx:α→List UInt8):∀(l:List α),l≠[]→(∀a∈l,∀{n:Nat} {u:List UInt8} {M:List Tk},Reads n u M→Fol u→∀ws:List UInt8,(∀b∈ws,uf b=true)→Reads (n+(tk a).length) (ws++(tx a++u)) (tk a++M))→
  ∀{n:Nat} {u:List UInt8} {M:List Tk},Reads n u M→Fol u→∀ws:List UInt8,(∀b∈ws,uf b=true)→
   Reads (n+(zx (1,w) (l.map tk)).length) (ws++(joinL ([32]++w++[32]) (l.map tx)++u)) (zx (1,w) (l.map tk)++M)
 | [],h,_,_,_,_,_,_,_,_=>absurd rfl h
 | [a],_,h,n,u,M,h1,hu,ws,hws=>by simpa [zx,joinL] using h a (by simp) h1 hu ws hws
 | a::b::r,_,h,n,u,M,h1,hu,ws,hws=>by
  have ih:=Uo hw0 tk tx (b::r) (by simp) (fun c hc=>h c (by simp [hc])) h1 hu [32] (by decide)
  have h2:=Ol hw0 ih (MZ _)
  have h3:=h a (by simp) h2 (MZ _) ws hws
  simp only [List.map_cons,zx,Z7]
  simp only [List.map_cons] at h3
  have e:n+(tk a++(1,w)::zx (1,w) (tk b::r.map tk)).length=n+(zx (1,w) (tk b::r.map tk)).length+1+(tk a).length:=by simp;omega
  rw [e]
  simpa using h3
theorem VH {n:Nat} {u:List UInt8} {M:List Tk} (h:Reads n u M) (hu:Fol u):∀(T:List (List UInt8)),(∀t∈T,wE t=true)→Reads (n+(T.flatMap tkT).length) ((T.flatMap fun y=>[32]++y)++u) (T.flatMap tkT++M)∧Fol ((T.flatMap fun y=>[32]++y)++u)
 | [],_=>by simpa using ⟨h,hu⟩
 | t::r,ht=>by
  obtain ⟨i1,i2⟩:=VH h hu r (fun x hx=>ht x (by simp [hx]))
  have h1:=I5 (t:=t) (by unfold oK;rw [ht t (by simp)];rfl) i1 i2 [32] (by decide)
  refine ⟨?_,by simp;exact MZ _⟩
  simp at h1 ⊢
  have e:∀x y:Nat,n+(x+y)=n+y+x:=by omega
  rw [e]
  exact h1
theorem abP {T:List (List UInt8)} {ps:List (Bool×List At)} (h:U9 T ps):Reads ((tkQ T ps).length+1) (quS T ps) (tkQ T ps++[(4,[])]):=by
 have h1:=Uo afe (fun p:Bool×List At=>tkP p.2) (fun p=>ptS p.2) ps h.ne (fun p hp {n u M} hR hu ws hws=>by
  have:=Uo adB tkA atS p.2 (h.a p hp).1 (fun a ha {n u M} hR hu ws hws=>adJ (h.v p hp a ha) hR hu ws hws) hR hu ws hws
  exact this) Reads.fin Fol.nil [32] (by decide)
 have h2:=Ol adz h1 (MZ _)
 obtain ⟨h3,h4⟩:=VH h2 (MZ _) T h.w
 have h5:=h3.tk (x:=(1,BN)) adA h4 [] (by simp)
 unfold tkQ quS
 have e:((1,BN)::(T.flatMap tkT++(1,Ru)::zx (1,qOr) (ps.map fun p=>tkP p.2))).length+1=1+(zx (1,qOr) (ps.map fun p=>tkP p.2)).length+1+(T.flatMap tkT).length+1:=by simp;omega
 rw [e]
 simpa [joinL,Ua,wOr,qOr,Ru] using h5
end Go.Ai.Z
