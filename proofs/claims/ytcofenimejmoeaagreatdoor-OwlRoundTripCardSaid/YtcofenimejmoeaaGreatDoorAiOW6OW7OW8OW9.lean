/-
 terms.Vocabulary of axioms that are not all good; strings that are sorted, and that are not repeated.
-/
import Derived.Test.YtcofenimejmoeaaGreatDoorAiOW1OW2OW3OW4OW5
import Derived.Test.YtcofenimejmoeaaGreatDoorAiCircCRefR37R61R62R63K13
import Derived.Test.YtcofenimejmoeaaGreatDoorAiPSortS
set_option maxRecDepth 100000
set_option linter.unusedSimpArgs false
set_option linter.unusedVariables false
set_option linter.unusedSectionVars false
namespace Go.Ai.Z
theorem aau (z:Bool) (l:List Ax) (hl:l.length≤1000) (hx:∀x∈l,x.Few) (s:St) (cx:Ctx):
  ∀(rest:List Ax) (i:Nat),l.drop i=rest→yx rest≠0→
  gQ (aB P0.glob (aj P0) cx false iC) [0,2,3,21,22,23]
   [(0,.v (slf z (l.map cu))),(2,.bx [.ns,.ns,.ns,.ns]),(3,.v (.i .i64 0)),(21,.v (slf z (l.map cu))),(22,.v (.i .i64 l.length)),(23,.v (.i .i64 i))] s=
   .ret [(2,.bx [.ns,.ns,.ns,.ns]),(3,.v (.i .i64 (yx rest)))] s
 | [],i,h,hn=>absurd rfl hn
 | x::rest,i,h,hn=>by
  obtain ⟨g1,g2,g3,g4⟩:=drop_cons h;have g5:=g4 g3;have hwi:=wI (i:=i) (by omega);have hm:x∈l:=by rw [←g5];exact List.getElem_mem g3
  have e1:=Bd x (hx x hm);by_cases h0:iR x=0
  ·have ih:=aau z l hl hx s cx rest (i+1) g2 (by rw [yx,if_pos h0] at hn;exact hn);refine ak fun K hK=>?_;rw [←hK,show ((i+1:Nat):Int)=(i:Int)+1 from rfl] at ih;clear hK g4 hx;have hc:yx (x::rest)=yx rest:=by rw [yx,if_pos h0]
   rw [hc,←ih];rw [h0] at e1;simp -implicitDefEqProofs [iC,g3,g5,hwi,e1]
  ·refine ak fun K hK=>?_;clear hK g4 hx;have hc:yx (x::rest)=iR x:=by rw [yx,if_neg h0]
   rw [hc];simp -implicitDefEqProofs [iC,g3,g5,hwi,e1,h0,dQ,splice]
theorem Ih (z:Bool) (l:List Ax) (hl:l.length≤100) (hx:∀x∈l,x.Few) (h0:yx l≠0) (s:St) (cx:Ctx):
  aj P0 (.fn (.func lU) [] []) [slf z (l.map cu)] s cx=.ret (.tu [.ag [.ns,.ns,.ns,.ns],.i .i64 (yx l)]) s:=by
 have e0:=aau z l (by omega) hx s ⟨s.length,s.length⟩ l 0 rfl h0;refine zQ (by simp) ?_;simp at e0;simp -implicitDefEqProofs [af,ny,e0]
end Go.Ai.Z
namespace Go.Ai.Z
def oK (a:Rl):List Rl→List Rl
 | []=>[]
 | b::r=>if b=a then oK b r else b::oK b r
def fQ:List Rl→List Rl
 | []=>[]
 | a::r=>a::oK a r
theorem Eo:∀(a:Rl) (l:List Rl),(oK a l).Sublist l
 | a,[]=>.slnil
 | a,b::r=>by
  unfold oK;split
  ·exact (Eo b r).cons _
  ·exact (Eo b r).cons_cons _
theorem UZ:∀l:List Rl,(fQ l).Sublist l
 | []=>.slnil
 | a::r=>(Eo a r).cons_cons _
theorem RS (a:Rl):∀(l:List Rl) (b:Rl),oK a (l++[b])=if b=l.getLastD a then oK a l else oK a l++[b]
 | [],b=>by simp [oK]
 | x::l,b=>by
  simp only [List.cons_append,oK];have h:=RS x l b;have hl:(x::l).getLastD a=l.getLastD x:=List.getLastD_cons;rw [h,hl]
  split<;>split<;>rfl
theorem RN (L:List Rl) (j:Nat) (h:j+1<L.length):fQ (L.take (j+2))=if L[j+1]=L[j] then fQ (L.take (j+1)) else fQ (L.take (j+1))++[L[j+1]]:=by
 have h1:L.take (j+2)=L.take (j+1)++[L[j+1]]:=List.take_succ_eq_append_getElem h;rw [h1]
 have h2:∃a r,L.take (j+1)=a::r∧r.getLastD a=L[j]:=by
  have h3:L.take (j+1)=L.take j++[L[j]]:=List.take_succ_eq_append_getElem (by omega);rw [h3]
  cases hL:L.take j with
  | nil=>exact ⟨_,_,rfl,rfl⟩
  | cons a r=>exact ⟨a,r++[L[j]],rfl,by simp⟩
 obtain ⟨a,r,e1,e2⟩:=h2;rw [e1];simp only [List.cons_append,fQ,RS,e2]
 split<;>rfl
theorem Yg (l:List Rl):(fQ l).length≤l.length:=(UZ l).length_le
@[simp] theorem ah7 {env:Env} {l ver sz o n:Nat}:vV env (some (.v (.sk l ver sz o n)))=none:=rfl
section
variable (L:List Rl) (hL:L.length≤100000) (s:St) (cx:Ctx) (l t ver:Nat) (hl:l<s.length) (hlim:cx.lim≤l) (hbase:cx.base≤l)
include hL hl hlim hbase
theorem Oi (k0:Nat) (hk0:1≤k0):∀(d q:Nat),k0+q+1+d=L.length→(fQ (L.take (k0+q+1))).length≤k0+q→
  ∃k2:Int,gQ (aB P0.glob (aj P0) cx true eG) [0,3,4,5]
   [(0,.v (.sk l ver 1 0 L.length)),(3,.v (.i .i64 (fQ (L.take (k0+q+1))).length)),(4,.v (.sk l ver 1 k0 (L.length - k0))),(5,.v (.i .i64 ((q+1:Nat):Int)))]
   (s.set l (.buf t 1 ver ((fQ (L.take (k0+q+1))++L.drop (fQ (L.take (k0+q+1))).length).map .s)))=
   .exit 2 [(0,.v (.sk l ver 1 0 L.length)),(3,.v (.i .i64 (fQ L).length)),(4,.v (.sk l ver 1 k0 (L.length - k0))),(5,.v (.i .i64 k2)),(32,.v (.b false))]
   (s.set l (.buf t 1 ver ((fQ L++L.drop (fQ L).length).map .s)))
 | 0,q,hd,hq=>by
  have h1:L.take (k0+q+1)=L:=List.take_of_length_le (by omega);have h2:¬(q+1<L.length - k0):=by omega
  refine ⟨((q+1:Nat):Int),ak fun K hK=>?_⟩;rw [h1];simp [eG,h2]
  repeat' (first | (split<;>(try simp only [fZ,gm,gy,kz,kC])<;>(try simp [*])) | (simp only [fZ,gm,gy,kz,kC]<;>(try simp [*]))|omega)
 | d+1,q,hd,hq=>by
  have hj:k0+q+1<L.length:=by omega
  have hct:=RN L (k0+q) hj
  obtain ⟨k2,ih⟩:=Oi k0 hk0 d (q+1) (by omega) (by
   rw [show k0+(q+1)+1=k0+q+2 by omega,hct];split
   ·omega
   ·simp;omega)
  refine ⟨k2,ak fun K hK=>?_⟩;rw [←hK] at ih;clear hK;have hwl:=hq;rw [show k0+(q+1)+1=k0+q+2 by omega,hct] at ih;generalize hW:fQ (L.take (k0+q+1))=W at ih hwl;have h2:q+1<L.length - k0:=by omega
  generalize hM:W++L.drop W.length=M;have hMl:M.length=L.length:=by rw [←hM];simp;omega
  have hg:∀i,W.length≤i→i<L.length→M[i]?=L[i]?:=by
   intro i h3 h4;rw [←hM,List.getElem?_append_right h3,List.getElem?_drop];congr 1;omega
  have hp1:M[k0+(q+1)]?=some L[k0+q+1]:=by
   rw [hg _ (by omega) (by omega),List.getElem?_eq_getElem (by omega:k0+(q+1)<L.length)];rfl
  have hp2:M[k0+q]?=some L[k0+q]:=by
   rw [hg _ (by omega) (by omega),List.getElem?_eq_getElem (by omega:k0+q<L.length)]
  have hs:splice (M.map AV.s) W.length [.s L[k0+q+1]]=(M.set W.length L[k0+q+1]).map .s:=by
   simp only [splice,List.length_cons,List.length_nil,←List.map_take,←List.map_drop];rw [List.set_eq_take_append_cons_drop,if_pos (by omega)];simp
  have hset:M.set W.length L[k0+q+1]=(W++[L[k0+q+1]])++L.drop (W++[L[k0+q+1]]).length:=by
   rw [←hM];have h3:L.drop W.length=L[W.length]'(by omega)::L.drop (W.length+1):=List.drop_eq_getElem_cons (by omega);rw [h3,List.set_append_right _ _ (Nat.le_refl _),Nat.sub_self,List.set_cons_zero];simp
  rw [hset] at hs
  have hwi1:IntKind.i64.wrap (q:Int)=(q:Int):=by rw [w64]<;>omega
  have hwi2:IntKind.i64.wrap ((q:Int)+1+1)=(q:Int)+1+1:=by rw [w64]<;>omega
  have h2i:(q:Int)+1<((L.length - k0:Nat):Int):=by omega
  have h2j:q<L.length - k0:=by omega
  have h00:(0:Int)≤(q:Int)+1:=by omega
  have hWL:W.length<L.length:=by omega
  have hwi3:=wI (i:=W.length) (by omega);have hfit:W.length+1≤M.length:=by omega
  clear hct hq hW hg hset;by_cases hc:L[k0+q+1]=L[k0+q]
  ·rw [if_pos hc,hM] at ih;simp [eG,h00,hWL,h2,h2i,h2j,hl,hp1,hp2,hwi1,hwi2,hc] at ih ⊢;exact ih
  ·rw [if_neg hc] at ih;simp [eG,h00,hWL,h2,h2i,h2j,hl,hp1,hp2,hwi1,hwi2,hwi3,hc,hfit,hlim,hbase] at ih ⊢;simp [splice] at hs;rw [hs];exact ih
def zK (L:List Rl):List AV:=(fQ L).map AV.s++List.replicate (L.length - (fQ L).length) (AV.s [])
theorem Oj:∀(d k:Nat),k+1+d=L.length→fQ (L.take (k+1))=L.take (k+1)→
  gQ (aB P0.glob (aj P0) cx true eH) [0,3]
   [(0,.v (.sk l ver 1 0 L.length)),(3,.v (.i .i64 ((k+1:Nat):Int)))] (s.set l (.buf t 1 ver (L.map .s)))=
   if (fQ L).length=L.length then .exit 0 [(0,.v (.sk l ver 1 0 L.length)),(3,.v (.i .i64 L.length)),(13,.v (.b false))] (s.set l (.buf t 1 ver (zK L)))
   else .ret [(2,.v (.sk l ver 1 0 (fQ L).length))] (s.set l (.buf t 1 ver (zK L)))
 | 0,k,hd,hc=>by
  have h1:L.take (k+1)=L:=List.take_of_length_le (by omega);rw [h1] at hc;have h2:¬((k:Int)+1<(L.length:Int)):=by omega
  have h3:(k:Int)+1=(L.length:Int):=by omega
  refine ak fun K hK=>?_;simp [eH,h2,hc,zK];exact h3
 | d+1,k,hd,hcm=>by
  have hj:k+1<L.length:=by omega
  have hct:=RN L k hj;refine ak fun K hK=>?_;have h2:(k:Int)+1<(L.length:Int):=by omega
  have hp1:L[k+1]?=some L[k+1]:=List.getElem?_eq_getElem hj;have hp2:L[k]?=some L[k]:=List.getElem?_eq_getElem (by omega)
  have hwi1:IntKind.i64.wrap (k:Int)=(k:Int):=by rw [w64]<;>omega
  have hwi2:IntKind.i64.wrap ((k:Int)+1+1)=(k:Int)+1+1:=by rw [w64]<;>omega
  have h2j:k<L.length:=by omega
  have h00:(0:Int)≤(k:Int)+1:=by omega
  by_cases hc:L[k+1]=L[k]
  ·-- the first repetition: the inner loop
   rw [if_pos hc,hcm] at hct
   have hne:¬(fQ L).length=L.length:=by
    intro hel;have he:fQ L=L:=(UZ L).eq_of_length hel
    have h3:(fQ (L.take (k+2))).length=k+2:=by
     have h4:∀(a:Rl) (x y:List Rl),oK a (x++y)=x++y→oK a x=x:=by
      intro a x
      induction x generalizing a with
      | nil=>intro y _;rfl
      | cons b x ih=>
       intro y h5;simp only [List.cons_append,oK] at h5 ⊢
       split at h5
       ·have:=(Eo b (x++y)).length_le
        rw [h5] at this;simp at this;omega
       ·rename_i h6;rw [if_neg h6];injection h5 with _ h7;rw [ih b y h7]
     have h5:fQ (L.take (k+2)++L.drop (k+2))=L.take (k+2)++L.drop (k+2):=by rw [List.take_append_drop];exact he
     have h6:fQ (L.take (k+2))=L.take (k+2):=by
      cases hx:L.take (k+2) with
      | nil=>rfl
      | cons a x=>
       rw [hx] at h5;simp only [List.cons_append,fQ] at h5 ⊢;injection h5 with _ h7;rw [h4 a x _ h7]
     rw [h6];simp;omega
    rw [hct] at h3;simp at h3;omega
   obtain ⟨k2,hin⟩:=Oi L hL s cx l t ver hl hlim hbase (k+1) (by omega) (L.length - (k+2)) 0 (by omega) (by
    show (fQ (L.take (k+2))).length≤_
    rw [hct];simp;omega)
   have hk2:fQ (L.take (k+1+0+1))=L.take (k+1):=hct;rw [hk2] at hin
   have htd:L.take (k+1)++L.drop (L.take (k+1)).length=L:=by
    rw [List.length_take,Nat.min_eq_left (by omega)];exact List.take_append_drop _ _
   rw [htd,List.length_take,Nat.min_eq_left (by omega)] at hin;have hcl:=Yg L;have hclt:(fQ L).length<L.length:=by omega
   rw [if_neg hne];obtain ⟨m,hm⟩:∃m,L.length - (fQ L).length=m+1:=⟨L.length - (fQ L).length - 1,by omega⟩;have hcells:zK L=(fQ L).map AV.s++List.replicate (m+1) (AV.s []):=by rw [zK,hm]
   have hspl:splice ((fQ L++L.drop (fQ L).length).map AV.s) (fQ L).length (List.replicate (m+1) (AV.s []))=zK L:=by
    rw [hcells];unfold splice;rw [List.map_append,List.take_left' (by simp),List.drop_of_length_le (by simp;omega),List.append_nil]
   have hrep:(List.replicate (m+1) [AV.s []]).flatten=List.replicate (m+1) (AV.s []):=by
    generalize m+1=r
    induction r with
    | zero=>rfl
    | succ r ih=>simp [List.replicate_succ,ih]
   have hfit:(fQ L).length+(m+1)≤L.length:=by omega
   have hcond:(fQ L).length≤L.length:=hcl;clear hct hcm hk2 htd hcells hne hclt hK;generalize hX:List.replicate (m+1) (AV.s [])=X at hspl hrep;simp [eH,h00,h2,h2j,hj,hl,hp1,hp2,hwi1,hc] at hin ⊢;have hj1:k+1≤L.length:=by omega
   have hfit2:(fQ L).length+(m+1)≤(fQ L).length+(L.length - (fQ L).length):=by omega
   simp [hj1,hin,hl,hcond,hm,hrep,hX,hfit,hfit2,hlim,hbase];simp [splice] at hspl;rw [hspl]
  ·have hct':fQ (L.take (k+2))=L.take (k+2):=by
    rw [hct,if_neg hc,hcm];exact (List.take_succ_eq_append_getElem hj).symm
   have ih:=Oj d (k+1) (by omega) hct';rw [←hK] at ih;clear hK hct hct' hcm;simp [eH,h00,h2,h2j,hj,hl,hp1,hp2,hwi1,hwi2,hc] at ih ⊢;exact ih
theorem ZJ (m:Nat) (hm:m=L.length) (hs:s[l]?=some (.buf t 1 ver (L.map .s))):
  aj P0 (.fn (.func eu) [] []) [.sk l ver 1 0 m] s cx=.ret (.sk l ver 1 0 (fQ L).length) (s.set l (.buf t 1 ver (zK L))):=by
 subst hm
 have hset:s.set l (.buf t 1 ver (L.map .s))=s:=by
  apply List.ext_getElem?;intro i;by_cases hi:l=i
  ·subst hi;rw [List.getElem?_set_self hl,hs]
  ·rw [List.getElem?_set_ne hi]
 refine qj (by simp) ?_
 match L,hL with
 | [],_=>
  have h1:zK []=([]:List Rl).map .s:=by simp [zK,fQ]
  rw [h1,hset];simp [af,bJ,fQ]
 | [a],_=>
  have h1:zK [a]=[a].map .s:=by simp [zK,fQ,oK]
  rw [h1,hset];simp [af,bJ,fQ,oK]
 | a::b::r,hL=>
  have h:=Oj (a::b::r) hL s ⟨cx.lim,cx.base⟩ l t ver hl hlim hbase r.length.succ 0 (by simp;omega) (by simp [fQ,oK]);rw [hset] at h;have h2:¬((a::b::r).length:Int)<2:=by simp;omega
  by_cases hc:(fQ (a::b::r)).length=(a::b::r).length
  ·rw [if_pos hc] at h;simp only [Nat.zero_add] at h;generalize hX:a::b::r=X at *;simp at h;simp [af,bJ,h2,h,hc]
  ·rw [if_neg hc] at h;simp only [Nat.zero_add] at h;generalize hX:a::b::r=X at *;simp at h;simp [af,bJ,h2,h]
end
def ZM (n:Nat):List Rl→AV
 | []=>.ns
 | _::r=>.sk n r.length 1 0 (r.length+1)
def YD:List Rl→St
 | []=>[]
 | a::r=>[.buf au 1 r.length ((a::r).map .s)]
theorem ZG (V:List Rl) (hV:V.length≤300000) (s:St) (cx:Ctx) (l t ver:Nat) (hs:s[l]?=some (.buf t 1 ver (V.map .s))) (hlim:cx.lim≤l) (hbase:cx.base≤l):
  aj P0 (.fn (.func kP) [] []) [.sk l ver 1 0 V.length] s cx=.ret (.tu []) (s.set l (.buf t 1 ver ((Go.Ai.sortStr V).map .s))):=by
 refine NE (A:=P0) (k:=.sortS) rfl rfl (by simp) ?_
 cases V with
 | nil=>
  have hset:s.set l (.buf t 1 ver (([]:List Rl).map .s))=s:=by
   apply List.ext_getElem?;intro i;by_cases hi:l=i
   ·subst hi;rw [List.getElem?_set_self (List.getElem?_eq_some_iff.1 hs).1,hs]
   ·rw [List.getElem?_set_ne hi]
  simp only [Go.Ai.sortStr];rw [hset];simp [lS]
 | cons a r=>
  have hm:∀l:List Rl,(l.map AV.s).mapM strOf=some l:=by
   intro l
   induction l with
   | nil=>rfl
   | cons x l ih=>simp only [List.map_cons,List.mapM_cons,ih,strOf];rfl
  have hlen:(Go.Ai.sortStr (a::r)).length=r.length+1:=(rH (a::r)).length_eq
  have hcond:ver=ver∧(1:Nat)=1∧(1:Nat)=1∧0+(r.length+1)≤((a::r).map AV.s).length∧r.length<aQ∧cx.lim≤l∧cx.base≤l:=
   ⟨rfl,rfl,rfl,by simp,by unfold aQ;simp at hV;omega,hlim,hbase⟩
  have htk:(((a::r).map AV.s).drop 0).take (r.length+1)=(a::r).map AV.s:=by rw [List.drop_zero,List.take_of_length_le (by simp)]
  have hsp:splice ((a::r).map AV.s) 0 ((Go.Ai.sortStr (a::r)).map AV.s)=(Go.Ai.sortStr (a::r)).map AV.s:=by
   unfold splice;rw [List.take_zero,List.nil_append,List.drop_of_length_le (by simp [hlen]),List.append_nil]
  show lS (aj P0) (aj P0.quiet) .sortS [.sk l ver 1 0 (r.length+1)] s cx=_;unfold lS;dsimp only;rw [hs];dsimp only;rw [if_pos hcond,htk,hm];dsimp only;rw [hsp]
theorem agc {S:St} {n m:Nat} {a:AV} (h:a.under n=true):Ah S n m a=some a:=by
 cases m<;>simp [Ah,h]
theorem Xv {F:AV→Option AV}:∀{l:List AV},(∀a∈l,F a=some a)→l.mapM F=some l
 | [],_=>by simp
 | a::l,h=>by
  simp only [List.mapM_cons,Option.bind_eq_bind,Option.pure_def,h a (by simp),Xv (l:=l) (fun b hb=>h b (by simp [hb]))];rfl
theorem aaE {s:St} {t ver:Nat} (M:List Rl) (hM:M≠[]) (Z:List AV):frz (s++[.buf t 1 ver (M.map .s++Z)]) s.length (.sk s.length ver 1 0 M.length)=some (.sl (M.map .s)):=by
 have h1:(AV.sk s.length ver 1 0 M.length).under s.length=false:=by simp [AV.under]
 have ht:(M.map AV.s++Z).take (M.length * 1)=M.map AV.s:=by rw [Nat.mul_one,List.take_left' (by simp)]
 have hm:(M.map AV.s).mapM (Ah (s++[.buf t 1 ver (M.map .s++Z)]) s.length 5)=some (M.map AV.s):=Xv fun a ha=>agc (by
  obtain ⟨x,_,rfl⟩:=List.mem_map.1 ha;simp)
 have ho:(M.map AV.s).all AV.one=true:=List.all_eq_true.2 fun a ha=>by obtain ⟨x,_,rfl⟩:=List.mem_map.1 ha;rfl
 have hc:∀N:List Rl,chunk 1 N.length (N.map AV.s)=N.map .s:=by
  intro N
  induction N with
  | nil=>rfl
  | cons x N ih=>simp only [List.length_cons,List.map_cons,chunk,if_true,List.drop_succ_cons,List.drop_zero,ih];rfl
 rw [frz,if_neg (by rw [h1];exact Bool.false_ne_true),Ah,if_neg (by rw [h1];exact Bool.false_ne_true)];simp only [List.getElem?_append_right (Nat.le_refl _),Nat.sub_self,List.getElem?_cons_zero];rw [if_pos (by simp),List.drop_zero,ht,hm];show (if _ then _ else _)=_;rw [if_pos ⟨by omega,ho⟩,hc]
theorem TR (s:St) (cx:Ctx):aj P0 (.fn (.func eu) [] []) [.ns] s cx=.ret .ns s:=by
 refine qj (by simp) ?_;simp [af,bJ]
theorem TL (s:St) (cx:Ctx):aj P0 (.fn (.func kP) [] []) [.ns] s cx=.ret (.tu []) s:=
 NE (A:=P0) (k:=.sortS) rfl rfl (by simp) (by simp [lS])
theorem XA (l:List Rl) (x:Rl) (hl:l.length≤1000000) (v:AV) (hv:v=.sl (l.map .s)∨(v=.ns∧l=[])) (s:St) (cx:Ctx):
  ∀(rest:List Rl) (i:Nat),l.drop i=rest→
  ∃j:Nat,gQ (aB P0.glob (aj P0) cx false fJ) [0,1,7,8] [(0,.v v),(1,.v (.s x)),(7,.v (.i .i64 l.length)),(8,.v (.i .i64 i))] s=
   if x∈rest then .ret [(4,.v (.i .i64 (j:Int)))] s else .exit 0 [(0,.v v),(1,.v (.s x)),(7,.v (.i .i64 l.length)),(8,.v (.i .i64 (j:Int))),(9,.v (.b false))] s
 | [],i,h=>by
  have h1:¬i<l.length:=Nat.not_lt.2 (drop_nil h);refine ⟨i,ak fun K hK=>?_⟩;simp [fJ,h1]
 | p::r,i,h=>by
  obtain ⟨h1,h2,h3,h4⟩:=drop_cons h;have h5:=h4 h3;have hw:=wI (i:=i) (by omega)
  have hv':v=.sl (l.map .s):=by
   rcases hv with h|⟨_,h⟩
   ·exact h
   ·subst h;simp at h3
  subst hv';by_cases hp:p=x
  ·refine ⟨i,ak fun K hK=>?_⟩;clear h4;simp [fJ,h3,h5,hw,hp]
  ·obtain ⟨j,ih⟩:=XA l x hl _ (.inl rfl) s cx r (i+1) h2;have hp':¬x=p:=fun h=>hp h.symm;refine ⟨j,ak fun K hK=>?_⟩;rw [←hK,show ((i+1:Nat):Int)=(i:Int)+1 from rfl] at ih;clear hK h4
   try simp at ih
   simp [fJ,h3,h5,hw,hp,hp',ih]
theorem OI (l:List Rl) (x:Rl) (hl:l.length≤1000000) (v:AV) (hv:v=.sl (l.map .s)∨(v=.ns∧l=[])) (s:St) (cx:Ctx):
  aj P0 (.fn (.func dU) [] []) [v,.s x] s cx=.ret (.b (decide (x∈l))) s:=by
 have key:∃n:Int,(0≤n ↔ x∈l)∧∀cx,aj P0 (.fn (.func iM) [] []) [v,.s x] s cx=.ret (.i .i64 n) s:=by
  obtain ⟨j,h⟩:=XA l x hl v hv s ⟨s.length,s.length⟩ l 0 rfl
  have hlen:vV [(6,.v v),(0,.v v),(1,.v (.s x))] (some (.v v))=some (l.map .s):=by
   rcases hv with h|⟨h,h'⟩
   ·subst h;rfl
   ·subst h h';rfl
  rw [show ((0:Nat):Int)=0 from rfl] at h;by_cases hx:x∈l
  ·rw [if_pos hx] at h;refine ⟨j,by simp [hx],fun cx=>rC (by simp) ?_⟩;rcases hv with h' | ⟨h',h''⟩
   ·subst h'
    try simp at h
    simp [af,eX,h]
   ·subst h'';cases hx
  ·rw [if_neg hx] at h;refine ⟨-1,by simp [hx],fun cx=>rC (by simp) ?_⟩;rcases hv with h' | ⟨h',h''⟩
   ·subst h'
    try simp at h
    simp [af,eX,h]
   ·subst h' h''
    try simp at h
    simp [af,eX,h]
 obtain ⟨n,hn,h⟩:=key;refine xM (by simp) ?_
 have hd:decide (x∈l)=decide (0≤n):=by by_cases hx:x∈l<;>simp [hx,hn]
 rw [hd];rcases hv with h' | ⟨h',h''⟩
 ·subst h';simp [af,fK,h]
 ·subst h';simp [af,fK,h]
theorem aiq (n:Nat) (h1:0<n) (h2:n≤1000000) (s:St) (cx:Ctx):
  aj P0 (.fn (.func gK) [] []) [.ns,.i .i64 n] s cx=.ret (.sk s.length 0 1 0 0) (s++[.buf au 1 0 (List.replicate n [AV.s []]).flatten]):=by
 refine sV (by simp) ?_;have q1:¬(n:Int)<0:=by omega
 have q2:(0:Int)<n:=by omega
 have q3:n≤16777216:=by omega
 have q4:IntKind.i64.wrap (n:Int)=n:=w64 (by omega) (by omega);have q5:IntKind.i64.wrap (0:Int)=0:=by decide
 simp [af,iI,q1,q2,q3,q4,q5,h1]
end Go.Ai.Z
namespace Go.Ai.Z
theorem afz (l:List Rl):slS l=slf true (l.map .s):=by cases l<;>rfl
def qC (l:List Rl):AV:=slf true (l.map .s)
def Cj:List (List Rl)→Nat
 | []=>0
 | a::r=>a.length+Cj r
theorem Ub:∀LL:List (List Rl),LL.flatten.length=Cj LL
 | []=>rfl
 | a::r=>by simp [Cj,Ub r]
@[simp] theorem ahB (l:List Rl):(qC l).plain=qC l:=by cases l<;>rfl
@[simp] theorem ag0 (l:List Rl):(qC l).plain1=qC l:=by cases l<;>rfl
@[simp] theorem akg (l:List Rl):(qC l).one=true:=by cases l<;>rfl
@[simp] theorem ahD (l:List Rl):(qC l).cells=[qC l]:=by cases l<;>rfl
@[simp] theorem ahC (l:List Rl) (env:Env):vV env (some (.v (qC l)))=some (l.map .s):=by cases l<;>rfl
theorem acw (V:List Rl):(V.map AV.s).all (fun e=>e.cells.length == 1)=true:=by simp
section
variable (LL:List (List Rl)) (hL:LL.length≤1000) (hT:Cj LL≤100000) (s:St) (cx:Ctx)
include hL
theorem ag3:∀(rest:List (List Rl)) (k n:Nat),LL.drop k=rest→k≤LL.length→n+Cj rest≤100000→
  gQ (aB P0.glob (aj P0) cx false iQ) [0,3,9,10,11] [(0,.v (.sl (LL.map qC))),(3,.v (.i .i64 n)),(9,.v (.sl (LL.map qC))),(10,.v (.i .i64 LL.length)),(11,.v (.i .i64 k))] s=
   .exit 0 [(0,.v (.sl (LL.map qC))),(3,.v (.i .i64 ((n+Cj rest:Nat):Int))),(9,.v (.sl (LL.map qC))),(10,.v (.i .i64 LL.length)),(11,.v (.i .i64 LL.length)),(12,.v (.b false))] s
 | [],k,n,h,hk,hn=>by
  have h1:¬k<LL.length:=Nat.not_lt.2 (drop_nil h);have h2:k=LL.length:=by omega
  refine ak fun K hK=>?_;simp [iQ,h2,Cj]
 | p::r,k,n,h,hk,hn=>by
  obtain ⟨h1,h2,h3,h4⟩:=drop_cons h;have h5:=h4 h3;have hw:=wI (i:=k) (by omega);simp only [Cj] at hn;have ih:=ag3 r (k+1) (n+p.length) h2 (by omega) (by omega);have w1:IntKind.i64.wrap ((n:Int)+p.length)=n+p.length:=w64 (by omega) (by omega);have q1:¬(n:Int)+p.length<0:=by omega
  refine ak fun K hK=>?_;rw [←hK,show ((k+1:Nat):Int)=(k:Int)+1 from rfl,show ((n+p.length:Nat):Int)=(n:Int)+p.length by omega] at ih;clear hK h4;rw [show n+Cj (p::r)=n+p.length+Cj r by simp [Cj];omega];simp [iQ,h3,h5,hw,w1,q1,ih]
theorem adZ (hlim:cx.lim≤s.length):∀(rest:List (List Rl)) (k v:Nat) (M:List Rl) (Z:List AV),LL.drop k=rest→k≤LL.length→M.length+Cj rest≤100000→
  ∃(v':Nat) (Z':List AV),gQ (aB P0.glob (aj P0) cx false bC) [6,25,26,27] [(6,.v (.sk s.length v 1 0 M.length)),(25,.v (.sl (LL.map qC))),(26,.v (.i .i64 LL.length)),(27,.v (.i .i64 k))] (s++[.buf au 1 v (M.map .s++Z)])=
    .exit 2 [(6,.v (.sk s.length v' 1 0 (M++rest.flatten).length)),(25,.v (.sl (LL.map qC))),(26,.v (.i .i64 LL.length)),(27,.v (.i .i64 LL.length)),(28,.v (.b false))] (s++[.buf au 1 v' ((M++rest.flatten).map .s++Z')])
 | [],k,v,M,Z,h,hk,hn=>by
  have h1:¬k<LL.length:=Nat.not_lt.2 (drop_nil h);have h2:k=LL.length:=by omega
  refine ⟨v,Z,ak fun K hK=>?_⟩;simp [bC,h2]
 | []::r,k,v,M,Z,h,hk,hn=>by
  obtain ⟨h1,h2,h3,h4⟩:=drop_cons h;have h5:=h4 h3;have hw:=wI (i:=k) (by omega);obtain ⟨v',Z',ih⟩:=adZ hlim r (k+1) v M Z h2 (by omega) (by simpa [Cj] using hn);refine ⟨v',Z',ak fun K hK=>?_⟩;rw [←hK,show ((k+1:Nat):Int)=(k:Int)+1 from rfl] at ih;clear hK h4;have e0:qC []=.ns:=rfl;simp only [List.flatten_cons,List.nil_append];rw [←ih];clear ih;simp [bC,h3,h5,hw,e0]
 | (a::p)::r,k,v,M,Z,h,hk,hn=>by
  obtain ⟨h1,h2,h3,h4⟩:=drop_cons h;have h5:=h4 h3;have hw:=wI (i:=k) (by omega);simp only [Cj,List.length_cons] at hn;obtain ⟨v',Z',ih⟩:=adZ hlim r (k+1) (v+1) (M++(a::p)) [] h2 (by omega) (by simp;omega);refine ⟨v',Z',ak fun K hK=>?_⟩;rw [←hK,show ((k+1:Nat):Int)=(k:Int)+1 from rfl] at ih;clear hK h4;have e0:qC (a::p)=.sl ((a::p).map .s):=rfl
  have hfm:∀L:List Rl,(L.map AV.s).flatMap AV.cells=L.map AV.s:=fun L=>by
   induction L with
   | nil=>rfl
   | cons x r ih=>rw [List.map_cons,List.flatMap_cons,ih];rfl
  have hcl:=acw p;have hm2:M.length+(p.length+1)≤1073741824:=by omega
  have htk:∀Y:List AV,List.take M.length (M.map AV.s++Y)=M.map AV.s:=fun Y=>List.take_left' (by simp);simp only [List.flatten_cons,←List.append_assoc];rw [←ih];clear ih;simp [bC,h3,h5,hw,e0,aQ,hlim,hm2,hcl,hfm,htk]
theorem U4 (s:St) (cx:Ctx):∀(rest:List (List Rl)) (k:Nat),LL.drop k=rest→k≤LL.length→Cj rest=0→
  gQ (aB P0.glob (aj P0) cx false bC) [6,25,26,27] [(6,.v .ns),(25,.v (.sl (LL.map qC))),(26,.v (.i .i64 LL.length)),(27,.v (.i .i64 k))] s=
   .exit 2 [(6,.v .ns),(25,.v (.sl (LL.map qC))),(26,.v (.i .i64 LL.length)),(27,.v (.i .i64 LL.length)),(28,.v (.b false))] s
 | [],k,h,hk,hn=>by
  have h1:¬k<LL.length:=Nat.not_lt.2 (drop_nil h);have h2:k=LL.length:=by omega
  refine ak fun K hK=>?_;simp [bC,h2]
 | p::r,k,h,hk,hn=>by
  obtain ⟨h1,h2,h3,h4⟩:=drop_cons h;have h5:=h4 h3;have hw:=wI (i:=k) (by omega);simp only [Cj] at hn;have ih:=U4 s cx r (k+1) h2 (by omega) (by omega);have hp:p=[]:=List.eq_nil_of_length_eq_zero (by omega);subst hp;refine ak fun K hK=>?_;rw [←hK,show ((k+1:Nat):Int)=(k:Int)+1 from rfl] at ih;clear hK h4;have e0:qC []=.ns:=rfl;rw [←ih];clear ih;simp [bC,h3,h5,hw,e0]
include hT
theorem aeT (s:St) (cx:Ctx) (hlim:cx.lim≤s.length):
  aj P0 (.fn (.func gZ) [] []) [.sl (LL.map qC)] s cx=.ret (qC LL.flatten) s:=by
 have e0:=ag3 LL hL s ⟨cx.lim,s.length⟩ LL 0 0 rfl (by omega) (by omega);have hfl:=Ub LL;refine yQ (by simp) ?_;simp only [Nat.zero_add] at e0;by_cases hz:Cj LL=0
 ·have e1:=U4 LL hL s ⟨cx.lim,s.length⟩ LL 0 rfl (by omega) hz;have h0:LL.flatten=[]:=List.eq_nil_of_length_eq_zero (by omega);rw [hz] at e0;have q5:IntKind.i64.wrap (0:Int)=0:=by decide
  have hg:aj P0 (.fn (.func gK) [] []) [.ns,.i .i64 0] s ⟨cx.lim,s.length⟩=.ret .ns s:=by
   refine sV (by simp) ?_;simp [af,iI,q5]
  simp at e0 e1;simp [af,gV,e0,e1,hg,h0,qC]
 ·have eg:=aiq (Cj LL) (by omega) (by omega) s ⟨cx.lim,s.length⟩;obtain ⟨v',Z',e1⟩:=adZ LL hL s ⟨cx.lim,s.length⟩ hlim LL 0 0 [] (List.replicate (Cj LL) [AV.s []]).flatten rfl (by omega) (by simpa using hT);generalize (List.replicate (Cj LL) [AV.s []]).flatten=Z at *;have hne:LL.flatten≠[]:=fun h=>by rw [h] at hfl;exact hz hfl.symm
  have hfr:=aaE (s:=s) (t:=au) (ver:=v') LL.flatten hne Z'
  have hr:qC LL.flatten=.sl (LL.flatten.map .s):=by
   cases hh:LL.flatten with
   | nil=>exact absurd hh hne
   | cons a r=>rfl
  rw [hr];simp only [List.nil_append] at e1;generalize LL.flatten=M at *;simp at e0 e1 hfr;simp [af,gV,e0,eg,e1,hfr]
end
def JL (n:Rl):List Rl:=match lC 58 n with|some (x,_)=>[x] | none=>[]
theorem Yd (n:Rl):(JL n).length≤1:=by unfold JL;split<;>simp
theorem Np:∀N:List Rl,(N.flatMap JL).length≤N.length
 | []=>by simp
 | a::r=>by
  have h1:=Np r;have h2:=Yd a;simp only [List.flatMap_cons,List.length_append,List.length_cons];omega
theorem UF (N:List Rl) (hN:N.length≤100000) (hn:∀x∈N,x.length≤1000000) (s:St):∀(rest:List Rl) (k:Nat) (V:List Rl),N.drop k=rest→k≤N.length→V.length+rest.length≤100000→
  gQ (aB P0.glob (aj P0) ⟨s.length,s.length⟩ false mQ) [2,17,18,19]
   [(2,.v (ZM s.length V)),(17,.v (qC N)),(18,.v (.i .i64 N.length)),(19,.v (.i .i64 k))] (s++YD V)=
  .exit 0 [(2,.v (ZM s.length (V++rest.flatMap JL))),(17,.v (qC N)),(18,.v (.i .i64 N.length)),(19,.v (.i .i64 N.length)),(20,.v (.b false))] (s++YD (V++rest.flatMap JL))
 | [],k,V,h,hk,_=>by
  have h1:¬k<N.length:=Nat.not_lt.2 (drop_nil h);have h2:k=N.length:=by omega
  refine ak fun K hK=>?_;simp [mQ,h2]
 | p::r,k,V,h,hk,hV=>by
  obtain ⟨h1,h2,h3,h4⟩:=drop_cons h;have h5:=h4 h3;have hw:=wI (i:=k) (by omega);have hc1:=Yd p;simp only [List.length_cons] at hV;have ih:=UF N hN hn s r (k+1) (V++JL p) h2 (by omega) (by simp;omega);have ec:=zk p 58 (by have:=hn p (by rw [←h5];exact List.getElem_mem h3);omega)
  have hr:qC N=.sl (N.map .s):=by
   cases N with
   | nil=>simp at h3
   | cons a r=>rfl
  have hmx:V.length+1≤aQ:=by unfold aQ;omega
  have h1m:1≤aQ:=by unfold aQ;omega
  simp only [List.flatMap_cons,←List.append_assoc];rw [hr] at ih ⊢;refine ak fun K hK=>?_;rw [←hK,show ((k+1:Nat):Int)=(k:Int)+1 from rfl] at ih;rw [←ih];clear hK h4 ih hn;unfold JL
  cases hc:lC 58 p with
  | none=>
   rw [hc] at ec;simp [mQ,h3,h5,hw,ec]
  | some q=>
   obtain ⟨x,y⟩:=q;rw [hc] at ec
   cases V with
   | nil=>simp [mQ,h3,h5,hw,ec,ZM,YD,h1m]
   | cons v r=>
    simp at hmx;have htk:List.take r.length (r.map AV.s)=r.map AV.s:=List.take_of_length_le (by simp);simp [mQ,h3,h5,hw,ec,ZM,YD,hmx,htk]
def OQ (V:List Rl):List Rl:=fQ (Go.Ai.sortStr V)
theorem TP (A R F I:List Rl) (hT:A.length+R.length+F.length+I.length≤100000) (hn:∀x∈A++R++F++I,x.length≤1000000) (s:St) (cx:Ctx):
  aj P0 (.fn (.func wF) [] []) [.ag [qC A,qC R,qC F,qC I]] s cx=.ret (qC (OQ ((A++R++F++I).flatMap JL))) s:=by
 have ec:=aeT [A,R,F,I] (by simp) (by simp [Cj];omega) s ⟨s.length,s.length⟩ (Nat.le_refl _);have hfl:[A,R,F,I].flatten=A++R++F++I:=by simp
 rw [hfl] at ec;have hNl:(A++R++F++I).length≤100000:=by simp;omega
 generalize A++R++F++I=N at *;have hl:=UF N (by omega) hn s N 0 [] rfl (by omega) (by simp;omega);have hvl:=Np N;rw [show ZM s.length []=.ns from rfl,show s++YD []=s from by simp [YD],List.nil_append] at hl;generalize N.flatMap JL=V at *;simp only [List.map_cons,List.map_nil] at ec
 cases V with
 | nil=>
  have h0:qC (OQ [])=.ns:=rfl;rw [h0];refine Gj (by simp) ?_;simp [ZM,YD] at hl;simp [af,uM,show List.range 4=[0,1,2,3] from rfl,ec,hl,dQ,splice,TL,TR]
 | cons v r=>
  have hvl':(v::r).length≤300000:=by omega
  have hSl:(Go.Ai.sortStr (v::r)).length=(v::r).length:=(rH (v::r)).length_eq
  have hne:fQ (Go.Ai.sortStr (v::r))≠[]:=by
   cases hS:Go.Ai.sortStr (v::r) with
   | nil=>rw [hS] at hSl;simp at hSl
   | cons a r=>simp [fQ]
  have e2:=ZG (v::r) hvl' (s++[.buf au 1 r.length ((v::r).map .s)]) ⟨s.length,s.length⟩ s.length au r.length (by simp) (Nat.le_refl _) (Nat.le_refl _);have e3:=ZJ (Go.Ai.sortStr (v::r)) (by omega) (s++[.buf au 1 r.length ((Go.Ai.sortStr (v::r)).map .s)]) ⟨s.length,s.length⟩ s.length au r.length (by simp) (Nat.le_refl _) (Nat.le_refl _) (v::r).length hSl.symm (by simp);obtain ⟨Z,hZ⟩:∃Z,zK (Go.Ai.sortStr (v::r))=(fQ (Go.Ai.sortStr (v::r))).map AV.s++Z:=⟨_,rfl⟩;rw [hZ] at e3;have hset:∀x y:fP,(s++[x]).set s.length y=s++[y]:=fun x y=>by simp
  rw [hset] at e2 e3;have hfz:=aaE (s:=s) (t:=au) (ver:=r.length) (fQ (Go.Ai.sortStr (v::r))) hne Z
  have h0:qC (OQ (v::r))=.sl ((fQ (Go.Ai.sortStr (v::r))).map AV.s):=by
   unfold OQ
   cases hc:fQ (Go.Ai.sortStr (v::r)) with
   | nil=>exact absurd hc hne
   | cons x y=>rfl
  rw [h0];generalize fQ (Go.Ai.sortStr (v::r))=C at *;generalize Go.Ai.sortStr (v::r)=S1 at *;simp only [ZM,YD] at hl;simp only [List.length_cons] at e2 e3;simp only [List.map_cons] at hl e2;refine Gj (by simp) ?_;simp at hl;simp [af,uM,show List.range 4=[0,1,2,3] from rfl,ec,hl,dQ,splice,e2,e3,hfz]
end Go.Ai.Z
namespace Go.Ai.Z
end Go.Ai.Z
