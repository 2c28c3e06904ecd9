/-
 Atoms of queries: their data and their order; rows of atoms in order.
-/
import Derived.Test.YtalbhlfigmlddaaGreatDoorAiT1
import Derived.Test.YtalbhlfigmlddaaGreatDoorAiKHQ
import Derived.Sort.AssemblyPlain
set_option maxRecDepth 100000
set_option linter.unusedSimpArgs false
set_option linter.unusedVariables false
set_option linter.unusedSectionVars false
namespace Go.Ai.Z
open Go.Lib (compareBytes)
structure At where
 kind:Int
 name:List UInt8
 x:List UInt8
 y:List UInt8
 lo:Int
 hi:Int
 deriving DecidableEq
def aK (a:At):AV:=.ag [.i .i64 a.kind,.s a.name,.s a.x,.s a.y,.i .i64 a.lo,.i .i64 a.hi]
def fP (a b:At):Int:=
 if lQ a.kind b.kind=0 then (if compareBytes a.name b.name=0 then (if compareBytes a.x b.x=0 then (if compareBytes a.y b.y=0 then (if lQ a.lo b.lo=0 then lQ a.hi b.hi else lQ a.lo b.lo) else compareBytes a.y b.y) else compareBytes a.x b.x) else compareBytes a.name b.name) else lQ a.kind b.kind
theorem kD:sU (fun _:At=>True) fP:=by
 have hI:∀p:At→Int,sU (fun _:At=>True) (fun a b=>lQ (p a) (p b)):=fun p=>TP.pull p (fun _ _=>trivial)
 have hB:∀p:At→List UInt8,sU (fun _:At=>True) (fun a b=>compareBytes (p a) (p b)):=fun p=>OA.pull p (fun _ _=>trivial)
 exact (hI (·.kind)).lex ((hB (·.name)).lex ((hB (·.x)).lex ((hB (·.y)).lex ((hI (·.lo)).lex (hI (·.hi))))))
theorem oH {a b:At}:fP a b=0 ↔ a=b:=by
 constructor
 ·intro h
  unfold fP at h
  split at h
  ·rename_i h1
   split at h
   ·rename_i h2
    split at h
    ·rename_i h3
     split at h
     ·rename_i h4
      split at h
      ·rename_i h5
       obtain ⟨k,n,x,y,lo,hi⟩:=a
       obtain ⟨k',n',x',y',lo',hi'⟩:=b
       simp only [Kv,fE] at h1 h2 h3 h4 h5 h
       subst h1 h2 h3 h4 h5 h;rfl
      ·rename_i hh;exact absurd h hh
     ·rename_i hh;exact absurd h hh
    ·rename_i hh;exact absurd h hh
   ·rename_i hh;exact absurd h hh
  ·rename_i hh;exact absurd h hh
 ·rintro rfl;exact kD.refl a trivial
def U2 (l:List At):Prop:=l.Pairwise fun a b=>fP a b≤0
def LtA (l:List At):Prop:=l.Pairwise fun a b=>fP a b<0
theorem O0 {a:At}:¬fP a a<0:=by have:=kD.refl a trivial;omega
theorem Sr {a b:At} (h:fP a b<0) (h':fP b a<0):False:=by
 have:=(kD.anti a b trivial trivial).1 h;omega
theorem Ij:∀{R S:List At},LtA R→LtA S→(∀a,a∈R ↔ a∈S)→R=S
 | [],[],_,_,_=>rfl
 | [],b::S,_,_,h=>by have:=(h b).2 (by simp);simp at this
 | a::R,[],_,_,h=>by have:=(h a).1 (by simp);simp at this
 | a::R,b::S,hR,hS,h=>by
  obtain ⟨r1,r2⟩:=List.pairwise_cons.1 hR
  obtain ⟨s1,s2⟩:=List.pairwise_cons.1 hS
  have e:a=b:=by
   have h1:=(h a).1 (by simp)
   have h2:=(h b).2 (by simp)
   rcases List.mem_cons.1 h1 with h1|h1
   ·exact h1
   ·rcases List.mem_cons.1 h2 with h2|h2
    ·exact h2.symm
    ·exact (Sr (s1 a h1) (r1 b h2)).elim
  subst e
  refine congrArg (a::·) (Ij r2 s2 fun c=>?_)
  have hc:=h c
  simp only [List.mem_cons] at hc
  constructor
  ·intro hm
   rcases hc.1 (.inr hm) with rfl|h'
   ·exact (O0 (r1 c hm)).elim
   ·exact h'
  ·intro hm
   rcases hc.2 (.inr hm) with rfl|h'
   ·exact (O0 (s1 c hm)).elim
   ·exact h'
def jw (a:At):List At→List At
 | []=>[]
 | b::r=>if fP b a=0 then jw b r else b::jw b r
def bI:List At→List At
 | []=>[]
 | a::r=>a::jw a r
theorem wJ:∀(a:At) (l:List At),(jw a l).Sublist l
 | a,[]=>.slnil
 | a,b::r=>by
  unfold jw
  split
  ·exact (wJ b r).cons _
  ·exact (wJ b r).cons_cons _
theorem EG:∀l:List At,(bI l).Sublist l
 | []=>.slnil
 | a::r=>(wJ a r).cons_cons _
theorem BI:∀(a:At) (r:List At) (c:At),c∈a::jw a r ↔ c∈a::r
 | a,[],c=>Iff.rfl
 | a,b::r,c=>by
  have ih:=BI b r c
  unfold jw
  split
  ·rename_i h
   have:=oH.1 h
   subst this
   rw [ih];simp
  ·rw [List.mem_cons,ih,←List.mem_cons]
theorem QM:∀(l:List At) (a:At),a∈bI l ↔ a∈l
 | [],a=>Iff.rfl
 | b::r,a=>BI b r a
theorem Ku:∀(a:At) (r:List At),U2 (a::r)→LtA (a::jw a r)
 | a,[],_=>List.pairwise_singleton _ _
 | a,b::r,h=>by
  obtain ⟨h1,h2⟩:=List.pairwise_cons.1 h
  have ih:=Ku b r h2
  unfold jw
  split
  ·rename_i hab
   have:=oH.1 hab
   subst this
   exact ih
  ·rename_i hab
   refine List.pairwise_cons.2 ⟨fun c hc=>?_,ih⟩
   have hb:fP a b<0:=by
    have:=h1 b (by simp)
    have h0:fP a b≠0:=fun h0=>hab (oH.2 (oH.1 h0).symm)
    omega
   rw [BI] at hc
   rcases List.mem_cons.1 hc with rfl|hc
   ·exact hb
   ·exact kD.lt_trans trivial trivial trivial hb ((List.pairwise_cons.1 h2).1 c hc)
theorem TN:∀{l:List At},U2 l→LtA (bI l)
 | [],_=>List.Pairwise.nil
 | a::r,h=>Ku a r h
def TdR (L R:List At):Prop:=LtA R∧∀a,a∈R ↔ a∈L
theorem TdR.same {L L' R R':List At} (h:TdR L R) (h':TdR L' R') (hm:∀a,a∈L ↔ a∈L'):R=R':=
 Ij h.1 h'.1 fun a=>by rw [h.2,h'.2,hm]
end Go.Ai.Z
namespace Go.Ai.Z
open Go.Lib (compareBytes)
theorem QN:∀(a b:List UInt8),compareBytes a b=if Op.bytesLess a b=true then -1 else if Op.bytesLess b a=true then 1 else 0
 | [],[]=>by simp [compareBytes,Op.bytesLess]
 | [],_::_=>by simp [compareBytes,Op.bytesLess]
 | _::_,[]=>by simp [compareBytes,Op.bytesLess]
 | a::x,b::y=>by
  rw [compareBytes,Op.bytesLess,Op.bytesLess,QN x y]
  by_cases h1:a<b
  ·simp [h1]
  ·by_cases h2:b<a
   ·simp [h1,h2,UInt8.ne_of_lt h2,(UInt8.ne_of_lt h2).symm]
   ·have:a=b:=UInt8.le_antisymm (UInt8.not_lt.1 h2) (UInt8.not_lt.1 h1)
    subst this
    simp [h1]
theorem uq:∀a:List UInt8,Op.bytesLess a a=false
 | []=>by simp [Op.bytesLess]
 | a::x=>by rw [Op.bytesLess,uq x];simp
@[simp] theorem OI (a:List UInt8) (s:St) (cx:Ctx):aH P0 (.fn (.func dQ) [] []) [.s a] s cx=.ret (.b false) s:=by
 refine zX (by simp) ?_
 simp [au,fH]
@[simp] theorem Nv (a b:List UInt8) (s:St) (cx:Ctx):aH P0 (.fn (.func bP) [] []) [.s a,.s b] s cx=.ret (.i .i64 (compareBytes a b)) s:=by
 refine xR (by simp) ?_
 rw [QN]
 by_cases hab:a=b
 ·subst hab
  simp [au,bF,uq]
 ·cases h1:Op.bytesLess a b
  ·cases h2:Op.bytesLess b a
   ·have h3:=QN a b
    simp only [h1,h2,Bool.false_eq_true,if_false] at h3
    exact absurd ((fE a b).1 h3) hab
   ·simp [au,bF,h1,hab]
  ·simp [au,bF,h1]
theorem RU (a b:At):orI [lQ a.kind b.kind,compareBytes a.name b.name,compareBytes a.x b.x,compareBytes a.y b.y,lQ a.lo b.lo,lQ a.hi b.hi]=fP a b:=by
 simp only [orI,fP]
 (repeat' split)<;>simp_all
@[simp] theorem Q8 (a b:At) (s:St) (cx:Ctx):aH P0 (.fn (.func bG) [] []) [aK a,aK b] s cx=.ret (.i .i64 (fP a b)) s:=by
 have e2:=Lu [lQ a.kind b.kind,compareBytes a.name b.name,compareBytes a.x b.x,compareBytes a.y b.y,lQ a.lo b.lo,lQ a.hi b.hi] (by simp)
 simp only [List.map_cons,List.map_nil,RU] at e2
 refine Ez (by simp) ?_
 have hr:List.range 6=[0,1,2,3,4,5]:=rfl
 simp [au,iD,aK,e2,hr]
@[simp] theorem N7 (a:List UInt8) (s:St) (cx:Ctx):aH Pq (.fn (.func dQ) [] []) [.s a] s cx=.ret (.b false) s:=by
 refine yS (by simp) ?_
 simp [au,fH]
@[simp] theorem MH (a b:List UInt8) (s:St) (cx:Ctx):aH Pq (.fn (.func bP) [] []) [.s a,.s b] s cx=.ret (.i .i64 (compareBytes a b)) s:=by
 refine wE (by simp) ?_
 rw [QN]
 by_cases hab:a=b
 ·subst hab
  simp [au,bF,uq]
 ·cases h1:Op.bytesLess a b
  ·cases h2:Op.bytesLess b a
   ·have h3:=QN a b
    simp only [h1,h2,Bool.false_eq_true,if_false] at h3
    exact absurd ((fE a b).1 h3) hab
   ·simp [au,bF,h1,hab]
  ·simp [au,bF,h1]
theorem FP (a b:At) (s:St) (cx:Ctx):aH Pq (.fn (.func bG) [] []) [aK a,aK b] s cx=.ret (.i .i64 (fP a b)) s:=by
 have e2:=KQ [lQ a.kind b.kind,compareBytes a.name b.name,compareBytes a.x b.x,compareBytes a.y b.y,lQ a.lo b.lo,lQ a.hi b.hi] (by simp)
 simp only [List.map_cons,List.map_nil,RU] at e2
 refine Dc (by simp) ?_
 have hr:List.range 6=[0,1,2,3,4,5]:=rfl
 simp [au,iD,aK,e2,hr]
end Go.Ai.Z
namespace Go.Ai.Z
open Go.Lib (compareBytes)
open Go.Sort (SWO PermIn SortedIn pdq pdq_sorts)
theorem II (c:At):aK c=.ag [.i .i64 c.kind,.s c.name,.s c.x,.s c.y,.i .i64 c.lo,.i .i64 c.hi]:=rfl
def flA:List At→List AV
 | []=>[]
 | c::r=>[.i .i64 c.kind,.s c.name,.s c.x,.s c.y,.i .i64 c.lo,.i .i64 c.hi]++flA r
theorem La:∀x y:List At,flA (x++y)=flA x++flA y
 | [],y=>rfl
 | c::x,y=>by simp only [List.cons_append,flA,La x y,List.append_assoc]
@[simp] theorem Dq:∀l:List At,(flA l).length=l.length * 6
 | []=>rfl
 | c::r=>by simp only [flA,List.length_append,Dq r,List.length_cons,List.length_nil];omega
@[simp] theorem TJ (L:List At) (c:At):flA L++[.i .i64 c.kind,.s c.name,.s c.x,.s c.y,.i .i64 c.lo,.i .i64 c.hi]=flA (L++[c]):=by
 rw [La];rfl
theorem yV:∀(L:List At) (i:Nat) (z:List AV),i≤L.length→(flA L++z).drop (i * 6)=flA (L.drop i)++z
 | L,0,z,_=>by simp
 | [],i+1,z,h=>absurd h (by simp)
 | c::r,i+1,z,h=>by
  have e:(i+1) * 6=6+i * 6:=by omega
  rw [e,←List.drop_drop]
  simp only [flA,List.cons_append,List.nil_append,List.drop_succ_cons,List.drop_zero]
  exact yV r i z (by simpa using h)
theorem yU:∀(L:List At) (i:Nat) (z:List AV),i≤L.length→(flA L++z).take (i * 6)=flA (L.take i)
 | L,0,z,_=>by simp [flA]
 | [],i+1,z,h=>absurd h (by simp)
 | c::r,i+1,z,h=>by
  have e:(i+1) * 6=i * 6+6:=by omega
  rw [e]
  simp only [flA,List.cons_append,List.nil_append,List.take_succ_cons]
  rw [yU r i z (by simpa using h)]
theorem RQ (L:List At) (z:List AV) (i:Nat) (h:i<L.length):part (flA L++z) (i * 6) (some 6)=some (aK L[i]):=by
 have hd:=yV L i z (by omega)
 have hl:i * 6+6≤(flA L++z).length:=by
  rw [List.length_append,Dq];have:(i+1) * 6≤L.length * 6:=Nat.mul_le_mul_right 6 h;omega
 simp only [part,if_pos hl,hd]
 have:L.drop i=L[i]::L.drop (i+1):=List.drop_eq_getElem_cons h
 rw [this,II]
 simp [flA]
theorem Dk (L:List At) (z:List AV) (i:Nat) (h:i<L.length):AV.ag (((flA L++z).drop (i * 6)).take 6)=aK L[i]:=by
 have hl:i * 6+6≤(flA L++z).length:=by
  rw [List.length_append,Dq];have:(i+1) * 6≤L.length * 6:=Nat.mul_le_mul_right 6 h;omega
 have:=RQ L z i h
 simp only [part,if_pos hl,Option.some.injEq] at this
 exact this
theorem Gp (L:List At) (z:List AV) (i:Nat) (h:i<L.length):i * 6+6≤L.length * 6+z.length:=by
 have:(i+1) * 6≤L.length * 6:=Nat.mul_le_mul_right 6 h
 omega
theorem NM (L:List At) (z:List AV) (i:Nat) (h:i<L.length) (c:At):
  splice (flA L++z) (i * 6) [.i .i64 c.kind,.s c.name,.s c.x,.s c.y,.i .i64 c.lo,.i .i64 c.hi]=flA (L.set i c)++z:=by
 have h1:=yU L i z (by omega)
 have h2:=yV L (i+1) z (by omega)
 have e:i * 6+6=(i+1) * 6:=by omega
 simp only [splice,List.length_cons,List.length_nil,Nat.zero_add,Nat.reduceAdd,h1]
 rw [e,h2,←List.append_assoc]
 congr 1
 rw [show flA (L.take i)++[AV.i .i64 c.kind,.s c.name,.s c.x,.s c.y,.i .i64 c.lo,.i .i64 c.hi]=flA (L.take i++[c]) from TJ _ _,←La]
 congr 1
 rw [List.set_eq_take_append_cons_drop,if_pos h];simp
theorem IL (a:At):∀(l:List At) (b:At),jw a (l++[b])=if fP b (l.getLastD a)=0 then jw a l else jw a l++[b]
 | [],b=>by simp [jw]
 | x::l,b=>by
  simp only [List.cons_append,jw]
  have h:=IL x l b
  have hl:(x::l).getLastD a=l.getLastD x:=List.getLastD_cons
  rw [h,hl]
  split<;>split<;>rfl
theorem IQ (L:List At) (j:Nat) (h:j+1<L.length):bI (L.take (j+2))=if fP L[j+1] L[j]=0 then bI (L.take (j+1)) else bI (L.take (j+1))++[L[j+1]]:=by
 have h1:L.take (j+2)=L.take (j+1)++[L[j+1]]:=List.take_succ_eq_append_getElem h
 rw [h1]
 have h2:∃a r,L.take (j+1)=a::r∧r.getLastD a=L[j]:=by
  have h3:L.take (j+1)=L.take j++[L[j]]:=List.take_succ_eq_append_getElem (by omega)
  rw [h3]
  cases hL:L.take j with
  | nil=>exact ⟨_,_,rfl,rfl⟩
  | cons a r=>exact ⟨a,r++[L[j]],rfl,by simp⟩
 obtain ⟨a,r,e1,e2⟩:=h2
 rw [e1]
 simp only [List.cons_append,bI,IL,e2]
 split<;>rfl
theorem Nl (l:List At):(bI l).length≤l.length:=(EG l).length_le
theorem Ej {β:Type} {f:AV→Option β} {g:At→β}:∀(l:List At),(∀x∈l,f (aK x)=some (g x))→(l.map aK).mapM f=some (l.map g)
 | [],_=>by simp
 | x::l,h=>by
  simp only [List.map_cons,List.mapM_cons,Option.bind_eq_bind,Option.pure_def,h x (by simp),Ej l (fun y hy=>h y (by simp [hy]))]
  rfl
theorem JK:∀L:List At,bH 0 (flA L)=true
 | []=>by simp [flA]
 | c::r=>by
  simp [flA,JK r]
theorem EI:∀(L:List At) (z:List AV),chunk 6 L.length (flA L++z)=L.map aK
 | [],z=>rfl
 | c::r,z=>by
  have h:=EI r z
  simp only [List.length_cons,chunk,flA,List.append_assoc,List.cons_append,List.nil_append,List.map_cons]
  rw [II]
  simp [h]
theorem Rn (L:List At) (f:At→At→Int) {i j:Nat} (hi:i<L.length) (hj:j<L.length):BO (L.map fun x=>L.map fun y=>f x y) i j=f L[i] L[j]:=by
 simp [BO,hi,hj]
theorem Dn (L:List At) (z:List AV):∀(ix:List Nat) (hx:∀i∈ix,i<L.length),
  (ix.flatMap fun i=>((flA L++z).drop (i * 6)).take 6)=flA (ix.attach.map fun i=>L[i.1]'(hx i.1 i.2))
 | [],_=>rfl
 | i::ix,hx=>by
  have hi:=hx i (by simp)
  have h:=Dk L z i hi
  rw [II] at h
  simp only [AV.ag.injEq] at h
  have ih:=Dn L z ix (fun j hj=>hx j (by simp [hj]))
  simp only [List.flatMap_cons,h,ih,List.attach_cons,List.map_cons,List.map_map,flA]
  rfl
theorem O9 (L:List At) (hL:L.length≤100000):∃M:List At,M.Perm L∧U2 M∧
  (∀(s:St) (cx:Ctx) (l t ver:Nat) (z:List AV),s[l]?=some (.buf t 6 ver (flA L++z))→cx.lim≤l→cx.base≤l→
   aH P0 (.fn (.func aN) [] []) [.sk l ver 6 0 L.length,.fn (.func bG) [] []] s cx=.ret (.tu []) (s.set l (.buf t 6 ver (flA M++z))))∧
  (L=[]→∀(s:St) (cx:Ctx),aH P0 (.fn (.func aN) [] []) [.ns,.fn (.func bG) [] []] s cx=.ret (.tu []) s):=by
 have hns:∀(s:St) (cx:Ctx),aH P0 (.fn (.func aN) [] []) [.ns,.fn (.func bG) [] []] s cx=.ret (.tu []) s:=
  fun s cx=>vJ (A:=P0) (k:=.sortK 6) rfl rfl (by simp) (by simp [eY])
 match L,hL with
 | [],_=>
  refine ⟨[],.refl _,.nil,fun s cx l t ver z hs hlim hbase=>?_,fun _=>hns⟩
  have hset:s.set l (.buf t 6 ver (flA []++z))=s:=by
   apply List.ext_getElem?
   intro i
   by_cases hi:l=i
   ·subst hi;rw [List.getElem?_set_self (List.getElem?_eq_some_iff.1 hs).1,hs]
   ·rw [List.getElem?_set_ne hi]
  rw [hset]
  exact vJ (A:=P0) (k:=.sortK 6) rfl rfl (by simp) (by simp [eY])
 | c::r,hL=>
  generalize hX:c::r=X at *
  obtain ⟨n,hn⟩:∃n,X.length=n+1:=⟨r.length,by rw [←hX];rfl⟩
  let lt:Nat→Nat→Bool:=fun i j=>decide (BO (X.map fun x=>X.map fun y=>fP x y) i j<0)
  have hlt:∀i j (hi:i<X.length) (hj:j<X.length),lt i j=decide (fP X[i] X[j]<0):=fun i j hi hj=>by simp only [lt,Rn X fP hi hj]
  let ltF:Fin (n+1)→Fin (n+1)→Bool:=fun i j=>lt i.1 j.1
  have hltF:∀i j:Fin (n+1),ltF i j=decide (fP (X[i.1]'(by omega)) (X[j.1]'(by omega))<0):=fun i j=>hlt _ _ _ _
  have hO:SWO ltF:=by
   refine ⟨fun x=>?_,fun x y z h1 h2=>?_,fun x y z h1 h2=>?_⟩
   ·rw [hltF,kD.refl _ trivial];rfl
   ·rw [hltF] at h1 h2 ⊢
    simp only [decide_eq_true_eq] at h1 h2 ⊢
    exact kD.lt_trans trivial trivial trivial h1 (by omega)
   ·rw [hltF] at h1 h2 ⊢
    simp only [decide_eq_false_iff_not] at h1 h2 ⊢
    intro h3
    have a1:=kD.anti (X[x.1]'(by omega)) (X[y.1]'(by omega)) trivial trivial
    have a2:=kD.anti (X[y.1]'(by omega)) (X[z.1]'(by omega)) trivial trivial
    have a3:=kD.anti (X[y.1]'(by omega)) (X[x.1]'(by omega)) trivial trivial
    have a4:=kD.anti (X[z.1]'(by omega)) (X[y.1]'(by omega)) trivial trivial
    have a5:=kD.anti (X[x.1]'(by omega)) (X[z.1]'(by omega)) trivial trivial
    have:=kD.trans (X[z.1]'(by omega)) (X[y.1]'(by omega)) (X[x.1]'(by omega)) trivial trivial trivial (by omega) (by omega)
    omega
  have hswo:Uh (n+1) lt=true:=by
   have h1:∀x y z,x<n+1→y<n+1→z<n+1→lt x x=false∧((lt x y=true→lt y z=true→lt x z=true)∧(lt x y=false→lt y z=false→lt x z=false)):=
    fun x y z hx hy hz=>⟨hO.irrefl ⟨x,hx⟩,fun a b=>hO.trans ⟨x,hx⟩ ⟨y,hy⟩ ⟨z,hz⟩ a b,fun a b=>hO.ntrans ⟨x,hx⟩ ⟨y,hy⟩ ⟨z,hz⟩ a b⟩
   unfold Uh
   refine List.all_eq_true.2 fun x hx=>?_
   simp only [List.mem_range] at hx
   rw [Bool.and_eq_true]
   refine ⟨by rw [(h1 x x x hx hx hx).1];rfl,List.all_eq_true.2 fun y hy=>List.all_eq_true.2 fun z hz=>?_⟩
   simp only [List.mem_range] at hy hz
   obtain ⟨_,h2,h3⟩:=h1 x y z hx hy hz
   cases hxy:lt x y<;>cases hyz:lt y z<;>cases hxz:lt x z<;>simp [hxy,hyz,hxz] at h2 h3 ⊢
  let d:Array (Fin (n+1)):=Array.ofFn fun i=>i
  have hd:d.size=n+1:=by simp [d]
  let d':=pdq ltF d 0 (n+1) (Go.Lib.bitLen (n+1)) true true
  have hsorts:=pdq_sorts ltF hO d 0 (n+1) (Go.Lib.bitLen (n+1)) true true (Nat.zero_le _) (by rw [hd];exact Nat.le_refl _) (Or.inl rfl)
  obtain ⟨⟨hsz,_,hperm⟩,hsort⟩:=hsorts
  have hd':d'.size=n+1:=hsz.trans hd
  have key:∀(a:Array (Fin (n+1))) (k:Nat),a.size=k→a.extract 0 k=a:=fun a k h=>by subst h;exact Array.extract_size
  have e1:d'.extract 0 (n+1)=d':=key _ _ hd'
  have e2:d.extract 0 (n+1)=d:=key _ _ hd
  have hpl:d'.toList.Perm (List.finRange (n+1)):=by
   have h1:(d'.extract 0 (n+1)).toList.Perm (d.extract 0 (n+1)).toList:=hperm
   rw [e1,e2] at h1
   have h2:d.toList=List.finRange (n+1):=by
    apply List.ext_getElem
    ·rw [Array.length_toList,hd,List.length_finRange]
    ·intro i h1 h2
     simp only [d,Array.getElem_toList,Array.getElem_ofFn,List.getElem_finRange]
     rfl
   rwa [h2] at h1
  let M:List At:=d'.toList.map fun i=>X[i.1]'(by omega)
  have hfin:(List.finRange (n+1)).map (fun i=>X[i.1]'(by omega))=X:=by
   apply List.ext_getElem
   ·simp [hn]
   ·intro i h1 h2;simp
  have hM:M.Perm X:=by
   have:=hpl.map fun i:Fin (n+1)=>X[i.1]'(by omega)
   rwa [hfin] at this
  have hS:U2 M:=by
   refine List.Pairwise.map _ (R:=fun i j:Fin (n+1)=>fP (X[i.1]'(by omega)) (X[j.1]'(by omega))≤0) (fun _ _ h=>h) ?_
   rw [List.pairwise_iff_getElem]
   intro i j hi hj hij
   have hi':i<d'.size:=by simpa using hi
   have hj':j<d'.size:=by simpa using hj
   have h1:=hsort i j (Nat.zero_le _) hij (by omega)
   have h2:ltF d'[j] d'[i]=false:=by
    rw [←getElem!_pos d' j hj',←getElem!_pos d' i hi'];exact h1
   rw [hltF] at h2
   simp only [decide_eq_false_iff_not] at h2
   have a1:=kD.anti (X[d'[i].1]'(by omega)) (X[d'[j].1]'(by omega)) trivial trivial
   have a2:=kD.anti (X[d'[j].1]'(by omega)) (X[d'[i].1]'(by omega)) trivial trivial
   simp only [Array.getElem_toList]
   omega
  refine ⟨M,hM,hS,fun s cx l t ver z hs hlim hbase=>?_,fun h0=>by rw [h0] at hn;simp at hn⟩
  refine vJ (A:=P0) (k:=.sortK 6) rfl rfl (by simp) ?_
  have htab:EH (aH P0.quiet) bG (chunk 6 (n+1) ((flA X++z).drop 0))=some (X.map fun x=>X.map fun y=>fP x y):=by
   rw [List.drop_zero,←hn,EI]
   exact Ej X (fun x hx=>Ej X (fun y hy=>by
    have:=FP x y [] ⟨0,0⟩
    simp only [JD]
    rw [show aH P0.quiet=aH Pq from rfl,this]))
  have hlen:X.length * 6=(n+1) * 6:=by rw [hn]
  have hund:bH 0 (((flA X++z).drop 0).take ((n+1) * 6))=true:=by
   rw [List.drop_zero,←hn,yU _ _ _ (Nat.le_refl _),List.take_of_length_le (Nat.le_refl _)]
   exact JK X
  have hcond:ver=ver∧6=6∧6=6∧2≤6∧0+(n+1) * 6≤(flA X++z).length∧n<bK∧cx.lim≤l∧cx.base≤l∧bH 0 (((flA X++z).drop 0).take ((n+1) * 6))=true:=
   ⟨rfl,rfl,rfl,by omega,by rw [List.length_append,Dq];omega,by unfold bK;omega,hlim,hbase,hund⟩
  have hspl:splice (flA X++z) 0 ((vP n lt).flatMap fun i=>((flA X++z).drop (0+i * 6)).take 6)=flA M++z:=by
   have hix:∀i∈vP n lt,i<X.length:=fun i hi=>by
    simp only [vP,List.mem_map] at hi
    obtain ⟨j,_,rfl⟩:=hi
    omega
   have h1:((vP n lt).flatMap fun i=>((flA X++z).drop (0+i * 6)).take 6)=flA M:=by
    simp only [Nat.zero_add]
    rw [Dn X z _ hix]
    congr 1
    apply List.ext_getElem
    ·simp [vP,M,d',ltF,d]
    ·intro i h1 h2
     simp [vP,M,d',ltF,d]
   have hMl:M.length=n+1:=hM.length_eq.trans hn
   rw [h1]
   unfold splice
   rw [Dq,hMl,Nat.zero_add,List.take_zero,List.nil_append]
   congr 1
   have h2:=yV X (n+1) z (by omega)
   rw [h2,List.drop_of_length_le (by omega)];rfl
  show eY (aH P0) (aH P0.quiet) (.sortK 6) [.sk l ver 6 0 X.length,.fn (.func bG) [] []] s cx=_
  rw [hn]
  unfold eY
  dsimp only
  rw [hs]
  dsimp only
  rw [if_pos hcond,htab]
  dsimp only
  rw [if_pos hswo,hspl]
end Go.Ai.Z
