/-
 Atoms of queries: their data and their order; rows of atoms in order.
-/
import Derived.Test.YtalbhlfigmlddaaGreatDoorAiT1
import Derived.Test.YtalbhlfigmlddaaGreatDoorAiKHQ
import Derived.Sort.AssemblyPlain
set_option maxRecDepth 100000
set_option linter.unusedSimpArgs false
set_option linter.unusedVariables false
set_option linter.unusedSectionVars false
namespace Go.Ai.Z
open Go.Lib (compareBytes)
structure At where
 kind:Int
 name:List UInt8
 x:List UInt8
 y:List UInt8
 lo:Int
 hi:Int
 deriving DecidableEq
def aI (a:At):AV:=.ag [.i .i64 a.kind,.s a.name,.s a.x,.s a.y,.i .i64 a.lo,.i .i64 a.hi]
def mr (a b:At):Int:=
 if tJ a.kind b.kind=0 then (if compareBytes a.name b.name=0 then (if compareBytes a.x b.x=0 then (if compareBytes a.y b.y=0 then (if tJ a.lo b.lo=0 then tJ a.hi b.hi else tJ a.lo b.lo) else compareBytes a.y b.y) else compareBytes a.x b.x) else compareBytes a.name b.name) else tJ a.kind b.kind
theorem pJ:yx (fun _:At=>True) mr:=by
 have hI:∀p:At→Int,yx (fun _:At=>True) (fun a b=>tJ (p a) (p b)):=fun p=>ZE.pull p (fun _ _=>trivial)
 have hB:∀p:At→List UInt8,yx (fun _:At=>True) (fun a b=>compareBytes (p a) (p b)):=fun p=>U2.pull p (fun _ _=>trivial)
 exact (hI (·.kind)).lex ((hB (·.name)).lex ((hB (·.x)).lex ((hB (·.y)).lex ((hI (·.lo)).lex (hI (·.hi))))))
theorem rM {a b:At}:mr a b=0 ↔ a=b:=by
 constructor
 ·intro h
  unfold mr at h
  split at h
  ·rename_i h1
   split at h
   ·rename_i h2
    split at h
    ·rename_i h3
     split at h
     ·rename_i h4
      split at h
      ·rename_i h5
       obtain ⟨k,n,x,y,lo,hi⟩:=a
       obtain ⟨k',n',x',y',lo',hi'⟩:=b
       simp only [XH,lM] at h1 h2 h3 h4 h5 h
       subst h1 h2 h3 h4 h5 h;rfl
      ·rename_i hh;exact absurd h hh
     ·rename_i hh;exact absurd h hh
    ·rename_i hh;exact absurd h hh
   ·rename_i hh;exact absurd h hh
  ·rename_i hh;exact absurd h hh
 ·rintro rfl;exact pJ.refl a trivial
def aa6 (l:List At):Prop:=l.Pairwise fun a b=>mr a b≤0
def LtA (l:List At):Prop:=l.Pairwise fun a b=>mr a b<0
theorem Vy {a:At}:¬mr a a<0:=by have:=pJ.refl a trivial;omega
theorem YR {a b:At} (h:mr a b<0) (h':mr b a<0):False:=by
 have:=(pJ.anti a b trivial trivial).1 h;omega
theorem Nu:∀{R S:List At},LtA R→LtA S→(∀a,a∈R ↔ a∈S)→R=S
 | [],[],_,_,_=>rfl
 | [],b::S,_,_,h=>by have:=(h b).2 (by simp);simp at this
 | a::R,[],_,_,h=>by have:=(h a).1 (by simp);simp at this
 | a::R,b::S,hR,hS,h=>by
  obtain ⟨r1,r2⟩:=List.pairwise_cons.1 hR
  obtain ⟨s1,s2⟩:=List.pairwise_cons.1 hS
  have e:a=b:=by
   have h1:=(h a).1 (by simp)
   have h2:=(h b).2 (by simp)
   rcases List.mem_cons.1 h1 with h1|h1
   ·exact h1
   ·rcases List.mem_cons.1 h2 with h2|h2
    ·exact h2.symm
    ·exact (YR (s1 a h1) (r1 b h2)).elim
  subst e
  refine congrArg (a::·) (Nu r2 s2 fun c=>?_)
  have hc:=h c
  simp only [List.mem_cons] at hc
  constructor
  ·intro hm
   rcases hc.1 (.inr hm) with rfl|h'
   ·exact (Vy (r1 c hm)).elim
   ·exact h'
  ·intro hm
   rcases hc.2 (.inr hm) with rfl|h'
   ·exact (Vy (s1 c hm)).elim
   ·exact h'
def nD (a:At):List At→List At
 | []=>[]
 | b::r=>if mr b a=0 then nD b r else b::nD b r
def dF:List At→List At
 | []=>[]
 | a::r=>a::nD a r
theorem Ac:∀(a:At) (l:List At),(nD a l).Sublist l
 | a,[]=>.slnil
 | a,b::r=>by
  unfold nD
  split
  ·exact (Ac b r).cons _
  ·exact (Ac b r).cons_cons _
theorem Ji:∀l:List At,(dF l).Sublist l
 | []=>.slnil
 | a::r=>(Ac a r).cons_cons _
theorem FD:∀(a:At) (r:List At) (c:At),c∈a::nD a r ↔ c∈a::r
 | a,[],c=>Iff.rfl
 | a,b::r,c=>by
  have ih:=FD b r c
  unfold nD
  split
  ·rename_i h
   have:=rM.1 h
   subst this
   rw [ih];simp
  ·rw [List.mem_cons,ih,←List.mem_cons]
theorem XG:∀(l:List At) (a:At),a∈dF l ↔ a∈l
 | [],a=>Iff.rfl
 | b::r,a=>FD b r a
theorem Qi:∀(a:At) (r:List At),aa6 (a::r)→LtA (a::nD a r)
 | a,[],_=>List.pairwise_singleton _ _
 | a,b::r,h=>by
  obtain ⟨h1,h2⟩:=List.pairwise_cons.1 h
  have ih:=Qi b r h2
  unfold nD
  split
  ·rename_i hab
   have:=rM.1 hab
   subst this
   exact ih
  ·rename_i hab
   refine List.pairwise_cons.2 ⟨fun c hc=>?_,ih⟩
   have hb:mr a b<0:=by
    have:=h1 b (by simp)
    have h0:mr a b≠0:=fun h0=>hab (rM.2 (rM.1 h0).symm)
    omega
   rw [FD] at hc
   rcases List.mem_cons.1 hc with rfl|hc
   ·exact hb
   ·exact pJ.lt_trans trivial trivial trivial hb ((List.pairwise_cons.1 h2).1 c hc)
theorem ZB:∀{l:List At},aa6 l→LtA (dF l)
 | [],_=>List.Pairwise.nil
 | a::r,h=>Qi a r h
def TdR (L R:List At):Prop:=LtA R∧∀a,a∈R ↔ a∈L
theorem TdR.same {L L' R R':List At} (h:TdR L R) (h':TdR L' R') (hm:∀a,a∈L ↔ a∈L'):R=R':=
 Nu h.1 h'.1 fun a=>by rw [h.2,h'.2,hm]
end Go.Ai.Z
namespace Go.Ai.Z
open Go.Lib (compareBytes)
theorem ZC:∀(a b:List UInt8),compareBytes a b=if Op.bytesLess a b=true then -1 else if Op.bytesLess b a=true then 1 else 0
 | [],[]=>by simp [compareBytes,Op.bytesLess]
 | [],_::_=>by simp [compareBytes,Op.bytesLess]
 | _::_,[]=>by simp [compareBytes,Op.bytesLess]
 | a::x,b::y=>by
  rw [compareBytes,Op.bytesLess,Op.bytesLess,ZC x y]
  by_cases h1:a<b
  ·simp [h1]
  ·by_cases h2:b<a
   ·simp [h1,h2,UInt8.ne_of_lt h2,(UInt8.ne_of_lt h2).symm]
   ·have:a=b:=UInt8.le_antisymm (UInt8.not_lt.1 h2) (UInt8.not_lt.1 h1)
    subst this
    simp [h1]
theorem yQ:∀a:List UInt8,Op.bytesLess a a=false
 | []=>by simp [Op.bytesLess]
 | a::x=>by rw [Op.bytesLess,yQ x];simp
@[simp] theorem Vd (a:List UInt8) (s:St) (cx:Ctx):aj P0 (.fn (.func gm) [] []) [.s a] s cx=.ret (.b false) s:=by
 refine DZ (by simp) ?_
 simp [ah,ja]
@[simp] theorem TM (a b:List UInt8) (s:St) (cx:Ctx):aj P0 (.fn (.func dQ) [] []) [.s a,.s b] s cx=.ret (.i .i64 (compareBytes a b)) s:=by
 refine Bd (by simp) ?_
 rw [ZC]
 by_cases hab:a=b
 ·subst hab
  simp [ah,bW,yQ]
 ·cases h1:Op.bytesLess a b
  ·cases h2:Op.bytesLess b a
   ·have h3:=ZC a b
    simp only [h1,h2,Bool.false_eq_true,if_false] at h3
    exact absurd ((lM a b).1 h3) hab
   ·simp [ah,bW,h1,hab]
  ·simp [ah,bW,h1]
theorem YG (a b:At):orI [tJ a.kind b.kind,compareBytes a.name b.name,compareBytes a.x b.x,compareBytes a.y b.y,tJ a.lo b.lo,tJ a.hi b.hi]=mr a b:=by
 simp only [orI,mr]
 (repeat' split)<;>simp_all
@[simp] theorem XZ (a b:At) (s:St) (cx:Ctx):aj P0 (.fn (.func dh) [] []) [aI a,aI b] s cx=.ret (.i .i64 (mr a b)) s:=by
 have e2:=Q8 [tJ a.kind b.kind,compareBytes a.name b.name,compareBytes a.x b.x,compareBytes a.y b.y,tJ a.lo b.lo,tJ a.hi b.hi] (by simp)
 simp only [List.map_cons,List.map_nil,YG] at e2
 refine Jb (by simp) ?_
 have hr:List.range 6=[0,1,2,3,4,5]:=rfl
 simp [ah,kK,aI,e2,hr]
@[simp] theorem UB (a:List UInt8) (s:St) (cx:Ctx):aj Pq (.fn (.func gm) [] []) [.s a] s cx=.ret (.b false) s:=by
 refine BZ (by simp) ?_
 simp [ah,ja]
@[simp] theorem RZ (a b:List UInt8) (s:St) (cx:Ctx):aj Pq (.fn (.func dQ) [] []) [.s a,.s b] s cx=.ret (.i .i64 (compareBytes a b)) s:=by
 refine zU (by simp) ?_
 rw [ZC]
 by_cases hab:a=b
 ·subst hab
  simp [ah,bW,yQ]
 ·cases h1:Op.bytesLess a b
  ·cases h2:Op.bytesLess b a
   ·have h3:=ZC a b
    simp only [h1,h2,Bool.false_eq_true,if_false] at h3
    exact absurd ((lM a b).1 h3) hab
   ·simp [ah,bW,h1,hab]
  ·simp [ah,bW,h1]
theorem Kr (a b:At) (s:St) (cx:Ctx):aj Pq (.fn (.func dh) [] []) [aI a,aI b] s cx=.ret (.i .i64 (mr a b)) s:=by
 have e2:=QD [tJ a.kind b.kind,compareBytes a.name b.name,compareBytes a.x b.x,compareBytes a.y b.y,tJ a.lo b.lo,tJ a.hi b.hi] (by simp)
 simp only [List.map_cons,List.map_nil,YG] at e2
 refine Gv (by simp) ?_
 have hr:List.range 6=[0,1,2,3,4,5]:=rfl
 simp [ah,kK,aI,e2,hr]
end Go.Ai.Z
namespace Go.Ai.Z
open Go.Lib (compareBytes)
open Go.Sort (SWO PermIn SortedIn pdq pdq_sorts)
theorem N7 (c:At):aI c=.ag [.i .i64 c.kind,.s c.name,.s c.x,.s c.y,.i .i64 c.lo,.i .i64 c.hi]:=rfl
def flA:List At→List AV
 | []=>[]
 | c::r=>[.i .i64 c.kind,.s c.name,.s c.x,.s c.y,.i .i64 c.lo,.i .i64 c.hi]++flA r
theorem Ll:∀x y:List At,flA (x++y)=flA x++flA y
 | [],y=>rfl
 | c::x,y=>by simp only [List.cons_append,flA,Ll x y,List.append_assoc]
@[simp] theorem GR:∀l:List At,(flA l).length=l.length * 6
 | []=>rfl
 | c::r=>by simp only [flA,List.length_append,GR r,List.length_cons,List.length_nil];omega
@[simp] theorem Zx (L:List At) (c:At):flA L++[.i .i64 c.kind,.s c.name,.s c.x,.s c.y,.i .i64 c.lo,.i .i64 c.hi]=flA (L++[c]):=by
 rw [Ll];rfl
theorem Cj:∀(L:List At) (i:Nat) (z:List AV),i≤L.length→(flA L++z).drop (i * 6)=flA (L.drop i)++z
 | L,0,z,_=>by simp
 | [],i+1,z,h=>absurd h (by simp)
 | c::r,i+1,z,h=>by
  have e:(i+1) * 6=6+i * 6:=by omega
  rw [e,←List.drop_drop]
  simp only [flA,List.cons_append,List.nil_append,List.drop_succ_cons,List.drop_zero]
  exact Cj r i z (by simpa using h)
theorem Ci:∀(L:List At) (i:Nat) (z:List AV),i≤L.length→(flA L++z).take (i * 6)=flA (L.take i)
 | L,0,z,_=>by simp [flA]
 | [],i+1,z,h=>absurd h (by simp)
 | c::r,i+1,z,h=>by
  have e:(i+1) * 6=i * 6+6:=by omega
  rw [e]
  simp only [flA,List.cons_append,List.nil_append,List.take_succ_cons]
  rw [Ci r i z (by simpa using h)]
theorem YE (L:List At) (z:List AV) (i:Nat) (h:i<L.length):part (flA L++z) (i * 6) (some 6)=some (aI L[i]):=by
 have hd:=Cj L i z (by omega)
 have hl:i * 6+6≤(flA L++z).length:=by
  rw [List.length_append,GR];have:(i+1) * 6≤L.length * 6:=Nat.mul_le_mul_right 6 h;omega
 simp only [part,if_pos hl,hd]
 have:L.drop i=L[i]::L.drop (i+1):=List.drop_eq_getElem_cons h
 rw [this,N7]
 simp [flA]
theorem GI (L:List At) (z:List AV) (i:Nat) (h:i<L.length):AV.ag (((flA L++z).drop (i * 6)).take 6)=aI L[i]:=by
 have hl:i * 6+6≤(flA L++z).length:=by
  rw [List.length_append,GR];have:(i+1) * 6≤L.length * 6:=Nat.mul_le_mul_right 6 h;omega
 have:=YE L z i h
 simp only [part,if_pos hl,Option.some.injEq] at this
 exact this
theorem Lm (L:List At) (z:List AV) (i:Nat) (h:i<L.length):i * 6+6≤L.length * 6+z.length:=by
 have:(i+1) * 6≤L.length * 6:=Nat.mul_le_mul_right 6 h
 omega
theorem Ul (L:List At) (z:List AV) (i:Nat) (h:i<L.length) (c:At):
  splice (flA L++z) (i * 6) [.i .i64 c.kind,.s c.name,.s c.x,.s c.y,.i .i64 c.lo,.i .i64 c.hi]=flA (L.set i c)++z:=by
 have h1:=Ci L i z (by omega)
 have h2:=Cj L (i+1) z (by omega)
 have e:i * 6+6=(i+1) * 6:=by omega
 simp only [splice,List.length_cons,List.length_nil,Nat.zero_add,Nat.reduceAdd,h1]
 rw [e,h2,←List.append_assoc]
 congr 1
 rw [show flA (L.take i)++[AV.i .i64 c.kind,.s c.name,.s c.x,.s c.y,.i .i64 c.lo,.i .i64 c.hi]=flA (L.take i++[c]) from Zx _ _,←Ll]
 congr 1
 rw [List.set_eq_take_append_cons_drop,if_pos h];simp
theorem Oc (a:At):∀(l:List At) (b:At),nD a (l++[b])=if mr b (l.getLastD a)=0 then nD a l else nD a l++[b]
 | [],b=>by simp [nD]
 | x::l,b=>by
  simp only [List.cons_append,nD]
  have h:=Oc x l b
  have hl:(x::l).getLastD a=l.getLastD x:=List.getLastD_cons
  rw [h,hl]
  split<;>split<;>rfl
theorem Oe (L:List At) (j:Nat) (h:j+1<L.length):dF (L.take (j+2))=if mr L[j+1] L[j]=0 then dF (L.take (j+1)) else dF (L.take (j+1))++[L[j+1]]:=by
 have h1:L.take (j+2)=L.take (j+1)++[L[j+1]]:=List.take_succ_eq_append_getElem h
 rw [h1]
 have h2:∃a r,L.take (j+1)=a::r∧r.getLastD a=L[j]:=by
  have h3:L.take (j+1)=L.take j++[L[j]]:=List.take_succ_eq_append_getElem (by omega)
  rw [h3]
  cases hL:L.take j with
  | nil=>exact ⟨_,_,rfl,rfl⟩
  | cons a r=>exact ⟨a,r++[L[j]],rfl,by simp⟩
 obtain ⟨a,r,e1,e2⟩:=h2
 rw [e1]
 simp only [List.cons_append,dF,Oc,e2]
 split<;>rfl
theorem TF (l:List At):(dF l).length≤l.length:=(Ji l).length_le
theorem IK {β:Type} {f:AV→Option β} {g:At→β}:∀(l:List At),(∀x∈l,f (aI x)=some (g x))→(l.map aI).mapM f=some (l.map g)
 | [],_=>by simp
 | x::l,h=>by
  simp only [List.map_cons,List.mapM_cons,Option.bind_eq_bind,Option.pure_def,h x (by simp),IK l (fun y hy=>h y (by simp [hy]))]
  rfl
theorem Pn:∀L:List At,bP 0 (flA L)=true
 | []=>by simp [flA]
 | c::r=>by
  simp [flA,Pn r]
theorem Jk:∀(L:List At) (z:List AV),chunk 6 L.length (flA L++z)=L.map aI
 | [],z=>rfl
 | c::r,z=>by
  have h:=Jk r z
  simp only [List.length_cons,chunk,flA,List.append_assoc,List.cons_append,List.nil_append,List.map_cons]
  rw [N7]
  simp [h]
theorem Yh (L:List At) (f:At→At→Int) {i j:Nat} (hi:i<L.length) (hj:j<L.length):FO (L.map fun x=>L.map fun y=>f x y) i j=f L[i] L[j]:=by
 simp [FO,hi,hj]
theorem GL (L:List At) (z:List AV):∀(ix:List Nat) (hx:∀i∈ix,i<L.length),
  (ix.flatMap fun i=>((flA L++z).drop (i * 6)).take 6)=flA (ix.attach.map fun i=>L[i.1]'(hx i.1 i.2))
 | [],_=>rfl
 | i::ix,hx=>by
  have hi:=hx i (by simp)
  have h:=GI L z i hi
  rw [N7] at h
  simp only [AV.ag.injEq] at h
  have ih:=GL L z ix (fun j hj=>hx j (by simp [hj]))
  simp only [List.flatMap_cons,h,ih,List.attach_cons,List.map_cons,List.map_map,flA]
  rfl
theorem aaS (L:List At) (hL:L.length≤100000):∃M:List At,M.Perm L∧aa6 M∧
  (∀(s:St) (cx:Ctx) (l t ver:Nat) (z:List AV),s[l]?=some (.buf t 6 ver (flA L++z))→cx.lim≤l→cx.base≤l→
   aj P0 (.fn (.func bC) [] []) [.sk l ver 6 0 L.length,.fn (.func dh) [] []] s cx=.ret (.tu []) (s.set l (.buf t 6 ver (flA M++z))))∧
  (L=[]→∀(s:St) (cx:Ctx),aj P0 (.fn (.func bC) [] []) [.ns,.fn (.func dh) [] []] s cx=.ret (.tu []) s):=by
 have hns:∀(s:St) (cx:Ctx),aj P0 (.fn (.func bC) [] []) [.ns,.fn (.func dh) [] []] s cx=.ret (.tu []) s:=
  fun s cx=>xE (A:=P0) (k:=.sortK 6) rfl rfl (by simp) (by simp [gU])
 match L,hL with
 | [],_=>
  refine ⟨[],.refl _,.nil,fun s cx l t ver z hs hlim hbase=>?_,fun _=>hns⟩
  have hset:s.set l (.buf t 6 ver (flA []++z))=s:=by
   apply List.ext_getElem?
   intro i
   by_cases hi:l=i
   ·subst hi;rw [List.getElem?_set_self (List.getElem?_eq_some_iff.1 hs).1,hs]
   ·rw [List.getElem?_set_ne hi]
  rw [hset]
  exact xE (A:=P0) (k:=.sortK 6) rfl rfl (by simp) (by simp [gU])
 | c::r,hL=>
  generalize hX:c::r=X at *
  obtain ⟨n,hn⟩:∃n,X.length=n+1:=⟨r.length,by rw [←hX];rfl⟩
  let lt:Nat→Nat→Bool:=fun i j=>decide (FO (X.map fun x=>X.map fun y=>mr x y) i j<0)
  have hlt:∀i j (hi:i<X.length) (hj:j<X.length),lt i j=decide (mr X[i] X[j]<0):=fun i j hi hj=>by simp only [lt,Yh X mr hi hj]
  let ltF:Fin (n+1)→Fin (n+1)→Bool:=fun i j=>lt i.1 j.1
  have hltF:∀i j:Fin (n+1),ltF i j=decide (mr (X[i.1]'(by omega)) (X[j.1]'(by omega))<0):=fun i j=>hlt _ _ _ _
  have hO:SWO ltF:=by
   refine ⟨fun x=>?_,fun x y z h1 h2=>?_,fun x y z h1 h2=>?_⟩
   ·rw [hltF,pJ.refl _ trivial];rfl
   ·rw [hltF] at h1 h2 ⊢
    simp only [decide_eq_true_eq] at h1 h2 ⊢
    exact pJ.lt_trans trivial trivial trivial h1 (by omega)
   ·rw [hltF] at h1 h2 ⊢
    simp only [decide_eq_false_iff_not] at h1 h2 ⊢
    intro h3
    have a1:=pJ.anti (X[x.1]'(by omega)) (X[y.1]'(by omega)) trivial trivial
    have a2:=pJ.anti (X[y.1]'(by omega)) (X[z.1]'(by omega)) trivial trivial
    have a3:=pJ.anti (X[y.1]'(by omega)) (X[x.1]'(by omega)) trivial trivial
    have a4:=pJ.anti (X[z.1]'(by omega)) (X[y.1]'(by omega)) trivial trivial
    have a5:=pJ.anti (X[x.1]'(by omega)) (X[z.1]'(by omega)) trivial trivial
    have:=pJ.trans (X[z.1]'(by omega)) (X[y.1]'(by omega)) (X[x.1]'(by omega)) trivial trivial trivial (by omega) (by omega)
    omega
  have hswo:Z5 (n+1) lt=true:=by
   have h1:∀x y z,x<n+1→y<n+1→z<n+1→lt x x=false∧((lt x y=true→lt y z=true→lt x z=true)∧(lt x y=false→lt y z=false→lt x z=false)):=
    fun x y z hx hy hz=>⟨hO.irrefl ⟨x,hx⟩,fun a b=>hO.trans ⟨x,hx⟩ ⟨y,hy⟩ ⟨z,hz⟩ a b,fun a b=>hO.ntrans ⟨x,hx⟩ ⟨y,hy⟩ ⟨z,hz⟩ a b⟩
   unfold Z5
   refine List.all_eq_true.2 fun x hx=>?_
   simp only [List.mem_range] at hx
   rw [Bool.and_eq_true]
   refine ⟨by rw [(h1 x x x hx hx hx).1];rfl,List.all_eq_true.2 fun y hy=>List.all_eq_true.2 fun z hz=>?_⟩
   simp only [List.mem_range] at hy hz
   obtain ⟨_,h2,h3⟩:=h1 x y z hx hy hz
   cases hxy:lt x y<;>cases hyz:lt y z<;>cases hxz:lt x z<;>simp [hxy,hyz,hxz] at h2 h3 ⊢
  let d:Array (Fin (n+1)):=Array.ofFn fun i=>i
  have hd:d.size=n+1:=by simp [d]
  let d':=pdq ltF d 0 (n+1) (Go.Lib.bitLen (n+1)) true true
  have hsorts:=pdq_sorts ltF hO d 0 (n+1) (Go.Lib.bitLen (n+1)) true true (Nat.zero_le _) (by rw [hd];exact Nat.le_refl _) (Or.inl rfl)
  obtain ⟨⟨hsz,_,hperm⟩,hsort⟩:=hsorts
  have hd':d'.size=n+1:=hsz.trans hd
  have key:∀(a:Array (Fin (n+1))) (k:Nat),a.size=k→a.extract 0 k=a:=fun a k h=>by subst h;exact Array.extract_size
  have e1:d'.extract 0 (n+1)=d':=key _ _ hd'
  have e2:d.extract 0 (n+1)=d:=key _ _ hd
  have hpl:d'.toList.Perm (List.finRange (n+1)):=by
   have h1:(d'.extract 0 (n+1)).toList.Perm (d.extract 0 (n+1)).toList:=hperm
   rw [e1,e2] at h1
   have h2:d.toList=List.finRange (n+1):=by
    apply List.ext_getElem
    ·rw [Array.length_toList,hd,List.length_finRange]
    ·intro i h1 h2
     simp only [d,Array.getElem_toList,Array.getElem_ofFn,List.getElem_finRange]
     rfl
   rwa [h2] at h1
  let M:List At:=d'.toList.map fun i=>X[i.1]'(by omega)
  have hfin:(List.finRange (n+1)).map (fun i=>X[i.1]'(by omega))=X:=by
   apply List.ext_getElem
   ·simp [hn]
   ·intro i h1 h2;simp
  have hM:M.Perm X:=by
   have:=hpl.map fun i:Fin (n+1)=>X[i.1]'(by omega)
   rwa [hfin] at this
  have hS:aa6 M:=by
   refine List.Pairwise.map _ (R:=fun i j:Fin (n+1)=>mr (X[i.1]'(by omega)) (X[j.1]'(by omega))≤0) (fun _ _ h=>h) ?_
   rw [List.pairwise_iff_getElem]
   intro i j hi hj hij
   have hi':i<d'.size:=by simpa using hi
   have hj':j<d'.size:=by simpa using hj
   have h1:=hsort i j (Nat.zero_le _) hij (by omega)
   have h2:ltF d'[j] d'[i]=false:=by
    rw [←getElem!_pos d' j hj',←getElem!_pos d' i hi'];exact h1
   rw [hltF] at h2
   simp only [decide_eq_false_iff_not] at h2
   have a1:=pJ.anti (X[d'[i].1]'(by omega)) (X[d'[j].1]'(by omega)) trivial trivial
   have a2:=pJ.anti (X[d'[j].1]'(by omega)) (X[d'[i].1]'(by omega)) trivial trivial
   simp only [Array.getElem_toList]
   omega
  refine ⟨M,hM,hS,fun s cx l t ver z hs hlim hbase=>?_,fun h0=>by rw [h0] at hn;simp at hn⟩
  refine xE (A:=P0) (k:=.sortK 6) rfl rfl (by simp) ?_
  have htab:Jj (aj P0.quiet) dh (chunk 6 (n+1) ((flA X++z).drop 0))=some (X.map fun x=>X.map fun y=>mr x y):=by
   rw [List.drop_zero,←hn,Jk]
   exact IK X (fun x hx=>IK X (fun y hy=>by
    have:=Kr x y [] ⟨0,0⟩
    simp only [O9]
    rw [show aj P0.quiet=aj Pq from rfl,this]))
  have hlen:X.length * 6=(n+1) * 6:=by rw [hn]
  have hund:bP 0 (((flA X++z).drop 0).take ((n+1) * 6))=true:=by
   rw [List.drop_zero,←hn,Ci _ _ _ (Nat.le_refl _),List.take_of_length_le (Nat.le_refl _)]
   exact Pn X
  have hcond:ver=ver∧6=6∧6=6∧2≤6∧0+(n+1) * 6≤(flA X++z).length∧n<bg∧cx.lim≤l∧cx.base≤l∧bP 0 (((flA X++z).drop 0).take ((n+1) * 6))=true:=
   ⟨rfl,rfl,rfl,by omega,by rw [List.length_append,GR];omega,by unfold bg;omega,hlim,hbase,hund⟩
  have hspl:splice (flA X++z) 0 ((zJ n lt).flatMap fun i=>((flA X++z).drop (0+i * 6)).take 6)=flA M++z:=by
   have hix:∀i∈zJ n lt,i<X.length:=fun i hi=>by
    simp only [zJ,List.mem_map] at hi
    obtain ⟨j,_,rfl⟩:=hi
    omega
   have h1:((zJ n lt).flatMap fun i=>((flA X++z).drop (0+i * 6)).take 6)=flA M:=by
    simp only [Nat.zero_add]
    rw [GL X z _ hix]
    congr 1
    apply List.ext_getElem
    ·simp [zJ,M,d',ltF,d]
    ·intro i h1 h2
     simp [zJ,M,d',ltF,d]
   have hMl:M.length=n+1:=hM.length_eq.trans hn
   rw [h1]
   unfold splice
   rw [GR,hMl,Nat.zero_add,List.take_zero,List.nil_append]
   congr 1
   have h2:=Cj X (n+1) z (by omega)
   rw [h2,List.drop_of_length_le (by omega)];rfl
  show gU (aj P0) (aj P0.quiet) (.sortK 6) [.sk l ver 6 0 X.length,.fn (.func dh) [] []] s cx=_
  rw [hn]
  unfold gU
  dsimp only
  rw [hs]
  dsimp only
  rw [if_pos hcond,htab]
  dsimp only
  rw [if_pos hswo,hspl]
end Go.Ai.Z
