/-
 Atoms of queries: their data and their order; rows of atoms in order.
-/
import Derived.Test.YtalbhlfigmlddaaGreatDoorAiT1KHQ
import Derived.Sort.AssemblyPlain
set_option maxRecDepth 100000
set_option linter.unusedSimpArgs false
set_option linter.unusedVariables false
set_option linter.unusedSectionVars false
namespace Go.Ai.Z
open Go.Lib (compareBytes)
structure At where
 kind:Int
 name:List UInt8
 x:List UInt8
 y:List UInt8
 lo:Int
 hi:Int
 deriving DecidableEq
def aX (a:At):AV:=.ag [.i .i64 a.kind,.s a.name,.s a.x,.s a.y,.i .i64 a.lo,.i .i64 a.hi]
def Dj (a b:At):Int:=
 if xI a.kind b.kind=0 then (if compareBytes a.name b.name=0 then (if compareBytes a.x b.x=0 then (if compareBytes a.y b.y=0 then (if xI a.lo b.lo=0 then xI a.hi b.hi else xI a.lo b.lo) else compareBytes a.y b.y) else compareBytes a.x b.x) else compareBytes a.name b.name) else xI a.kind b.kind
theorem UW:zT (fun _:At=>True) Dj:=by
 have hI:∀p:At→Int,zT (fun _:At=>True) (fun a b=>xI (p a) (p b)):=fun p=>ada.pull p (fun _ _=>trivial)
 have hB:∀p:At→List UInt8,zT (fun _:At=>True) (fun a b=>compareBytes (p a) (p b)):=fun p=>Yl.pull p (fun _ _=>trivial)
 exact (hI (·.kind)).lex ((hB (·.name)).lex ((hB (·.x)).lex ((hB (·.y)).lex ((hI (·.lo)).lex (hI (·.hi))))))
theorem QJ {a b:At}:Dj a b=0 ↔ a=b:=by
 constructor
 ·intro h
  unfold Dj at h
  split at h
  ·rename_i h1
   split at h
   ·rename_i h2
    split at h
    ·rename_i h3
     split at h
     ·rename_i h4
      split at h
      ·rename_i h5
       obtain ⟨k,n,x,y,lo,hi⟩:=a
       obtain ⟨k',n',x',y',lo',hi'⟩:=b
       simp only [aaV,nP] at h1 h2 h3 h4 h5 h
       subst h1 h2 h3 h4 h5 h;rfl
      ·rename_i hh;exact absurd h hh
     ·rename_i hh;exact absurd h hh
    ·rename_i hh;exact absurd h hh
   ·rename_i hh;exact absurd h hh
  ·rename_i hh;exact absurd h hh
 ·rintro rfl;exact UW.refl a trivial
def LtA (l:List At):Prop:=l.Pairwise fun a b=>Dj a b<0
theorem YU {a:At}:¬Dj a a<0:=by have:=UW.refl a trivial;omega
theorem ack {a b:At} (h:Dj a b<0) (h':Dj b a<0):False:=by
 have:=(UW.anti a b trivial trivial).1 h;omega
theorem Qc:∀{R S:List At},LtA R→LtA S→(∀a,a∈R ↔ a∈S)→R=S
 | [],[],_,_,_=>rfl
 | [],b::S,_,_,h=>by have:=(h b).2 (by simp);simp at this
 | a::R,[],_,_,h=>by have:=(h a).1 (by simp);simp at this
 | a::R,b::S,hR,hS,h=>by
  obtain ⟨r1,r2⟩:=List.pairwise_cons.1 hR
  obtain ⟨s1,s2⟩:=List.pairwise_cons.1 hS
  have e:a=b:=by
   have h1:=(h a).1 (by simp)
   have h2:=(h b).2 (by simp)
   rcases List.mem_cons.1 h1 with h1|h1
   ·exact h1
   ·rcases List.mem_cons.1 h2 with h2|h2
    ·exact h2.symm
    ·exact (ack (s1 a h1) (r1 b h2)).elim
  subst e
  refine congrArg (a::·) (Qc r2 s2 fun c=>?_)
  have hc:=h c
  simp only [List.mem_cons] at hc
  constructor
  ·intro hm
   rcases hc.1 (.inr hm) with rfl|h'
   ·exact (YU (r1 c hm)).elim
   ·exact h'
  ·intro hm
   rcases hc.2 (.inr hm) with rfl|h'
   ·exact (YU (s1 c hm)).elim
   ·exact h'
def TdR (L R:List At):Prop:=LtA R∧∀a,a∈R ↔ a∈L
theorem TdR.same {L L' R R':List At} (h:TdR L R) (h':TdR L' R') (hm:∀a,a∈L ↔ a∈L'):R=R':=
 Qc h.1 h'.1 fun a=>by rw [h.2,h'.2,hm]
end Go.Ai.Z
namespace Go.Ai.Z
open Go.Lib (compareBytes)
theorem ac9:∀(a b:List UInt8),compareBytes a b=if Op.bytesLess a b=true then -1 else if Op.bytesLess b a=true then 1 else 0
 | [],[]=>by simp [compareBytes,Op.bytesLess]
 | [],_::_=>by simp [compareBytes,Op.bytesLess]
 | _::_,[]=>by simp [compareBytes,Op.bytesLess]
 | a::x,b::y=>by
  rw [compareBytes,Op.bytesLess,Op.bytesLess,ac9 x y]
  by_cases h1:a<b
  ·simp [h1]
  ·by_cases h2:b<a
   ·simp [h1,h2,UInt8.ne_of_lt h2,(UInt8.ne_of_lt h2).symm]
   ·have:a=b:=UInt8.le_antisymm (UInt8.not_lt.1 h2) (UInt8.not_lt.1 h1)
    subst this
    simp [h1]
theorem Ap:∀a:List UInt8,Op.bytesLess a a=false
 | []=>by simp [Op.bytesLess]
 | a::x=>by rw [Op.bytesLess,Ap x];simp
@[simp] theorem Yw (a:List UInt8) (s:St) (cx:Ctx):aj P0 (.fn (.func gK) [] []) [.s a] s cx=.ret (.b false) s:=by
 refine Gm (by simp) ?_
 simp [af,jC]
@[simp] theorem Xc (a b:List UInt8) (s:St) (cx:Ctx):aj P0 (.fn (.func eu) [] []) [.s a,.s b] s cx=.ret (.i .i64 (compareBytes a b)) s:=by
 refine DI (by simp) ?_
 rw [ac9]
 by_cases hab:a=b
 ·subst hab
  simp [af,dh,Ap]
 ·cases h1:Op.bytesLess a b
  ·cases h2:Op.bytesLess b a
   ·have h3:=ac9 a b
    simp only [h1,h2,Bool.false_eq_true,if_false] at h3
    exact absurd ((nP a b).1 h3) hab
   ·simp [af,dh,h1,hab]
  ·simp [af,dh,h1]
theorem afL (a b:At):orI [xI a.kind b.kind,compareBytes a.name b.name,compareBytes a.x b.x,compareBytes a.y b.y,xI a.lo b.lo,xI a.hi b.hi]=Dj a b:=by
 simp only [orI,Dj]
 (repeat' split)<;>simp_all
@[simp] theorem abg (a b:At) (s:St) (cx:Ctx):aj P0 (.fn (.func lC) [] []) [aX a,aX b] s cx=.ret (.i .i64 (Dj a b)) s:=by
 have e2:=U3 [xI a.kind b.kind,compareBytes a.name b.name,compareBytes a.x b.x,compareBytes a.y b.y,xI a.lo b.lo,xI a.hi b.hi] (by simp)
 simp only [List.map_cons,List.map_nil,afL] at e2
 refine Ll (by simp) ?_
 have hr:List.range 6=[0,1,2,3,4,5]:=rfl
 simp [af,sQ,aX,e2,hr]
@[simp] theorem XT (a:List UInt8) (s:St) (cx:Ctx):aj Pq (.fn (.func gK) [] []) [.s a] s cx=.ret (.b false) s:=by
 refine Et (by simp) ?_
 simp [af,jC]
@[simp] theorem VI (a b:List UInt8) (s:St) (cx:Ctx):aj Pq (.fn (.func eu) [] []) [.s a,.s b] s cx=.ret (.i .i64 (compareBytes a b)) s:=by
 refine BZ (by simp) ?_
 rw [ac9]
 by_cases hab:a=b
 ·subst hab
  simp [af,dh,Ap]
 ·cases h1:Op.bytesLess a b
  ·cases h2:Op.bytesLess b a
   ·have h3:=ac9 a b
    simp only [h1,h2,Bool.false_eq_true,if_false] at h3
    exact absurd ((nP a b).1 h3) hab
   ·simp [af,dh,h1,hab]
  ·simp [af,dh,h1]
end Go.Ai.Z
namespace Go.Ai.Z
open Go.Lib (compareBytes)
open Go.Sort (SWO PermIn SortedIn pdq pdq_sorts)
def flA:List At→List AV
 | []=>[]
 | c::r=>[.i .i64 c.kind,.s c.name,.s c.x,.s c.y,.i .i64 c.lo,.i .i64 c.hi]++flA r
theorem Ze:∀x y:List At,flA (x++y)=flA x++flA y
 | [],y=>rfl
 | c::x,y=>by simp only [List.cons_append,flA,Ze x y,List.append_assoc]
@[simp] theorem aeb:∀l:List At,(flA l).length=l.length * 6
 | []=>rfl
 | c::r=>by simp only [flA,List.length_append,aeb r,List.length_cons,List.length_nil];omega
@[simp] theorem ais (L:List At) (c:At):flA L++[.i .i64 c.kind,.s c.name,.s c.x,.s c.y,.i .i64 c.lo,.i .i64 c.hi]=flA (L++[c]):=by
 rw [Ze];rfl
end Go.Ai.Z
namespace Go.Ai.Z
@[simp] theorem afV {env:Env} {l ver sz o n:Nat}:tH env (some (.v (.sk l ver sz o n)))=none:=rfl
theorem aj9 (a b:At):uH [0,1,1,1,0,0] [.i .i64 a.kind,.s a.name,.s a.x,.s a.y,.i .i64 a.lo,.i .i64 a.hi] [.i .i64 b.kind,.s b.name,.s b.x,.s b.y,.i .i64 b.lo,.i .i64 b.hi]=some (decide (Dj a b=0)):=by
 have h:decide (Dj a b=0)=decide (a=b):=by simp only [QJ]
 rw [h]
 obtain ⟨k,n,x,y,lo,hi⟩:=a
 obtain ⟨k',n',x',y',lo',hi'⟩:=b
 simp [uH,Bool.decide_and]
section
variable (L:List At) (hL:L.length≤100000) (s:St) (cx:Ctx) (l t ver:Nat) (z:List AV) (hl:l<s.length) (hlim:cx.lim≤l) (hbase:cx.base≤l)
include hL hl hlim hbase
end
end Go.Ai.Z
namespace Go.Ai.Z
def rowA (z:Bool):List At→AV
 | []=>if z then .ns else .sz
 | a::r=>.sl ((a::r).map aX)
def aeg (z:Bool) (L:List At):AV:=.ag [rowA z L]
theorem ad9 {S:St} {n m:Nat} {a:AV} (h:a.under n=true):tY S n m a=some a:=by
 cases m<;>simp [tY,h]
theorem VW {F:AV→Option AV}:∀{l:List AV},(∀a∈l,F a=some a)→l.mapM F=some l
 | [],_=>by simp
 | a::l,h=>by
  simp only [List.mapM_cons,Option.bind_eq_bind,Option.pure_def,h a (by simp),VW (l:=l) (fun b hb=>h b (by simp [hb]))]
  rfl
end Go.Ai.Z
