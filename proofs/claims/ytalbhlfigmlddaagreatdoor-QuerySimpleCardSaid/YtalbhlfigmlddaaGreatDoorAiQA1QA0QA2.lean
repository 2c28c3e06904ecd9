/-
 Atoms of queries: their data and their order; rows of atoms in order.
-/
import Derived.Test.YtalbhlfigmlddaaGreatDoorAiT1
import Derived.Test.YtalbhlfigmlddaaGreatDoorAiKHQ
import Derived.Sort.AssemblyPlain
set_option maxRecDepth 100000
set_option linter.unusedSimpArgs false
set_option linter.unusedVariables false
set_option linter.unusedSectionVars false
namespace Go.Ai.Z
open Go.Lib (compareBytes)
structure At where
 kind:Int
 name:List UInt8
 x:List UInt8
 y:List UInt8
 lo:Int
 hi:Int
 deriving DecidableEq
def dM (a:At):AV:=.ag [.i .i64 a.kind,.s a.name,.s a.x,.s a.y,.i .i64 a.lo,.i .i64 a.hi]
def Jg (a b:At):Int:=
 if vU a.kind b.kind=0 then (if compareBytes a.name b.name=0 then (if compareBytes a.x b.x=0 then (if compareBytes a.y b.y=0 then (if vU a.lo b.lo=0 then vU a.hi b.hi else vU a.lo b.lo) else compareBytes a.y b.y) else compareBytes a.x b.x) else compareBytes a.name b.name) else vU a.kind b.kind
theorem Uk:xA (fun _:At=>True) Jg:=by
 have hI:∀p:At→Int,xA (fun _:At=>True) (fun a b=>vU (p a) (p b)):=fun p=>XW.pull p (fun _ _=>trivial)
 have hB:∀p:At→List UInt8,xA (fun _:At=>True) (fun a b=>compareBytes (p a) (p b)):=fun p=>Tq.pull p (fun _ _=>trivial)
 exact (hI (·.kind)).lex ((hB (·.name)).lex ((hB (·.x)).lex ((hB (·.y)).lex ((hI (·.lo)).lex (hI (·.hi))))))
def LtA (l:List At):Prop:=l.Pairwise fun a b=>Jg a b<0
theorem TY {a:At}:¬Jg a a<0:=by have:=Uk.refl a trivial;omega
theorem Xc {a b:At} (h:Jg a b<0) (h':Jg b a<0):False:=by
 have:=(Uk.anti a b trivial trivial).1 h;omega
theorem LG:∀{R S:List At},LtA R→LtA S→(∀a,a∈R ↔ a∈S)→R=S
 | [],[],_,_,_=>rfl
 | [],b::S,_,_,h=>by have:=(h b).2 (by simp);simp at this
 | a::R,[],_,_,h=>by have:=(h a).1 (by simp);simp at this
 | a::R,b::S,hR,hS,h=>by
  obtain ⟨r1,r2⟩:=List.pairwise_cons.1 hR
  obtain ⟨s1,s2⟩:=List.pairwise_cons.1 hS
  have e:a=b:=by
   have h1:=(h a).1 (by simp)
   have h2:=(h b).2 (by simp)
   rcases List.mem_cons.1 h1 with h1|h1
   ·exact h1
   ·rcases List.mem_cons.1 h2 with h2|h2
    ·exact h2.symm
    ·exact (Xc (s1 a h1) (r1 b h2)).elim
  subst e
  refine congrArg (a::·) (LG r2 s2 fun c=>?_)
  have hc:=h c
  simp only [List.mem_cons] at hc
  constructor
  ·intro hm
   rcases hc.1 (.inr hm) with rfl|h'
   ·exact (TY (r1 c hm)).elim
   ·exact h'
  ·intro hm
   rcases hc.2 (.inr hm) with rfl|h'
   ·exact (TY (s1 c hm)).elim
   ·exact h'
def TdR (L R:List At):Prop:=LtA R∧∀a,a∈R ↔ a∈L
theorem TdR.same {L L' R R':List At} (h:TdR L R) (h':TdR L' R') (hm:∀a,a∈L ↔ a∈L'):R=R':=
 LG h.1 h'.1 fun a=>by rw [h.2,h'.2,hm]
end Go.Ai.Z
namespace Go.Ai.Z
open Go.Lib (compareBytes)
theorem XV:∀(a b:List UInt8),compareBytes a b=if Op.bytesLess a b=true then -1 else if Op.bytesLess b a=true then 1 else 0
 | [],[]=>by simp [compareBytes,Op.bytesLess]
 | [],_::_=>by simp [compareBytes,Op.bytesLess]
 | _::_,[]=>by simp [compareBytes,Op.bytesLess]
 | a::x,b::y=>by
  rw [compareBytes,Op.bytesLess,Op.bytesLess,XV x y]
  by_cases h1:a<b
  ·simp [h1]
  ·by_cases h2:b<a
   ·simp [h1,h2,UInt8.ne_of_lt h2,(UInt8.ne_of_lt h2).symm]
   ·have:a=b:=UInt8.le_antisymm (UInt8.not_lt.1 h2) (UInt8.not_lt.1 h1)
    subst this
    simp [h1]
theorem xX:∀a:List UInt8,Op.bytesLess a a=false
 | []=>by simp [Op.bytesLess]
 | a::x=>by rw [Op.bytesLess,xX x];simp
@[simp] theorem TI (a:List UInt8) (s:St) (cx:Ctx):aj P0 (.fn (.func fG) [] []) [.s a] s cx=.ret (.b false) s:=by
 refine Dk (by simp) ?_
 simp [ah,iK]
@[simp] theorem Rl (a b:List UInt8) (s:St) (cx:Ctx):aj P0 (.fn (.func dF) [] []) [.s a,.s b] s cx=.ret (.i .i64 (compareBytes a b)) s:=by
 refine Ad (by simp) ?_
 rw [XV]
 by_cases hab:a=b
 ·subst hab
  simp [ah,bG,xX]
 ·cases h1:Op.bytesLess a b
  ·cases h2:Op.bytesLess b a
   ·have h3:=XV a b
    simp only [h1,h2,Bool.false_eq_true,if_false] at h3
    exact absurd ((oH a b).1 h3) hab
   ·simp [ah,bG,h1,hab]
  ·simp [ah,bG,h1]
theorem aaj (a b:At):orI [vU a.kind b.kind,compareBytes a.name b.name,compareBytes a.x b.x,compareBytes a.y b.y,vU a.lo b.lo,vU a.hi b.hi]=Jg a b:=by
 simp only [orI,Jg]
 (repeat' split)<;>simp_all
@[simp] theorem V4 (a b:At) (s:St) (cx:Ctx):aj P0 (.fn (.func jG) [] []) [dM a,dM b] s cx=.ret (.i .i64 (Jg a b)) s:=by
 have e2:=PL [vU a.kind b.kind,compareBytes a.name b.name,compareBytes a.x b.x,compareBytes a.y b.y,vU a.lo b.lo,vU a.hi b.hi] (by simp)
 simp only [List.map_cons,List.map_nil,aaj] at e2
 refine Ia (by simp) ?_
 have hr:List.range 6=[0,1,2,3,4,5]:=rfl
 simp [ah,pU,dM,e2,hr]
@[simp] theorem SB (a:List UInt8) (s:St) (cx:Ctx):aj Pq (.fn (.func fG) [] []) [.s a] s cx=.ret (.b false) s:=by
 refine Bg (by simp) ?_
 simp [ah,iK]
@[simp] theorem Qq (a b:List UInt8) (s:St) (cx:Ctx):aj Pq (.fn (.func dF) [] []) [.s a,.s b] s cx=.ret (.i .i64 (compareBytes a b)) s:=by
 refine y9 (by simp) ?_
 rw [XV]
 by_cases hab:a=b
 ·subst hab
  simp [ah,bG,xX]
 ·cases h1:Op.bytesLess a b
  ·cases h2:Op.bytesLess b a
   ·have h3:=XV a b
    simp only [h1,h2,Bool.false_eq_true,if_false] at h3
    exact absurd ((oH a b).1 h3) hab
   ·simp [ah,bG,h1,hab]
  ·simp [ah,bG,h1]
end Go.Ai.Z
namespace Go.Ai.Z
open Go.Lib (compareBytes)
open Go.Sort (SWO PermIn SortedIn pdq pdq_sorts)
def flA:List At→List AV
 | []=>[]
 | c::r=>[.i .i64 c.kind,.s c.name,.s c.x,.s c.y,.i .i64 c.lo,.i .i64 c.hi]++flA r
theorem Ui:∀x y:List At,flA (x++y)=flA x++flA y
 | [],y=>rfl
 | c::x,y=>by simp only [List.cons_append,flA,Ui x y,List.append_assoc]
@[simp] theorem YO:∀l:List At,(flA l).length=l.length * 6
 | []=>rfl
 | c::r=>by simp only [flA,List.length_append,YO r,List.length_cons,List.length_nil];omega
@[simp] theorem acN (L:List At) (c:At):flA L++[.i .i64 c.kind,.s c.name,.s c.x,.s c.y,.i .i64 c.lo,.i .i64 c.hi]=flA (L++[c]):=by
 rw [Ui];rfl
end Go.Ai.Z
