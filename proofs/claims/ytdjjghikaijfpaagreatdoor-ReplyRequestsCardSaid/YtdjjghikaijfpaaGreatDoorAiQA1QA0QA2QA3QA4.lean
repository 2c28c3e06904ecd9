/-
 Atoms of queries: their data and their order; rows of atoms in order.
-/
import Derived.Test.YtdjjghikaijfpaaGreatDoorAiKGKHK5K6K7InjInj2Inj3Inj4KIT1KHQ
import Derived.Sort.AssemblyPlain
set_option maxRecDepth 100000
set_option linter.unusedSimpArgs false
set_option linter.unusedVariables false
set_option linter.unusedSectionVars false
namespace Go.Ai.Z
open Go.Lib (compareBytes)
structure At where
 kind:Int
 name:List UInt8
 x:List UInt8
 y:List UInt8
 lo:Int
 hi:Int
 deriving DecidableEq
def bG (a:At):AV:=.ag [.i .i64 a.kind,.s a.name,.s a.x,.s a.y,.i .i64 a.lo,.i .i64 a.hi]
def Nu (a b:At):Int:=
 if JW a.kind b.kind=0 then (if compareBytes a.name b.name=0 then (if compareBytes a.x b.x=0 then (if compareBytes a.y b.y=0 then (if JW a.lo b.lo=0 then JW a.hi b.hi else JW a.lo b.lo) else compareBytes a.y b.y) else compareBytes a.x b.x) else compareBytes a.name b.name) else JW a.kind b.kind
theorem XY:Cb (fun _:At=>True) Nu:=by
 have hI:∀p:At→Int,Cb (fun _:At=>True) (fun a b=>JW (p a) (p b)):=fun p=>afz.pull p (fun _ _=>trivial)
 have hB:∀p:At→List UInt8,Cb (fun _:At=>True) (fun a b=>compareBytes (p a) (p b)):=fun p=>aaP.pull p (fun _ _=>trivial)
 exact (hI (·.kind)).lex ((hB (·.name)).lex ((hB (·.x)).lex ((hB (·.y)).lex ((hI (·.lo)).lex (hI (·.hi))))))
theorem UN {a b:At}:Nu a b=0 ↔ a=b:=by
 constructor
 ·intro h
  unfold Nu at h
  split at h
  ·rename_i h1
   split at h
   ·rename_i h2
    split at h
    ·rename_i h3
     split at h
     ·rename_i h4
      split at h
      ·rename_i h5
       obtain ⟨k,n,x,y,lo,hi⟩:=a
       obtain ⟨k',n',x',y',lo',hi'⟩:=b
       simp only [adv,xR] at h1 h2 h3 h4 h5 h
       subst h1 h2 h3 h4 h5 h;rfl
      ·rename_i hh;exact absurd h hh
     ·rename_i hh;exact absurd h hh
    ·rename_i hh;exact absurd h hh
   ·rename_i hh;exact absurd h hh
  ·rename_i hh;exact absurd h hh
 ·rintro rfl;exact XY.refl a trivial
def LtA (l:List At):Prop:=l.Pairwise fun a b=>Nu a b<0
theorem abt {a:At}:¬Nu a a<0:=by have:=XY.refl a trivial;omega
theorem aeN {a b:At} (h:Nu a b<0) (h':Nu b a<0):False:=by
 have:=(XY.anti a b trivial trivial).1 h;omega
theorem Ub:∀{R S:List At},LtA R→LtA S→(∀a,a∈R ↔ a∈S)→R=S
 | [],[],_,_,_=>rfl
 | [],b::S,_,_,h=>by have:=(h b).2 (by simp);simp at this
 | a::R,[],_,_,h=>by have:=(h a).1 (by simp);simp at this
 | a::R,b::S,hR,hS,h=>by
  obtain ⟨r1,r2⟩:=List.pairwise_cons.1 hR
  obtain ⟨s1,s2⟩:=List.pairwise_cons.1 hS
  have e:a=b:=by
   have h1:=(h a).1 (by simp)
   have h2:=(h b).2 (by simp)
   rcases List.mem_cons.1 h1 with h1|h1
   ·exact h1
   ·rcases List.mem_cons.1 h2 with h2|h2
    ·exact h2.symm
    ·exact (aeN (s1 a h1) (r1 b h2)).elim
  subst e
  refine congrArg (a::·) (Ub r2 s2 fun c=>?_)
  have hc:=h c
  simp only [List.mem_cons] at hc
  constructor
  ·intro hm
   rcases hc.1 (.inr hm) with rfl|h'
   ·exact (abt (r1 c hm)).elim
   ·exact h'
  ·intro hm
   rcases hc.2 (.inr hm) with rfl|h'
   ·exact (abt (s1 c hm)).elim
   ·exact h'
def TdR (L R:List At):Prop:=LtA R∧∀a,a∈R ↔ a∈L
theorem TdR.same {L L' R R':List At} (h:TdR L R) (h':TdR L' R') (hm:∀a,a∈L ↔ a∈L'):R=R':=
 Ub h.1 h'.1 fun a=>by rw [h.2,h'.2,hm]
end Go.Ai.Z
namespace Go.Ai.Z
open Go.Lib (compareBytes)
end Go.Ai.Z
namespace Go.Ai.Z
open Go.Lib (compareBytes)
open Go.Sort (SWO PermIn SortedIn pdq pdq_sorts)
def flA:List At→List AV
 | []=>[]
 | c::r=>[.i .i64 c.kind,.s c.name,.s c.x,.s c.y,.i .i64 c.lo,.i .i64 c.hi]++flA r
theorem abP:∀x y:List At,flA (x++y)=flA x++flA y
 | [],y=>rfl
 | c::x,y=>by simp only [List.cons_append,flA,abP x y,List.append_assoc]
@[simp] theorem agz:∀l:List At,(flA l).length=l.length * 6
 | []=>rfl
 | c::r=>by simp only [flA,List.length_append,agz r,List.length_cons,List.length_nil];omega
@[simp] theorem akT (L:List At) (c:At):flA L++[.i .i64 c.kind,.s c.name,.s c.x,.s c.y,.i .i64 c.lo,.i .i64 c.hi]=flA (L++[c]):=by
 rw [abP];rfl
end Go.Ai.Z
namespace Go.Ai.Z
@[simp] theorem aip {env:Env} {l ver sz o n:Nat}:vz env (some (.v (.sk l ver sz o n)))=none:=rfl
theorem amQ (a b:At):wE [0,1,1,1,0,0] [.i .i64 a.kind,.s a.name,.s a.x,.s a.y,.i .i64 a.lo,.i .i64 a.hi] [.i .i64 b.kind,.s b.name,.s b.x,.s b.y,.i .i64 b.lo,.i .i64 b.hi]=some (decide (Nu a b=0)):=by
 have h:decide (Nu a b=0)=decide (a=b):=by simp only [UN]
 rw [h]
 obtain ⟨k,n,x,y,lo,hi⟩:=a
 obtain ⟨k',n',x',y',lo',hi'⟩:=b
 simp [wE,Bool.decide_and]
section
variable (L:List At) (hL:L.length≤100000) (s:St) (cx:Ctx) (l t ver:Nat) (z:List AV) (hl:l<s.length) (hlim:cx.lim≤l) (hbase:cx.base≤l)
include hL hl hlim hbase
end
end Go.Ai.Z
namespace Go.Ai.Z
def rowA (z:Bool):List At→AV
 | []=>if z then .ns else .sz
 | a::r=>.sl ((a::r).map bG)
def agF (z:Bool) (L:List At):AV:=.ag [rowA z L]
theorem abN {S:St} {n m:Nat} {a:AV} (h:a.under n=true):rQ S n m a=some a:=by
 cases m<;>simp [rQ,h]
theorem TU {F:AV→Option AV}:∀{l:List AV},(∀a∈l,F a=some a)→l.mapM F=some l
 | [],_=>by simp
 | a::l,h=>by
  simp only [List.mapM_cons,Option.bind_eq_bind,Option.pure_def,h a (by simp),TU (l:=l) (fun b hb=>h b (by simp [hb]))]
  rfl
end Go.Ai.Z
