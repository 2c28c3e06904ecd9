/-
 Names, numbers and calls in ontology documents.
-/
import Derived.Test.YtcofenimejmoeaaGreatDoorAiK1K2K3K4K5K6K7
import Derived.Test.YtcofenimejmoeaaGreatDoorAiCircCRefR37R61R62R63K13
set_option maxRecDepth 100000
set_option linter.unusedSimpArgs false
set_option linter.unusedVariables false
set_option linter.unusedSectionVars false
namespace Go.Ai.Z
open Go.Lib (itoa decDigits nDigits)
theorem yE (l:Rl) (b:UInt8) (s:St) (cx:Ctx):aj P0 (.fn (.func l7) [] []) [.s l,.s [b]] s cx=.ret (.i .i64 (Go.Lib.indexByte l b)) s:=by
 refine I7 (by simp) ?_;simp [af,rq,QZ]
theorem Qr (l:Rl) (b:UInt8) (s:St) (cx:Ctx):aj P0 (.fn (.func jW) [] []) [.s l,.s [b]] s cx=.ret (.b (decide (b∈l))) s:=by
 have e1:=yE l b;refine D6 (by simp) ?_
 cases hc:lN b l with
 | none=>
  have hm:=vP.1 hc;rw [index_none hc] at e1;simp [af,kX,e1,hm]
 | some p=>
  obtain ⟨x,y⟩:=p;have hm:b∈l:=by rw [uO hc];simp
  rw [Fj hc] at e1;simp [af,kX,e1,hm]
def owN (n:Rl):Rl:=if (58:UInt8)∈n then n else 58::n
def Ub (w:Rl) (args:List Rl):Rl:=w++[40]++joinL [32] args++[41]
def ttI:Rl:=[34,94,94,120,115,100,58,105,110,116,101,103,101,114]
def afy (w:Rl) (n:Int):Rl:=w++[32,34]++itoa n++ttI
def Ul (n:Rl):Rl:=match lN 58 n with|some (x,_)=>x|none=>[]
theorem VU {n:Rl} (h:iZ n=true∨J7 n=true):(Ul n=[] ↔ (58:UInt8) ∉ n)∧n.length≤24:=by
 unfold Ul;rcases h with h|h
 ·unfold iZ at h;rw [Bool.and_eq_true,decide_eq_true_eq] at h;refine ⟨?_,h.1⟩
  cases hc:lN 58 n with
  | none=>simp [vP.1 hc]
  | some p=>
   obtain ⟨x,y⟩:=p;rw [hc] at h;have h2:=h.2;simp only [Bool.and_eq_true] at h2;have hx:x≠[]:=fun e=>by rw [e] at h2;simp [Ba] at h2
   have hm:(58:UInt8)∈n:=by rw [uO hc];simp
   simp [hx,hm]
 ·unfold J7 at h;simp only [Bool.and_eq_true,decide_eq_true_eq] at h;obtain ⟨⟨⟨h1,h2⟩,h3⟩,h4⟩:=h;refine ⟨?_,h2⟩
  have hno:(58:UInt8) ∉ n:=by
   have ht:∀l:Rl,Ed l=true→(58:UInt8) ∉ l:=by
    intro l
    induction l with
    | nil=>simp
    | cons b r ih=>
     intro hl;rw [EG,Bool.and_eq_true] at hl;simp only [List.mem_cons,not_or];refine ⟨?_,ih hl.2⟩;rintro rfl
     have:U6 58=false:=by decide
     rw [this] at hl;exact absurd hl.1 (by decide)
   exact ht n h4
  rw [vP.2 hno];simp [hno]
end Go.Ai.Z
namespace Go.Ai.Z
open Go.Lib (itoa)
mutual
def owC:C→Rl
 | .mk k n lo hi _ ps=>
  if k=1 then wA8
  else if k=2 then wA7
  else if k=4 then Ub wB8 [owN n]
  else if k=5 then Ub wA0 (acG ps)
  else if k=6 then Ub wA1 [owN n,(acG ps).headD []]
  else if k=7 then Ub wA5 [owN n,Ub wB1 [wA3,afy wA4 lo,afy wB9 hi]]
  else owN n
def acG:List C→List Rl
 | []=>[]
 | c::r=>owC c::acG r
end
end Go.Ai.Z
namespace Go.Ai.Z
open Go.Lib (itoa)
end Go.Ai.Z
namespace Go.Ai.Z
end Go.Ai.Z
namespace Go.Ai.Z
def abC (n:Rl):Prop:=Ul n=[] ↔ (58:UInt8) ∉ n
structure Ax.Nm (x:Ax):Prop where
 role:x.kind=4∨x.kind=5∨x.kind=6∨x.kind=7∨x.kind=9→abC x.role
 rs:∀r∈x.roles,abC r
 a:x.kind=8∨x.kind=9→abC x.a
 b:x.kind=9→abC x.b
end Go.Ai.Z
