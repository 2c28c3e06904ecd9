/-
 Texts of concepts.
-/
import Derived.Test.YtcofenimejmoeaaGreatDoorAiK1K2K3K4
import Derived.KernelRfl
set_option maxRecDepth 100000
set_option linter.unusedSimpArgs false
set_option linter.unusedVariables false
set_option linter.unusedSectionVars false
namespace Go.Ai.Z
open Go.Lib (itoa decDigits)
def amA:Rl:=[32,97,110,100,32]
mutual
def textS:C→Rl
 | .mk k n lo hi _ ps=>
  if k=1 then wD3
  else if k=2 then [110,111,116,104,105,110,103]
  else if k=3 then n
  else if k=4 then 123::(n++[125])
  else if k=7 then n++[32,105,110,32]++itoa lo++[32,116,111,32]++itoa hi
  else if k=6 then [115,111,109,101,32]++n++[32]++(ahO ps).headD []
  else joinL amA (ahO ps)
def ahO:List C→List Rl
 | []=>[]
 | .mk k n lo hi z ps::r=>(if k=5 then 40::(textS (.mk k n lo hi z ps)++[41]) else textS (.mk k n lo hi z ps))::ahO r
end
theorem JU {c:C} (h:iG c=0):kQ c=true∧tX c=true∧∀p∈c.parts,iG p=0:=by
 rw [CU] at h;by_cases h1:kQ c=true
 ·by_cases h2:tX c=true
  ·simp [h1,h2] at h;refine ⟨h1,h2, ?_⟩;generalize c.parts=l at h
   induction l with
   | nil=>intro p hp;cases hp
   | cons a r ih=>
    simp only [rG] at h;intro p hp;by_cases h0:iG a=0
    ·rw [if_pos h0] at h;rcases List.mem_cons.1 hp with rfl|hp
     ·exact h0
     ·exact ih h p hp
    ·rw [if_neg h0] at h;exact absurd h h0
  ·simp [h1,h2] at h
 ·simp [h1] at h
theorem IW {c:C} (h:kQ c=true):c.kind=1∨c.kind=2∨c.kind=3∨c.kind=4∨c.kind=7∧-1099511627776≤c.lo∧c.lo≤c.hi∧c.hi≤1099511627776∨c.kind=6∧c.parts.length=1∨c.kind=5∧2≤c.parts.length:=by
 unfold kQ at h;by_cases k1:c.kind=1
 ·exact .inl k1
 by_cases k2:c.kind=2
 ·exact .inr (.inl k2)
 by_cases k3:c.kind=3
 ·exact .inr (.inr (.inl k3))
 by_cases k4:c.kind=4
 ·exact .inr (.inr (.inr (.inl k4)))
 by_cases k5:c.kind=5
 ·simp [k5] at h;exact .inr (.inr (.inr (.inr (.inr (.inr ⟨k5,by omega⟩)))))
 by_cases k6:c.kind=6
 ·simp [k6] at h;exact .inr (.inr (.inr (.inr (.inr (.inl ⟨k6,by omega⟩)))))
 by_cases k7:c.kind=7
 ·simp [k7] at h;exact .inr (.inr (.inr (.inr (.inl ⟨k7,by omega,by omega,by omega⟩))))
 ·simp [k1,k2,k3,k4,k5,k6,k7] at h
theorem Dv (l:List Rl) (sep:Rl):(joinL sep l).length≤(l.map fun x=>x.length+sep.length).sum:=by
 cases l with
 | nil=>simp [joinL]
 | cons x r=>
  simp only [joinL,List.length_append,List.length_flatMap,List.map_cons,List.sum_cons]
  have:(r.map fun y=>sep.length+y.length)=r.map fun x=>x.length+sep.length:=by
   apply List.map_congr_left;intro y _;omega
  rw [this];omega
end Go.Ai.Z
namespace Go.Ai.Z
open Go.Lib (itoa)
theorem kd {x j:Int} (k:x=j):decide (x=j)=true:=by simp [k]
theorem kn {x j:Int} (i:Int) (k:x=j) (h:decide (j=i)=false):decide (x=i)=false:=by rw [k];exact h
end Go.Ai.Z
namespace Go.Ai.Z
open Go.Lib (itoa)
attribute [local simp] find jC uy
theorem akc (l:List Rl):l.mapM (strOf ∘ AV.s)=some l:=by
 induction l with
 | nil=>rfl
 | cons a r ih=>simp [strOf,ih]
theorem Gv (l:List Rl) (sep:Rl) (h:(joinL sep l).length≤1048576) (h':l.length≤1048576) (s:St) (cx:Ctx):aj P0 (.fn (.func yg) [] []) [.sl (l.map .s),.s sep] s cx=.ret (.s (joinL sep l)) s:=
 sH (h:=Ip XK) rfl (by simp [XK,akc,h,h'])
theorem Si (n:Int) (h:-9223372036854775808≤n) (h':n≤9223372036854775807) (s:St) (cx:Ctx):aj P0 (.fn (.func Bj) [] []) [.i .i64 n] s cx=.ret (.s (itoa n)) s:=
 sH (h:=Ip XL) rfl (by simp [XL,h,h'])
end Go.Ai.Z
