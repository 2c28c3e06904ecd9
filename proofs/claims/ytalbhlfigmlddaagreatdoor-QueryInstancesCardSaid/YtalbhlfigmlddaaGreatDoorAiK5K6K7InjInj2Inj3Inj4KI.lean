/-
 Texts of concepts.
-/
import Derived.Test.YtalbhlfigmlddaaGreatDoorAiK4
import Derived.KernelRfl
import Derived.Lib.ItoaNum
import Derived.Test.YtalbhlfigmlddaaGreatDoorAiKGKH
set_option maxRecDepth 100000
set_option linter.unusedSimpArgs false
set_option linter.unusedVariables false
set_option linter.unusedSectionVars false
namespace Go.Ai.Z
open Go.Lib (itoa decDigits)
def aeY:List UInt8:=[32,97,110,100,32]
mutual
def textS:C→List UInt8
 | .mk k n lo hi _ ps=>
  if k=1 then [101,118,101,114,121,116,104,105,110,103]
  else if k=2 then [110,111,116,104,105,110,103]
  else if k=3 then n
  else if k=4 then 123::(n++[125])
  else if k=7 then n++[32,105,110,32]++itoa lo++[32,116,111,32]++itoa hi
  else if k=6 then [115,111,109,101,32]++n++[32]++(ab5 ps).headD []
  else joinL aeY (ab5 ps)
def ab5:List C→List (List UInt8)
 | []=>[]
 | .mk k n lo hi z ps::r=>(if k=5 then 40::(textS (.mk k n lo hi z ps)++[41]) else textS (.mk k n lo hi z ps))::ab5 r
end
def opS (c:C):List UInt8:=if c.kind=5 then 40::(textS c++[41]) else textS c
end Go.Ai.Z
namespace Go.Ai.Z
open Go.Lib (itoa)
theorem kd {x j:Int} (k:x=j):decide (x=j)=true:=by simp [k]
end Go.Ai.Z
namespace Go.Ai.Z
open Go.Lib (itoa)
attribute [local simp] find nS sV
end Go.Ai.Z
namespace Go.Ai.Inj
open Go.Lib (itoa decDigits)
def Stops (p:UInt8→Bool) (u:List UInt8):Prop:=∀b r,u=b::r→p b=false
end Go.Ai.Inj
namespace Go.Ai.Z
open Go.Ai.Inj
def nameB (b:UInt8):Bool:=Y2 b || b == 58
structure Name (l:List UInt8):Prop where
 ne:l≠[]
 bytes:∀b∈l,nameB b=true
 kw:kwS l=false
end Go.Ai.Z
namespace Go.Ai.Z
open Go.Ai.Inj
open Go.Lib (itoa)
mutual
def nz:C→C
 | .mk k n l h _ ps=>.mk k n l h false (nzL ps)
def nzL:List C→List C
 | []=>[]
 | p::r=>nz p::nzL r
end
inductive View (c:C):Prop where
 | top (e:opS c=[101,118,101,114,121,116,104,105,110,103]) (z:nz c=.mk 1 [] 0 0 false [])
 | bot (e:opS c=[110,111,116,104,105,110,103]) (z:nz c=.mk 2 [] 0 0 false [])
 | nam (n:List UInt8) (hn:Name n) (e:opS c=n) (z:nz c=.mk 3 n 0 0 false [])
 | nom (n:List UInt8) (hn:∀b∈n,nameB b=true) (e:opS c=123::(n++[125])) (z:nz c=.mk 4 n 0 0 false [])
 | rng (n:List UInt8) (lo hi:Int) (hn:Name n) (e:opS c=n++(32::105::110::32::(itoa lo++(32::116::111::32::itoa hi)))) (z:nz c=.mk 7 n lo hi false [])
 | som (n:List UInt8) (a:C) (hn:Name n) (ha:a∈c.parts) (e:opS c=[115,111,109,101]++(32::(n++(32::opS a)))) (z:nz c=.mk 6 n 0 0 false [nz a])
 | and (h2:2≤c.parts.length) (e:opS c=40::(joinL aeY (c.parts.map opS)++[41])) (z:nz c=.mk 5 [] 0 0 false (c.parts.map nz))
structure Word (c:C) (u w t:List UInt8):Prop where
 e:opS c++u=w++t
 b:∀x∈w,nameB x=true
 ne:w≠[]
 st:Stops nameB t
 d:(w=[101,118,101,114,121,116,104,105,110,103]∧t=u∧nz c=.mk 1 [] 0 0 false [])∨(w=[110,111,116,104,105,110,103]∧t=u∧nz c=.mk 2 [] 0 0 false [])∨
  (kwS w=false∧t=u∧nz c=.mk 3 w 0 0 false [])∨(kwS w=false∧∃lo hi,t=32::105::110::32::(itoa lo++(32::116::111::32::(itoa hi++u)))∧nz c=.mk 7 w lo hi false [])∨
  (w=[115,111,109,101]∧∃n a,Name n∧a∈c.parts∧t=32::(n++32::(opS a++u))∧nz c=.mk 6 n 0 0 false [nz a])
end Go.Ai.Z
namespace Go.Ai.Z
end Go.Ai.Z
namespace Go.Ai.Z
open Go.Lib (compareBytes)
theorem lM:∀(a b:List UInt8),compareBytes a b=0 ↔ a=b
 | [],[]=>by simp [compareBytes]
 | [],_::_=>by simp [compareBytes]
 | _::_,[]=>by simp [compareBytes]
 | a::x,b::y=>by
  unfold compareBytes
  by_cases h1:a<b
  ·simp [h1];intro h;subst h;exact absurd h1 (by simp)
  ·by_cases h2:b<a
   ·simp [h1,h2];intro h;subst h;exact absurd h2 (by simp)
   ·have hab:a=b:=by
     apply UInt8.toNat_inj.1
     have q1:¬a.toNat<b.toNat:=fun h=>h1 (UInt8.lt_iff_toNat_lt.2 h)
     have q2:¬b.toNat<a.toNat:=fun h=>h2 (UInt8.lt_iff_toNat_lt.2 h)
     omega
    subst hab
    simp [h1,lM x y]
end Go.Ai.Z
