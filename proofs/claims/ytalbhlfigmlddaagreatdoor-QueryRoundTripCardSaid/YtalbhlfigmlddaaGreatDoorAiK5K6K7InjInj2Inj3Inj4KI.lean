/-
 Texts of concepts.
-/
import Derived.Test.YtalbhlfigmlddaaGreatDoorAiK3K4
import Derived.KernelRfl
import Derived.Lib.ItoaNum
import Derived.Test.YtalbhlfigmlddaaGreatDoorAiKGKH
set_option maxRecDepth 100000
set_option linter.unusedSimpArgs false
set_option linter.unusedVariables false
set_option linter.unusedSectionVars false
namespace Go.Ai.Z
open Go.Lib (itoa decDigits)
theorem yY {u:Nat} (h:u<10):decDigits u=[UInt8.ofNat (48+u)]:=by rw [decDigits,dif_pos h]
theorem UO {u:Nat} (h:¬u<10):decDigits u=decDigits (u / 10)++[UInt8.ofNat (48+u % 10)]:=by rw [decDigits,dif_neg h]
def aiS:List UInt8:=[32,97,110,100,32]
mutual
def textS:C→List UInt8
 | .mk k n lo hi _ ps=>
  if k=1 then [101,118,101,114,121,116,104,105,110,103]
  else if k=2 then [110,111,116,104,105,110,103]
  else if k=3 then n
  else if k=4 then 123::(n++[125])
  else if k=7 then n++[32,105,110,32]++itoa lo++[32,116,111,32]++itoa hi
  else if k=6 then [115,111,109,101,32]++n++[32]++(afM ps).headD []
  else joinL aiS (afM ps)
def afM:List C→List (List UInt8)
 | []=>[]
 | .mk k n lo hi z ps::r=>(if k=5 then 40::(textS (.mk k n lo hi z ps)++[41]) else textS (.mk k n lo hi z ps))::afM r
end
def opS (c:C):List UInt8:=if c.kind=5 then 40::(textS c++[41]) else textS c
end Go.Ai.Z
namespace Go.Ai.Z
open Go.Lib (itoa)
theorem kd {x j:Int} (k:x=j):decide (x=j)=true:=by simp [k]
end Go.Ai.Z
namespace Go.Ai.Z
open Go.Lib (itoa)
attribute [local simp] find rG vY
theorem ah0 (l:List (List UInt8)):l.mapM (strOf ∘ AV.s)=some l:=by
 induction l with
 | nil=>rfl
 | cons a r ih=>simp [strOf,ih]
theorem zK (l:List (List UInt8)) (sep:List UInt8) (h:(joinL sep l).length≤1048576) (h':l.length≤1048576) (s:St) (cx:Ctx):aj P0 (.fn (.func rX) [] []) [.sl (l.map .s),.s sep] s cx=.ret (.s (joinL sep l)) s:=
 vM (h:=Gt Wv) rfl (by simp [Wv,ah0,h,h'])
theorem ER (n:Int) (h:-9223372036854775808≤n) (h':n≤9223372036854775807) (s:St) (cx:Ctx):aj P0 (.fn (.func o9) [] []) [.i .i64 n] s cx=.ret (.s (itoa n)) s:=
 vM (h:=Gt Wx) rfl (by simp [Wx,h,h'])
end Go.Ai.Z
namespace Go.Ai.Inj
open Go.Lib (itoa decDigits)
def Jj (b:UInt8):Bool:=decide (48≤b.toNat) && decide (b.toNat≤57)
theorem wW:∀u:Nat,∀b∈decDigits u,Jj b=true:=by
 intro u
 induction u using Nat.strongRecOn with
 | ind u ih=>
  rw [decDigits]
  split
  ·intro b hb
   simp at hb
   subst hb
   simp [Jj,UInt8.toNat_ofNat']
   omega
  ·intro b hb
   rcases List.mem_append.1 hb with hb|hb
   ·exact ih (u / 10) (by omega) b hb
   ·simp at hb
    subst hb
    simp [Jj,UInt8.toNat_ofNat']
    omega
theorem ac7 (u:Nat):decDigits u≠[]:=by rw [decDigits];split<;>simp
def Stops (p:UInt8→Bool) (u:List UInt8):Prop:=∀b r,u=b::r→p b=false
end Go.Ai.Inj
namespace Go.Ai.Z
open Go.Ai.Inj
def nameB (b:UInt8):Bool:=Ws b || b == 58
theorem uD:∀{l:List UInt8},Gq l=true→∀b∈l,Ws b=true
 | [],_,b,hb=>by cases hb
 | a::r,h,b,hb=>by
  rw [OM,Bool.and_eq_true] at h
  rcases List.mem_cons.1 hb with rfl|hb
  ·exact h.1
  ·exact uD h.2 b hb
theorem wB {l:List UInt8} (h:Au l=true):(∃b r,l=b::r∧V3 b=true)∧Gq l=true∧kwS l=false:=by
 unfold Au at h
 simp only [Bool.and_eq_true,Bool.not_eq_true'] at h
 obtain ⟨⟨h1,h2⟩,h3⟩:=h
 refine ⟨?_,h2,h3⟩
 cases l with
 | nil=>cases h1
 | cons b r=>exact ⟨b,r,rfl,h1⟩
theorem acv {l:List UInt8} (h:58∈l):kwS l=false:=by
 unfold kwS
 cases e:keywords.contains l with
 | false=>rfl
 | true=>
  have:l∈keywords:=by simpa using e
  have all:∀k∈keywords,(58:UInt8) ∉ k:=by decide
  exact absurd h (all l this)
structure Name (l:List UInt8):Prop where
 ne:l≠[]
 bytes:∀b∈l,nameB b=true
 kw:kwS l=false
theorem Pv {l:List UInt8} (h:jU l=true):Name l:=by
 unfold jU at h
 rw [Bool.and_eq_true] at h
 have h:=h.2
 split at h
 ·rename_i x y e
  have el:=zD e
  rw [Bool.and_eq_true] at h
  obtain ⟨⟨b,r,rfl,hb⟩,t1,_⟩:=wB h.1
  obtain ⟨_,t2,_⟩:=wB h.2
  refine ⟨by rw [el];simp,fun c hc=>?_,acv (by rw [el];simp)⟩
  rw [el] at hc
  unfold nameB
  rcases List.mem_append.1 hc with hc|hc
  ·rw [uD t1 c hc];rfl
  ·rcases List.mem_cons.1 hc with rfl|hc
   ·simp
   ·rw [uD t2 c hc];rfl
 ·obtain ⟨⟨b,r,rfl,hb⟩,t1,k⟩:=wB h
  exact ⟨by simp,fun c hc=>by unfold nameB;rw [uD t1 c hc];rfl,k⟩
end Go.Ai.Z
namespace Go.Ai.Z
open Go.Ai.Inj
open Go.Lib (itoa)
mutual
def nz:C→C
 | .mk k n l h _ ps=>.mk k n l h false (nzL ps)
def nzL:List C→List C
 | []=>[]
 | p::r=>nz p::nzL r
end
inductive View (c:C):Prop where
 | top (e:opS c=[101,118,101,114,121,116,104,105,110,103]) (z:nz c=.mk 1 [] 0 0 false [])
 | bot (e:opS c=[110,111,116,104,105,110,103]) (z:nz c=.mk 2 [] 0 0 false [])
 | nam (n:List UInt8) (hn:Name n) (e:opS c=n) (z:nz c=.mk 3 n 0 0 false [])
 | nom (n:List UInt8) (hn:∀b∈n,nameB b=true) (e:opS c=123::(n++[125])) (z:nz c=.mk 4 n 0 0 false [])
 | rng (n:List UInt8) (lo hi:Int) (hn:Name n) (e:opS c=n++(32::105::110::32::(itoa lo++(32::116::111::32::itoa hi)))) (z:nz c=.mk 7 n lo hi false [])
 | som (n:List UInt8) (a:C) (hn:Name n) (ha:a∈c.parts) (e:opS c=[115,111,109,101]++(32::(n++(32::opS a)))) (z:nz c=.mk 6 n 0 0 false [nz a])
 | and (h2:2≤c.parts.length) (e:opS c=40::(joinL aiS (c.parts.map opS)++[41])) (z:nz c=.mk 5 [] 0 0 false (c.parts.map nz))
structure Word (c:C) (u w t:List UInt8):Prop where
 e:opS c++u=w++t
 b:∀x∈w,nameB x=true
 ne:w≠[]
 st:Stops nameB t
 d:(w=[101,118,101,114,121,116,104,105,110,103]∧t=u∧nz c=.mk 1 [] 0 0 false [])∨(w=[110,111,116,104,105,110,103]∧t=u∧nz c=.mk 2 [] 0 0 false [])∨
  (kwS w=false∧t=u∧nz c=.mk 3 w 0 0 false [])∨(kwS w=false∧∃lo hi,t=32::105::110::32::(itoa lo++(32::116::111::32::(itoa hi++u)))∧nz c=.mk 7 w lo hi false [])∨
  (w=[115,111,109,101]∧∃n a,Name n∧a∈c.parts∧t=32::(n++32::(opS a++u))∧nz c=.mk 6 n 0 0 false [nz a])
end Go.Ai.Z
namespace Go.Ai.Z
end Go.Ai.Z
namespace Go.Ai.Z
open Go.Lib (compareBytes)
theorem nP:∀(a b:List UInt8),compareBytes a b=0 ↔ a=b
 | [],[]=>by simp [compareBytes]
 | [],_::_=>by simp [compareBytes]
 | _::_,[]=>by simp [compareBytes]
 | a::x,b::y=>by
  unfold compareBytes
  by_cases h1:a<b
  ·simp [h1];intro h;subst h;exact absurd h1 (by simp)
  ·by_cases h2:b<a
   ·simp [h1,h2];intro h;subst h;exact absurd h2 (by simp)
   ·have hab:a=b:=by
     apply UInt8.toNat_inj.1
     have q1:¬a.toNat<b.toNat:=fun h=>h1 (UInt8.lt_iff_toNat_lt.2 h)
     have q2:¬b.toNat<a.toNat:=fun h=>h2 (UInt8.lt_iff_toNat_lt.2 h)
     omega
    subst hab
    simp [h1,nP x y]
end Go.Ai.Z
