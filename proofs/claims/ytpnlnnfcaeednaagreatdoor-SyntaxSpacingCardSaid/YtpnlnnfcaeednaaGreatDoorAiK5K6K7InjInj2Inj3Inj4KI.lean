/-
 Texts of concepts.
-/
import Derived.Test.YtpnlnnfcaeednaaGreatDoorAiK4
import Derived.KernelRfl
import Derived.Lib.ItoaNum
import Derived.Test.YtpnlnnfcaeednaaGreatDoorAiKGKH
set_option maxRecDepth 100000
set_option linter.unusedSimpArgs false
set_option linter.unusedVariables false
set_option linter.unusedSectionVars false
namespace Go.Ai.Z
open Go.Lib (itoa decDigits)
def ai9:List UInt8:=[32,97,110,100,32]
mutual
def textS:C→List UInt8
 | .mk k n lo hi _ ps=>
  if k=1 then [101,118,101,114,121,116,104,105,110,103]
  else if k=2 then [110,111,116,104,105,110,103]
  else if k=3 then n
  else if k=4 then 123::(n++[125])
  else if k=7 then n++[32,105,110,32]++itoa lo++[32,116,111,32]++itoa hi
  else if k=6 then [115,111,109,101,32]++n++[32]++(af9 ps).headD []
  else joinL ai9 (af9 ps)
def af9:List C→List (List UInt8)
 | []=>[]
 | .mk k n lo hi z ps::r=>(if k=5 then 40::(textS (.mk k n lo hi z ps)++[41]) else textS (.mk k n lo hi z ps))::af9 r
end
def opS (c:C):List UInt8:=if c.kind=5 then 40::(textS c++[41]) else textS c
theorem O5 {c:C} (h:iH c=0):oV c=true∧xM c=true∧∀p∈c.parts,iH p=0:=by
 rw [BP] at h
 by_cases h1:oV c=true
 ·by_cases h2:xM c=true
  ·simp [h1,h2] at h
   refine ⟨h1,h2, ?_⟩
   generalize c.parts=l at h
   induction l with
   | nil=>intro p hp;cases hp
   | cons a r ih=>
    simp only [qV] at h
    intro p hp
    by_cases h0:iH a=0
    ·rw [if_pos h0] at h
     rcases List.mem_cons.1 hp with rfl|hp
     ·exact h0
     ·exact ih h p hp
    ·rw [if_neg h0] at h;exact absurd h h0
  ·simp [h1,h2] at h
 ·simp [h1] at h
theorem Yz {c:C} (h:oV c=true):c.kind=1∨c.kind=2∨c.kind=3∨c.kind=4∨c.kind=7∧-1099511627776≤c.lo∧c.lo≤c.hi∧c.hi≤1099511627776∨c.kind=6∧c.parts.length=1∨c.kind=5∧2≤c.parts.length:=by
 unfold oV at h
 by_cases k1:c.kind=1
 ·exact .inl k1
 by_cases k2:c.kind=2
 ·exact .inr (.inl k2)
 by_cases k3:c.kind=3
 ·exact .inr (.inr (.inl k3))
 by_cases k4:c.kind=4
 ·exact .inr (.inr (.inr (.inl k4)))
 by_cases k5:c.kind=5
 ·simp [k5] at h;exact .inr (.inr (.inr (.inr (.inr (.inr ⟨k5,by omega⟩)))))
 by_cases k6:c.kind=6
 ·simp [k6] at h;exact .inr (.inr (.inr (.inr (.inr (.inl ⟨k6,by omega⟩)))))
 by_cases k7:c.kind=7
 ·simp [k7] at h;exact .inr (.inr (.inr (.inr (.inl ⟨k7,by omega,by omega,by omega⟩))))
 ·simp [k1,k2,k3,k4,k5,k6,k7] at h
end Go.Ai.Z
namespace Go.Ai.Z
open Go.Lib (itoa)
theorem kd {x j:Int} (k:x=j):decide (x=j)=true:=by simp [k]
end Go.Ai.Z
namespace Go.Ai.Z
open Go.Lib (itoa)
attribute [local simp] find y5 wQ
end Go.Ai.Z
namespace Go.Ai.Inj
open Go.Lib (itoa decDigits)
def Stops (p:UInt8→Bool) (u:List UInt8):Prop:=∀b r,u=b::r→p b=false
end Go.Ai.Inj
namespace Go.Ai.Z
open Go.Ai.Inj
def nameB (b:UInt8):Bool:=abd b || b == 58
theorem Dx:∀{l:List UInt8},Ic l=true→∀b∈l,abd b=true
 | [],_,b,hb=>by cases hb
 | a::r,h,b,hb=>by
  rw [P5,Bool.and_eq_true] at h
  rcases List.mem_cons.1 hb with rfl|hb
  ·exact h.1
  ·exact Dx h.2 b hb
theorem IC {l:List UInt8} (h:Fa l=true):(∃b r,l=b::r∧ac1 b=true)∧Ic l=true∧kwS l=false:=by
 unfold Fa at h
 simp only [Bool.and_eq_true,Bool.not_eq_true'] at h
 obtain ⟨⟨h1,h2⟩,h3⟩:=h
 refine ⟨?_,h2,h3⟩
 cases l with
 | nil=>cases h1
 | cons b r=>exact ⟨b,r,rfl,h1⟩
theorem ade {l:List UInt8} (h:58∈l):kwS l=false:=by
 unfold kwS
 cases e:keywords.contains l with
 | false=>rfl
 | true=>
  have:l∈keywords:=by simpa using e
  have all:∀k∈keywords,(58:UInt8) ∉ k:=by decide
  exact absurd h (all l this)
structure Name (l:List UInt8):Prop where
 ne:l≠[]
 bytes:∀b∈l,nameB b=true
 kw:kwS l=false
theorem Qw {l:List UInt8} (h:lm l=true):Name l:=by
 unfold lm at h
 rw [Bool.and_eq_true] at h
 have h:=h.2
 split at h
 ·rename_i x y e
  have el:=KF e
  rw [Bool.and_eq_true] at h
  obtain ⟨⟨b,r,rfl,hb⟩,t1,_⟩:=IC h.1
  obtain ⟨_,t2,_⟩:=IC h.2
  refine ⟨by rw [el];simp,fun c hc=>?_,ade (by rw [el];simp)⟩
  rw [el] at hc
  unfold nameB
  rcases List.mem_append.1 hc with hc|hc
  ·rw [Dx t1 c hc];rfl
  ·rcases List.mem_cons.1 hc with rfl|hc
   ·simp
   ·rw [Dx t2 c hc];rfl
 ·obtain ⟨⟨b,r,rfl,hb⟩,t1,k⟩:=IC h
  exact ⟨by simp,fun c hc=>by unfold nameB;rw [Dx t1 c hc];rfl,k⟩
end Go.Ai.Z
namespace Go.Ai.Z
open Go.Ai.Inj
open Go.Lib (itoa)
mutual
def nz:C→C
 | .mk k n l h _ ps=>.mk k n l h false (nzL ps)
def nzL:List C→List C
 | []=>[]
 | p::r=>nz p::nzL r
end
theorem acX:∀l:List C,nzL l=l.map nz
 | []=>rfl
 | p::r=>by simp [nzL,acX r]
theorem Es (c:C):nz c=.mk c.kind c.name c.lo c.hi false (c.parts.map nz):=by
 cases c;simp [nz,acX,C.kind,C.name,C.lo,C.hi,C.parts]
inductive View (c:C):Prop where
 | top (e:opS c=[101,118,101,114,121,116,104,105,110,103]) (z:nz c=.mk 1 [] 0 0 false [])
 | bot (e:opS c=[110,111,116,104,105,110,103]) (z:nz c=.mk 2 [] 0 0 false [])
 | nam (n:List UInt8) (hn:Name n) (e:opS c=n) (z:nz c=.mk 3 n 0 0 false [])
 | nom (n:List UInt8) (hn:∀b∈n,nameB b=true) (e:opS c=123::(n++[125])) (z:nz c=.mk 4 n 0 0 false [])
 | rng (n:List UInt8) (lo hi:Int) (hn:Name n) (e:opS c=n++(32::105::110::32::(itoa lo++(32::116::111::32::itoa hi)))) (z:nz c=.mk 7 n lo hi false [])
 | som (n:List UInt8) (a:C) (hn:Name n) (ha:a∈c.parts) (e:opS c=[115,111,109,101]++(32::(n++(32::opS a)))) (z:nz c=.mk 6 n 0 0 false [nz a])
 | and (h2:2≤c.parts.length) (e:opS c=40::(joinL ai9 (c.parts.map opS)++[41])) (z:nz c=.mk 5 [] 0 0 false (c.parts.map nz))
structure Word (c:C) (u w t:List UInt8):Prop where
 e:opS c++u=w++t
 b:∀x∈w,nameB x=true
 ne:w≠[]
 st:Stops nameB t
 d:(w=[101,118,101,114,121,116,104,105,110,103]∧t=u∧nz c=.mk 1 [] 0 0 false [])∨(w=[110,111,116,104,105,110,103]∧t=u∧nz c=.mk 2 [] 0 0 false [])∨
  (kwS w=false∧t=u∧nz c=.mk 3 w 0 0 false [])∨(kwS w=false∧∃lo hi,t=32::105::110::32::(itoa lo++(32::116::111::32::(itoa hi++u)))∧nz c=.mk 7 w lo hi false [])∨
  (w=[115,111,109,101]∧∃n a,Name n∧a∈c.parts∧t=32::(n++32::(opS a++u))∧nz c=.mk 6 n 0 0 false [nz a])
end Go.Ai.Z
namespace Go.Ai.Z
theorem uj (c:C):(nz c).kind=c.kind:=by rw [Es];rfl
theorem xK (c:C):(nz c).name=c.name:=by rw [Es];rfl
theorem Ue (c:C):(nz c).lo=c.lo:=by rw [Es];rfl
theorem Uf (c:C):(nz c).hi=c.hi:=by rw [Es];rfl
theorem nU (c:C):(nz c).parts=c.parts.map nz:=by rw [Es];rfl
end Go.Ai.Z
namespace Go.Ai.Z
open Go.Lib (compareBytes)
theorem xQ:∀(a b:List UInt8),compareBytes a b=0 ↔ a=b
 | [],[]=>by simp [compareBytes]
 | [],_::_=>by simp [compareBytes]
 | _::_,[]=>by simp [compareBytes]
 | a::x,b::y=>by
  unfold compareBytes
  by_cases h1:a<b
  ·simp [h1];intro h;subst h;exact absurd h1 (by simp)
  ·by_cases h2:b<a
   ·simp [h1,h2];intro h;subst h;exact absurd h2 (by simp)
   ·have hab:a=b:=by
     apply UInt8.toNat_inj.1
     have q1:¬a.toNat<b.toNat:=fun h=>h1 (UInt8.lt_iff_toNat_lt.2 h)
     have q2:¬b.toNat<a.toNat:=fun h=>h2 (UInt8.lt_iff_toNat_lt.2 h)
     omega
    subst hab
    simp [h1,xQ x y]
theorem Jy:∀c:C,dR (nz c)=dR c:=by
 refine C.ind' fun c ih=>?_
 rw [nT,nT c,nU]
 congr 1
 have:∀l:List C,(∀p∈l,dR (nz p)=dR p)→fC (l.map nz)=fC l:=by
  intro l
  induction l with
  | nil=>intro _;rfl
  | cons a r ih2=>intro h;simp only [List.map_cons,fC,h a (by simp),ih2 (fun p hp=>h p (by simp [hp]))]
 exact this c.parts ih
theorem Rf {c d:C}:CZ c d=0 ↔ dR c=dR d∧c.kind=d.kind∧c.name=d.name∧c.lo=d.lo∧c.hi=d.hi:=by
 unfold CZ
 rw [Xj]
 simp [abJ,xQ]
 intros;omega
theorem Zn {x:List C} (ih:∀p∈x,∀d,kS p d=0 ↔ nz p=nz d):∀y:List C,nY x y=0 ↔ x.map nz=y.map nz:=by
 induction x with
 | nil=>intro y;cases y<;>simp [nY]
 | cons a r ih2=>
  intro y
  cases y with
  | nil=>simp [nY]
  | cons b q=>
   have h1:=ih a (by simp) b
   have h2:=ih2 (fun p hp=>ih p (by simp [hp])) q
   by_cases hz:kS a b=0
   ·simp [nY,hz,h2,h1.1 hz]
   ·simp only [nY,hz,if_false,List.map_cons,List.cons.injEq,false_iff]
    intro ⟨h3,_⟩
    exact hz (h1.2 h3)
theorem GY:∀(c d:C),kS c d=0 ↔ nz c=nz d:=by
 refine C.ind' fun c ih d=>?_
 rw [xR]
 have hl:=Zn ih d.parts
 constructor
 ·intro h
  split at h
  ·rename_i h0
   obtain ⟨h1,h2,h3,h4,h5⟩:=Rf.1 h0
   rw [Es,Es d,h2,h3,h4,h5,hl.1 h]
  ·rename_i h0;exact absurd h h0
 ·intro h
  have h1:dR c=dR d:=by rw [←Jy c,h,Jy]
  have h2:c.kind=d.kind:=by rw [←uj c,h,uj]
  have h3:c.name=d.name:=by rw [←xK c,h,xK]
  have h4:c.lo=d.lo:=by rw [←Ue c,h,Ue]
  have h5:c.hi=d.hi:=by rw [←Uf c,h,Uf]
  have h6:c.parts.map nz=d.parts.map nz:=by rw [←nU,h,nU]
  rw [if_pos (Rf.2 ⟨h1,h2,h3,h4,h5⟩)]
  exact hl.2 h6
end Go.Ai.Z
