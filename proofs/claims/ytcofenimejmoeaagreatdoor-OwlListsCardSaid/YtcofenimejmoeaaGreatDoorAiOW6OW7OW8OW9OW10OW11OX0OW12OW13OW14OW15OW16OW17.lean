/-
 terms.Vocabulary of axioms that are not all good; strings that are sorted, and that are not repeated.
-/
import Derived.Test.YtcofenimejmoeaaGreatDoorAiOW1OW2OW3OW4OW5
import Derived.Test.YtcofenimejmoeaaGreatDoorAiCircCRefR37R61R62R63K13
import Derived.Test.YtcofenimejmoeaaGreatDoorAiPSortS
import Derived.Test.YtcofenimejmoeaaGreatDoorAiK8K9K10K11K12
import Derived.Test.YtcofenimejmoeaaGreatDoorAiRchR1R2R3R4R5
set_option maxRecDepth 100000
set_option linter.unusedSimpArgs false
set_option linter.unusedVariables false
set_option linter.unusedSectionVars false
namespace Go.Ai.Z
end Go.Ai.Z
namespace Go.Ai.Z
@[simp] theorem acY {env:Env} {l ver sz o n:Nat}:tC env (some (.v (.sk l ver sz o n)))=none:=rfl
section
variable (L:List Rl) (hL:L.length≤100000) (s:St) (cx:Ctx) (l t ver:Nat) (hl:l<s.length) (hlim:cx.lim≤l) (hbase:cx.base≤l)
include hL hl hlim hbase
end
end Go.Ai.Z
namespace Go.Ai.Z
def RY (l:List Rl):AV:=slf true (l.map .s)
def aee:List (List Rl)→Nat
 | []=>0
 | a::r=>a.length+aee r
@[simp] theorem acv (l:List Rl):(RY l).plain=RY l:=by cases l<;>rfl
@[simp] theorem abR (l:List Rl):(RY l).plain1=RY l:=by cases l<;>rfl
@[simp] theorem ae8 (l:List Rl):(RY l).one=true:=by cases l<;>rfl
@[simp] theorem acy (l:List Rl):(RY l).cells=[RY l]:=by cases l<;>rfl
@[simp] theorem acw (l:List Rl) (env:Env):tC env (some (.v (RY l)))=some (l.map .s):=by cases l<;>rfl
section
variable (LL:List (List Rl)) (hL:LL.length≤1000) (hT:aee LL≤100000) (s:St) (cx:Ctx)
include hL
end
def afE (n:Rl):List Rl:=match lN 58 n with|some (x,_)=>[x] | none=>[]
end Go.Ai.Z
namespace Go.Ai.Z
end Go.Ai.Z
namespace Go.Ai.Z
def V4.addS (v:V4) (x:C):V4:=
 if x.kind=3 then { v with c:=y8 v.c x.name } else if x.kind=6 then { v with r:=y8 v.r x.name }
 else if x.kind=7 then { v with f:=y8 v.f x.name } else if x.kind=4 then { v with i:=y8 v.i x.name } else v
mutual
def ag2:C→V4→V4
 | .mk k n l h z ps,v=>afb ps (v.addS (.mk k n l h z ps))
def afb:List C→V4→V4
 | [],v=>v
 | p::r,v=>afb r (ag2 p v)
end
structure SB1 (n:Nat) (V:List Rl):Prop where
 srt:Srt V
 len:V.length≤n
theorem SB1.add {n:Nat} {V:List Rl} (h:SB1 n V) (k:Rl):SB1 (n+1) (y8 V k):=⟨WV h.srt,by have:=WR V k;have:=h.len;omega⟩
theorem SB1.le {n m:Nat} {V:List Rl} (h:SB1 n V) (hm:n≤m):SB1 m V:=⟨h.srt,Nat.le_trans h.len hm⟩
structure SB (n:Nat) (v:V4):Prop where
 c:SB1 n v.c
 r:SB1 n v.r
 f:SB1 n v.f
 i:SB1 n v.i
theorem SB.le {n m:Nat} {v:V4} (h:SB n v) (hm:n≤m):SB m v:=⟨h.c.le hm,h.r.le hm,h.f.le hm,h.i.le hm⟩
theorem SB.add {n:Nat} {v:V4} (h:SB n v) (x:C):SB (n+1) (v.addS x):=by
 have h':=h.le (Nat.le_succ n);unfold V4.addS;split
 ·exact ⟨h.c.add _,h'.r,h'.f,h'.i⟩
 ·split
  ·exact ⟨h'.c,h.r.add _,h'.f,h'.i⟩
  ·split
   ·exact ⟨h'.c,h'.r,h.f.add _,h'.i⟩
   ·split
    ·exact ⟨h'.c,h'.r,h'.f,h.i.add _⟩
    ·exact h'
end Go.Ai.Z
namespace Go.Ai.Z
def Yo (V:List Rl) (x:Rl):List Rl:=if x=[] then V else y8 V x
theorem SB1.Yo {n:Nat} {V:List Rl} (h:SB1 n V) (k:Rl):SB1 (n+1) (Yo V k):=by
 unfold Go.Ai.Z.Yo;split
 ·exact h.le (Nat.le_succ n)
 ·exact h.add k
theorem SB.nil:SB 0 V4.nil:=by
 have h:SB1 0 []:=⟨by simp [Srt],by simp⟩;exact ⟨h,h,h,h⟩
end Go.Ai.Z
namespace Go.Ai.Z
open Go.Ai
theorem kR (l:Rl):(aF l).length=l.length:=by simp [aF]
def acT (k:Int):Bool:=decide (33≤k) && decide (k≤126) && decide (k≠60) && decide (k≠62) && decide (k≠34)
theorem Ug (b:UInt8) (s:St) (cx:Ctx):aj P0 (.fn (.func qU) [] []) [.i .u8 b.toNat] s cx=.ret (.b (acT b.toNat)) s:=by
 refine QG (by simp) ?_;unfold acT;by_cases q1:33≤(b.toNat:Int)
 ·by_cases q2:(b.toNat:Int)≤126
  ·by_cases q3:(b.toNat:Int)=60
   ·simp -implicitDefEqProofs [af,lm,q1,q2,q3]
   ·by_cases q4:(b.toNat:Int)=62
    ·simp -implicitDefEqProofs [af,lm,q1,q2,q3,q4]
    ·by_cases q5:(b.toNat:Int)=34
     ·simp -implicitDefEqProofs [af,lm,q1,q2,q3,q4,q5]
     ·simp -implicitDefEqProofs [af,lm,q1,q2,q3,q4,q5]
  ·simp -implicitDefEqProofs [af,lm,q1,q2]
 ·simp -implicitDefEqProofs [af,lm,q1]
end Go.Ai.Z
namespace Go.Ai.Z
def Nd (n:Rl):Prop:=n=[]∨iZ n=true∨J7 n=true
theorem Nd.len {n:Rl} (h:Nd n):n.length≤24:=by
 rcases h with rfl|h
 ·simp
 ·exact (VU h).2
theorem Nd.cut {n:Rl} (h:Nd n):afE n=if Ul n=[] then [] else [Ul n]:=by
 unfold afE Ul
 cases hc:lN 58 n with
 | none=>simp
 | some p=>
  obtain ⟨x,y⟩:=p;have hb:Ul n=x:=by unfold Ul;rw [hc]
  have hm:(58:UInt8)∈n:=by rw [uO hc];simp
  rcases h with rfl|h
  ·simp at hm
  ·have:=(VU h).1
   rw [hb] at this;have hx:¬x=[]:=fun e=>this.1 e hm;simp [hx]
def V4.all (v:V4):List Rl:=v.c++v.r++v.f++v.i
structure N4 (v:V4):Prop where
 c:∀x∈v.c,Nd x
 r:∀x∈v.r,Nd x
 f:∀x∈v.f,Nd x
 i:∀x∈v.i,Nd x
def V4.tot (v:V4):Nat:=v.c.length+v.r.length+v.f.length+v.i.length
theorem Ll {V:List Rl} {k:Rl} (h:∀x∈V,Nd x) (hk:Nd k):∀x∈rX V k,Nd x:=fun x hx=>by
 rcases Gy.1 hx with rfl|hx
 ·exact hk
 ·exact h x hx
theorem Gv {c:C} (h:yT c=true) (hk:c.kind=3∨c.kind=4∨c.kind=6∨c.kind=7):Nd c.name:=by
 unfold yT at h
 rcases hk with k|k|k|k<;>simp [k] at h
 ·exact .inr (.inl h)
 ·exact .inr h
 ·exact .inr (.inl h)
 ·exact .inr (.inl h)
theorem N4.add {v:V4} (h:N4 v) {c:C} (hn:yT c=true):N4 (v.add c):=by
 unfold V4.add;split
 ·rename_i k;exact ⟨Ll h.c (Gv hn (by simp [k])),h.r,h.f,h.i⟩
 ·split
  ·rename_i k;exact ⟨h.c,Ll h.r (Gv hn (by simp [k])),h.f,h.i⟩
  ·split
   ·rename_i k;exact ⟨h.c,h.r,Ll h.f (Gv hn (by simp [k])),h.i⟩
   ·split
    ·rename_i k;exact ⟨h.c,h.r,h.f,Ll h.i (Gv hn (by simp [k]))⟩
    ·exact h
def EqM (V W:List Rl):Prop:=∀x:Rl,x≠[]→(x∈V ↔ x∈W)
theorem EqM.rX {V W:List Rl} (h:EqM V W) (k:Rl):EqM (rX V k) (y8 W k):=fun x hx=>by rw [Gy,Xm,h x hx]
theorem EqM.Yo {V W:List Rl} (h:EqM V W) (k:Rl):EqM (Go.Ai.Z.rX V k) (Yo W k):=fun x hx=>by
 unfold Go.Ai.Z.Yo;split
 ·rename_i e;subst e;rw [Gy,h x hx];simp [hx]
 ·exact h.rX k x hx
structure E4 (v u:V4):Prop where
 c:EqM v.c u.c
 r:EqM v.r u.r
 f:EqM v.f u.f
 i:EqM v.i u.i
theorem E4.add {v w:V4} (h:E4 v w) (c:C):E4 (v.add c) (w.addS c):=by
 unfold V4.add V4.addS
 repeat' split
 ·exact ⟨h.c.rX _,h.r,h.f,h.i⟩
 ·exact ⟨h.c,h.r.rX _,h.f,h.i⟩
 ·exact ⟨h.c,h.r,h.f.rX _,h.i⟩
 ·exact ⟨h.c,h.r,h.f,h.i.rX _⟩
 ·exact h
structure Ax.Vd (x:Ax):Prop where
 l:emptyS x.left=true∨rM x.left=0∧wR x.left≤64
 r:emptyS x.right=true∨rM x.right=0∧wR x.right≤64
 n:x.roles.length≤4
 rs:∀r∈x.roles,Nd r
 role:Nd x.role
 a:Nd x.a
 b:Nd x.b
end Go.Ai.Z
namespace Go.Ai.Z
section
variable {l:List Ax} (h:∀x∈l,x.Vd)
include h
end
end Go.Ai.Z
namespace Go.Ai.Z
section
variable (L0:AV) (p:Rl) (LL:List (List Rl)) (hLL:LL.length≤100) (hT:∀T∈LL,T.length≤50000) (hn:∀T∈LL,∀x∈T,x.length≤1000000) (s:St) (cx:Ctx)
include hT hn
end
end Go.Ai.Z
namespace Go.Ai.Z
end Go.Ai.Z
namespace Go.Ai.Z
end Go.Ai.Z
namespace Go.Ai.Z
end Go.Ai.Z
