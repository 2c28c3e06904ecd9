/-
 terms.Compare: the order of concepts.
-/
import Derived.Test.YtdjjghikaijfpaaGreatDoorAiK1K2K3K4
import Derived.KernelRfl
import Derived.Lib.ItoaNum
set_option maxRecDepth 100000
set_option linter.unusedSimpArgs false
set_option linter.unusedVariables false
set_option linter.unusedSectionVars false
namespace Go.Ai.Z
open Go.Lib (compareBytes)
mutual
def Lr:C→AV
 | .mk k n l h z ps=>.ag [.i .i64 k,.s n,.i .i64 l,.i .i64 h,slf z (Nk ps),.i .i64 ((1+LQ ps:Nat):Int),slf true (Ql ps)]
def Ql:List C→List AV
 | []=>[]
 | a::r=>Lr a::Ql r
end
theorem UF:∀ps:List C,Ql ps=ps.map Lr
 | []=>by simp [Ql]
 | a::r=>by simp [Ql,UF r]
theorem XQ (c:C):Lr c=.ag [.i .i64 c.kind,.s c.name,.i .i64 c.lo,.i .i64 c.hi,slf c.z (c.parts.map jR),.i .i64 (zY c:Int),slf true (c.parts.map Lr)]:=by
 cases c;simp [Lr,Nj,UF,zY]
@[simp] theorem ah6 (c:C):(Lr c).plain=Lr c:=by rw [XQ];simp
@[simp] theorem aix (c:C):(Lr c).cells=[.i .i64 c.kind,.s c.name,.i .i64 c.lo,.i .i64 c.hi,slf c.z (c.parts.map jR),.i .i64 (zY c:Int),slf true (c.parts.map Lr)]:=by rw [XQ];rfl
@[simp] theorem aja (c:C):AV.ag [.i .i64 c.kind,.s c.name,.i .i64 c.lo,.i .i64 c.hi,slf c.z (c.parts.map jR),.i .i64 (zY c:Int),slf true (c.parts.map Lr)]=Lr c:=(XQ c).symm
mutual
theorem Py (n:Nat):∀c:C,(Lr c).under n=true
 | .mk k nm l h z ps=>by simp [Lr,Af n ps,Es n ps]
theorem Es (n:Nat):∀ps:List C,dF n (Ql ps)=true
 | []=>by simp [Ql]
 | a::r=>by simp [Ql,Py n a,Es n r]
end
@[simp] theorem ahD (n:Nat) (c:C):(Lr c).under n=true:=Py n c
@[simp] theorem ag8 (n:Nat) (ps:List C):dF n (ps.map Lr)=true:=by rw [←UF];exact Es n ps
end Go.Ai.Z
namespace Go.Ai.Z
open Go.Lib (compareBytes)
def JW (a b:Int):Int:=if a<b then -1 else if b<a then 1 else 0
theorem adv {a b:Int}:JW a b=0 ↔ a=b:=by unfold JW;(repeat' split)<;>simp<;>omega
def orI:List Int→Int
 | []=>0
 | a::r=>if a=0 then orI r else a
mutual
def ak2:C→C→Int
 | .mk k n l h z ps,d=>
  let x:=orI [JW ((1+LQ ps:Nat):Int) (zY d:Int),JW k d.kind,compareBytes n d.name,JW l d.lo,JW h d.hi]
  if x=0 then ahu ps d.parts else x
def ahu:List C→List C→Int
 | [],[]=>0
 | [],_::_=>-1
 | _::_,[]=>1
 | a::r,b::q=>if ak2 a b=0 then ahu r q else ak2 a b
end
end Go.Ai.Z
namespace Go.Ai.Z
open Go.Lib (itoa decDigits)
theorem AX {u:Nat} (h:u<10):decDigits u=[UInt8.ofNat (48+u)]:=by rw [decDigits,dif_pos h]
theorem XU {u:Nat} (h:¬u<10):decDigits u=decDigits (u / 10)++[UInt8.ofNat (48+u % 10)]:=by rw [decDigits,dif_neg h]
def alp:List UInt8:=[32,97,110,100,32]
mutual
def textS:C→List UInt8
 | .mk k n lo hi _ ps=>
  if k=1 then [101,118,101,114,121,116,104,105,110,103]
  else if k=2 then [110,111,116,104,105,110,103]
  else if k=3 then n
  else if k=4 then 123::(n++[125])
  else if k=7 then n++[32,105,110,32]++itoa lo++[32,116,111,32]++itoa hi
  else if k=6 then [115,111,109,101,32]++n++[32]++(aie ps).headD []
  else joinL alp (aie ps)
def aie:List C→List (List UInt8)
 | []=>[]
 | .mk k n lo hi z ps::r=>(if k=5 then 40::(textS (.mk k n lo hi z ps)++[41]) else textS (.mk k n lo hi z ps))::aie r
end
def opS (c:C):List UInt8:=if c.kind=5 then 40::(textS c++[41]) else textS c
end Go.Ai.Z
namespace Go.Ai.Z
open Go.Lib (itoa)
theorem kd {x j:Int} (k:x=j):decide (x=j)=true:=by simp [k]
end Go.Ai.Z
namespace Go.Ai.Z
open Go.Lib (itoa)
def fnv (f:Nat):AV:=.fn (.func f) [] []
def PV:AV:=.ag [.im [(.i .i64 1,fnv iT),(.i .i64 2,fnv fZ),(.i .i64 3,fnv gW),(.i .i64 4,fnv jY),(.i .i64 5,fnv nZ),(.i .i64 6,fnv mP),(.i .i64 7,fnv mO)],
 .im [(.i .i64 1,fnv nY),(.i .i64 2,fnv mQ),(.i .i64 3,fnv jH),(.i .i64 4,fnv kZ),(.i .i64 5,fnv mV),(.i .i64 6,fnv lS),(.i .i64 7,fnv jw),(.i .i64 8,fnv kY),(.i .i64 9,fnv mW)]]
attribute [local simp] find uY yP
@[simp] theorem Zy (s:St) (cx:Ctx):aj P0 (.fn (.func pG) [] []) [] s cx=.ret PV s:=by
 refine GK (by simp) ?_
 simp [af,nV,iI,PV,fnv]
def acu:List AV:=match PV with | .ag cs=>cs | _=>[]
@[simp] theorem akD:PV.plain=PV:=rfl
@[simp] theorem ali:PV.cells=acu:=rfl
@[simp] theorem amL:acu.all AV.one=true:=rfl
@[simp] theorem amP:acu.length=2:=rfl
@[simp] theorem aly:acu.take 2=acu:=rfl
@[simp] theorem al8:AV.ag acu=PV:=rfl
theorem akr (l:List (List UInt8)):l.mapM (strOf ∘ AV.s)=some l:=by
 induction l with
 | nil=>rfl
 | cons a r ih=>simp [strOf,ih]
theorem xW (l:List (List UInt8)) (sep:List UInt8) (h:(joinL sep l).length≤1048576) (h':l.length≤1048576) (s:St) (cx:Ctx):aj P0 (.fn (.func lJ) [] []) [.sl (l.map .s),.s sep] s cx=.ret (.s (joinL sep l)) s:=
 rE (h:=Bj Y6) rfl (by simp [Y6,akr,h,h'])
theorem IL (n:Int) (h:-9223372036854775808≤n) (h':n≤9223372036854775807) (s:St) (cx:Ctx):aj P0 (.fn (.func fP) [] []) [.i .i64 n] s cx=.ret (.s (itoa n)) s:=
 rE (h:=Bj Y7) rfl (by simp [Y7,h,h'])
@[simp] theorem afR (c:C) (s:St) (cx:Ctx):aj P0 (.fn (.func iT) [] []) [PV,jR c] s cx=.ret (.s [101,118,101,114,121,116,104,105,110,103]) s:=by
 refine Fj (by simp) ?_
 simp [af,mG]
@[simp] theorem adG (c:C) (s:St) (cx:Ctx):aj P0 (.fn (.func fZ) [] []) [PV,jR c] s cx=.ret (.s [110,111,116,104,105,110,103]) s:=by
 refine CG (by simp) ?_
 simp [af,jW]
@[simp] theorem adO (c:C) (s:St) (cx:Ctx):aj P0 (.fn (.func gW) [] []) [PV,jR c] s cx=.ret (.s c.name) s:=by
 refine Dt (by simp) ?_
 simp [af,kV]
end Go.Ai.Z
namespace Go.Ai.Inj
open Go.Lib (itoa decDigits)
def ML (b:UInt8):Bool:=decide (48≤b.toNat) && decide (b.toNat≤57)
theorem yV:∀u:Nat,∀b∈decDigits u,ML b=true:=by
 intro u
 induction u using Nat.strongRecOn with
 | ind u ih=>
  rw [decDigits]
  split
  ·intro b hb
   simp at hb
   subst hb
   simp [ML,UInt8.toNat_ofNat']
   omega
  ·intro b hb
   rcases List.mem_append.1 hb with hb|hb
   ·exact ih (u / 10) (by omega) b hb
   ·simp at hb
    subst hb
    simp [ML,UInt8.toNat_ofNat']
    omega
theorem afx (u:Nat):decDigits u≠[]:=by rw [decDigits];split<;>simp
def Stops (p:UInt8→Bool) (u:List UInt8):Prop:=∀b r,u=b::r→p b=false
end Go.Ai.Inj
namespace Go.Ai.Z
open Go.Ai.Inj
def nameB (b:UInt8):Bool:=QO b || b == 58
theorem tJ:∀{l:List UInt8},JY l=true→∀b∈l,QO b=true
 | [],_,b,hb=>by cases hb
 | a::r,h,b,hb=>by
  rw [Si,Bool.and_eq_true] at h
  rcases List.mem_cons.1 hb with rfl|hb
  ·exact h.1
  ·exact tJ h.2 b hb
theorem vY {l:List UInt8} (h:CJ l=true):(∃b r,l=b::r∧YT b=true)∧JY l=true∧kwS l=false:=by
 unfold CJ at h
 simp only [Bool.and_eq_true,Bool.not_eq_true'] at h
 obtain ⟨⟨h1,h2⟩,h3⟩:=h
 refine ⟨?_,h2,h3⟩
 cases l with
 | nil=>cases h1
 | cons b r=>exact ⟨b,r,rfl,h1⟩
theorem aeU {l:List UInt8} (h:58∈l):kwS l=false:=by
 unfold kwS
 cases e:keywords.contains l with
 | false=>rfl
 | true=>
  have:l∈keywords:=by simpa using e
  have all:∀k∈keywords,(58:UInt8) ∉ k:=by decide
  exact absurd h (all l this)
structure Name (l:List UInt8):Prop where
 ne:l≠[]
 bytes:∀b∈l,nameB b=true
 kw:kwS l=false
theorem Tj {l:List UInt8} (h:jc l=true):Name l:=by
 unfold jc at h
 rw [Bool.and_eq_true] at h
 have h:=h.2
 split at h
 ·rename_i x y e
  have el:=nM e
  rw [Bool.and_eq_true] at h
  obtain ⟨⟨b,r,rfl,hb⟩,t1,_⟩:=vY h.1
  obtain ⟨_,t2,_⟩:=vY h.2
  refine ⟨by rw [el];simp,fun c hc=>?_,aeU (by rw [el];simp)⟩
  rw [el] at hc
  unfold nameB
  rcases List.mem_append.1 hc with hc|hc
  ·rw [tJ t1 c hc];rfl
  ·rcases List.mem_cons.1 hc with rfl|hc
   ·simp
   ·rw [tJ t2 c hc];rfl
 ·obtain ⟨⟨b,r,rfl,hb⟩,t1,k⟩:=vY h
  exact ⟨by simp,fun c hc=>by unfold nameB;rw [tJ t1 c hc];rfl,k⟩
end Go.Ai.Z
namespace Go.Ai.Z
open Go.Ai.Inj
open Go.Lib (itoa)
mutual
def nz:C→C
 | .mk k n l h _ ps=>.mk k n l h false (nzL ps)
def nzL:List C→List C
 | []=>[]
 | p::r=>nz p::nzL r
end
inductive View (c:C):Prop where
 | top (e:opS c=[101,118,101,114,121,116,104,105,110,103]) (z:nz c=.mk 1 [] 0 0 false [])
 | bot (e:opS c=[110,111,116,104,105,110,103]) (z:nz c=.mk 2 [] 0 0 false [])
 | nam (n:List UInt8) (hn:Name n) (e:opS c=n) (z:nz c=.mk 3 n 0 0 false [])
 | nom (n:List UInt8) (hn:∀b∈n,nameB b=true) (e:opS c=123::(n++[125])) (z:nz c=.mk 4 n 0 0 false [])
 | rng (n:List UInt8) (lo hi:Int) (hn:Name n) (e:opS c=n++(32::105::110::32::(itoa lo++(32::116::111::32::itoa hi)))) (z:nz c=.mk 7 n lo hi false [])
 | som (n:List UInt8) (a:C) (hn:Name n) (ha:a∈c.parts) (e:opS c=[115,111,109,101]++(32::(n++(32::opS a)))) (z:nz c=.mk 6 n 0 0 false [nz a])
 | and (h2:2≤c.parts.length) (e:opS c=40::(joinL alp (c.parts.map opS)++[41])) (z:nz c=.mk 5 [] 0 0 false (c.parts.map nz))
structure Word (c:C) (u w t:List UInt8):Prop where
 e:opS c++u=w++t
 b:∀x∈w,nameB x=true
 ne:w≠[]
 st:Stops nameB t
 d:(w=[101,118,101,114,121,116,104,105,110,103]∧t=u∧nz c=.mk 1 [] 0 0 false [])∨(w=[110,111,116,104,105,110,103]∧t=u∧nz c=.mk 2 [] 0 0 false [])∨
  (kwS w=false∧t=u∧nz c=.mk 3 w 0 0 false [])∨(kwS w=false∧∃lo hi,t=32::105::110::32::(itoa lo++(32::116::111::32::(itoa hi++u)))∧nz c=.mk 7 w lo hi false [])∨
  (w=[115,111,109,101]∧∃n a,Name n∧a∈c.parts∧t=32::(n++32::(opS a++u))∧nz c=.mk 6 n 0 0 false [nz a])
end Go.Ai.Z
namespace Go.Ai.Z
end Go.Ai.Z
namespace Go.Ai.Z
open Go.Lib (compareBytes)
theorem xR:∀(a b:List UInt8),compareBytes a b=0 ↔ a=b
 | [],[]=>by simp [compareBytes]
 | [],_::_=>by simp [compareBytes]
 | _::_,[]=>by simp [compareBytes]
 | a::x,b::y=>by
  unfold compareBytes
  by_cases h1:a<b
  ·simp [h1];intro h;subst h;exact absurd h1 (by simp)
  ·by_cases h2:b<a
   ·simp [h1,h2];intro h;subst h;exact absurd h2 (by simp)
   ·have hab:a=b:=by
     apply UInt8.toNat_inj.1
     have q1:¬a.toNat<b.toNat:=fun h=>h1 (UInt8.lt_iff_toNat_lt.2 h)
     have q2:¬b.toNat<a.toNat:=fun h=>h2 (UInt8.lt_iff_toNat_lt.2 h)
     omega
    subst hab
    simp [h1,xR x y]
end Go.Ai.Z
namespace Go.Ai.Z
open Go.Lib (compareBytes)
structure Cb {α:Type} (S:α→Prop) (f:α→α→Int):Prop where
 refl:∀a,S a→f a a=0
 anti:∀a b,S a→S b→(f a b<0 ↔ 0<f b a)
 trans:∀a b c,S a→S b→S c→f a b≤0→f b c≤0→f a c≤0
section
variable {α:Type} {S:α→Prop} {f g:α→α→Int}
theorem Cb.zero (h:Cb S f) {a b:α} (ha:S a) (hb:S b) (h0:f a b=0):f b a=0:=by
 have h1:=h.anti a b ha hb
 have h2:=h.anti b a hb ha
 omega
theorem Cb.subst (h:Cb S f) {a b c:α} (ha:S a) (hb:S b) (hc:S c) (h0:f a b=0):(f a c≤0 ↔ f b c≤0)∧(f c a≤0 ↔ f c b≤0):=by
 have h1:=h.zero ha hb h0
 exact ⟨⟨fun q=>h.trans b a c hb ha hc (by omega) q,fun q=>h.trans a b c ha hb hc (by omega) q⟩,⟨fun q=>h.trans c a b hc ha hb q (by omega),fun q=>h.trans c b a hc hb ha q (by omega)⟩⟩
theorem Cb.lt_trans (h:Cb S f) {a b c:α} (ha:S a) (hb:S b) (hc:S c) (h1:f a b<0) (h2:f b c≤0):f a c<0:=by
 have h3:=h.trans a b c ha hb hc (by omega) h2
 by_cases h0:f a c=0
 ·have h4:=h.zero ha hc h0
  have h5:=h.trans b c a hb hc ha h2 (by omega)
  have:=(h.anti a b ha hb).1 h1
  omega
 ·omega
theorem Cb.le_lt (h:Cb S f) {a b c:α} (ha:S a) (hb:S b) (hc:S c) (h1:f a b≤0) (h2:f b c<0):f a c<0:=by
 have h3:=h.trans a b c ha hb hc h1 (by omega)
 by_cases h0:f a c=0
 ·have h4:=h.zero ha hc h0
  have h5:=h.trans c a b hc ha hb (by omega) h1
  have:=(h.anti b c hb hc).1 h2
  omega
 ·omega
theorem Cb.lex (hf:Cb S f) (hg:Cb S g):Cb S (fun a b=>if f a b=0 then g a b else f a b) where
 refl a ha:=by simp [hf.refl a ha,hg.refl a ha]
 anti a b ha hb:=by
  have h1:=hf.anti a b ha hb
  have h2:=hf.anti b a hb ha
  have h3:=hg.anti a b ha hb
  by_cases h:f a b=0
  ·have h':f b a=0:=hf.zero ha hb h
   simp only [h,h',if_true];exact h3
  ·have h':f b a≠0:=fun h'=>h (hf.zero hb ha h')
   simp only [h,h',if_false];exact h1
 trans a b c ha hb hc:=by
  intro h1 h2
  by_cases e1:f a b=0
  ·by_cases e2:f b c=0
   ·have e3:f a c=0:=by
     have q1:=hf.trans a b c ha hb hc (by omega) (by omega)
     have q2:=hf.trans c b a hc hb ha (by have:=hf.zero hb hc e2;omega) (by have:=hf.zero ha hb e1;omega)
     have q3:=hf.anti a c ha hc
     have q4:=hf.anti c a hc ha
     omega
    simp only [e1,e2,e3,if_true] at h1 h2 ⊢
    exact hg.trans a b c ha hb hc h1 h2
   ·simp only [e2,if_false] at h2
    have:=hf.le_lt ha hb hc (by omega) (show f b c<0 by omega)
    have e3:f a c≠0:=by omega
    simp only [e3,if_false];omega
  ·simp only [e1,if_false] at h1
   have h2':f b c≤0:=by
    by_cases e2:f b c=0
    ·omega
    ·simpa only [e2,if_false] using h2
   have:=hf.lt_trans ha hb hc (show f a b<0 by omega) h2'
   have e3:f a c≠0:=by omega
   simp only [e3,if_false];omega
theorem Cb.pull {β:Type} {T:β→Prop} (h:Cb S f) (p:β→α) (hp:∀b,T b→S (p b)):Cb T (fun a b=>f (p a) (p b)):=
 ⟨fun a ha=>h.refl _ (hp a ha),fun a b ha hb=>h.anti _ _ (hp a ha) (hp b hb),fun a b c ha hb hc=>h.trans _ _ _ (hp a ha) (hp b hb) (hp c hc)⟩
theorem Cb.mono {T:α→Prop} (h:Cb S f) (hp:∀b,T b→S b):Cb T f:=h.pull id hp
end
theorem afz:Cb (fun _=>True) JW where
 refl a _:=by simp [JW]
 anti a b _ _:=by unfold JW;(repeat' split)<;>omega
 trans a b c _ _ _:=by unfold JW;(repeat' split)<;>omega
theorem aaP:Cb (fun _=>True) compareBytes:=by
 have h8:∀x y:UInt8,x<y ↔ x.toNat<y.toNat:=fun x y=>UInt8.lt_iff_toNat_lt
 have anti:∀a b:List UInt8,compareBytes a b<0 ↔ 0<compareBytes b a:=by
  intro a
  induction a with
  | nil=>intro b;cases b<;>simp [compareBytes]
  | cons x a ih=>
   intro b
   cases b with
   | nil=>simp [compareBytes]
   | cons y b=>
    simp only [compareBytes,h8]
    by_cases h1:x.toNat<y.toNat
    ·have:¬y.toNat<x.toNat:=by omega
     simp [h1,this]
    ·by_cases h2:y.toNat<x.toNat
     ·simp [h1,h2]
     ·simp only [h1,h2,if_false];exact ih b
 have trans:∀a b c:List UInt8,compareBytes a b≤0→compareBytes b c≤0→compareBytes a c≤0:=by
  intro a
  induction a with
  | nil=>intro b c _ _;cases c<;>simp [compareBytes]
  | cons x a ih=>
   intro b c h1 h2
   cases b with
   | nil=>simp [compareBytes] at h1
   | cons y b=>
    cases c with
    | nil=>simp [compareBytes] at h2
    | cons z c=>
     simp only [compareBytes,h8] at h1 h2 ⊢
     by_cases e1:x.toNat<y.toNat
     ·by_cases e2:y.toNat<z.toNat
      ·simp [show x.toNat<z.toNat by omega]
      ·by_cases e3:z.toNat<y.toNat
       ·simp [e2,e3] at h2
       ·simp [show x.toNat<z.toNat by omega]
     ·by_cases e1':y.toNat<x.toNat
      ·simp [e1,e1'] at h1
      ·simp only [e1,e1',if_false] at h1
       by_cases e2:y.toNat<z.toNat
       ·simp [show x.toNat<z.toNat by omega]
       ·by_cases e3:z.toNat<y.toNat
        ·simp [e2,e3] at h2
        ·simp only [e2,e3,if_false] at h2
         simp only [show ¬x.toNat<z.toNat by omega,show ¬z.toNat<x.toNat by omega,if_false]
         exact ih b c h1 h2
 exact ⟨fun a _=>(xR a a).2 rfl,fun a b _ _=>anti a b,fun a b c _ _ _=>trans a b c⟩
end Go.Ai.Z
