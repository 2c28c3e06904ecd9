/-
 The order of concepts is an order; sorted lists of concepts are unique.
-/
import Derived.Test.YtalbhlfigmlddaaGreatDoorAiK5K6K7InjInj2Inj3Inj4KI
import Derived.Test.YtalbhlfigmlddaaGreatDoorAiKGKH
set_option maxRecDepth 100000
set_option linter.unusedSimpArgs false
set_option linter.unusedVariables false
set_option linter.unusedSectionVars false
namespace Go.Ai.Z
open Go.Lib (compareBytes)
structure zT {α:Type} (S:α→Prop) (f:α→α→Int):Prop where
 refl:∀a,S a→f a a=0
 anti:∀a b,S a→S b→(f a b<0 ↔ 0<f b a)
 trans:∀a b c,S a→S b→S c→f a b≤0→f b c≤0→f a c≤0
section
variable {α:Type} {S:α→Prop} {f g:α→α→Int}
theorem zT.zero (h:zT S f) {a b:α} (ha:S a) (hb:S b) (h0:f a b=0):f b a=0:=by
 have h1:=h.anti a b ha hb
 have h2:=h.anti b a hb ha
 omega
theorem zT.subst (h:zT S f) {a b c:α} (ha:S a) (hb:S b) (hc:S c) (h0:f a b=0):(f a c≤0 ↔ f b c≤0)∧(f c a≤0 ↔ f c b≤0):=by
 have h1:=h.zero ha hb h0
 exact ⟨⟨fun q=>h.trans b a c hb ha hc (by omega) q,fun q=>h.trans a b c ha hb hc (by omega) q⟩,⟨fun q=>h.trans c a b hc ha hb q (by omega),fun q=>h.trans c b a hc hb ha q (by omega)⟩⟩
theorem zT.lt_trans (h:zT S f) {a b c:α} (ha:S a) (hb:S b) (hc:S c) (h1:f a b<0) (h2:f b c≤0):f a c<0:=by
 have h3:=h.trans a b c ha hb hc (by omega) h2
 by_cases h0:f a c=0
 ·have h4:=h.zero ha hc h0
  have h5:=h.trans b c a hb hc ha h2 (by omega)
  have:=(h.anti a b ha hb).1 h1
  omega
 ·omega
theorem zT.le_lt (h:zT S f) {a b c:α} (ha:S a) (hb:S b) (hc:S c) (h1:f a b≤0) (h2:f b c<0):f a c<0:=by
 have h3:=h.trans a b c ha hb hc h1 (by omega)
 by_cases h0:f a c=0
 ·have h4:=h.zero ha hc h0
  have h5:=h.trans c a b hc ha hb (by omega) h1
  have:=(h.anti b c hb hc).1 h2
  omega
 ·omega
theorem zT.lex (hf:zT S f) (hg:zT S g):zT S (fun a b=>if f a b=0 then g a b else f a b) where
 refl a ha:=by simp [hf.refl a ha,hg.refl a ha]
 anti a b ha hb:=by
  have h1:=hf.anti a b ha hb
  have h2:=hf.anti b a hb ha
  have h3:=hg.anti a b ha hb
  by_cases h:f a b=0
  ·have h':f b a=0:=hf.zero ha hb h
   simp only [h,h',if_true];exact h3
  ·have h':f b a≠0:=fun h'=>h (hf.zero hb ha h')
   simp only [h,h',if_false];exact h1
 trans a b c ha hb hc:=by
  intro h1 h2
  by_cases e1:f a b=0
  ·by_cases e2:f b c=0
   ·have e3:f a c=0:=by
     have q1:=hf.trans a b c ha hb hc (by omega) (by omega)
     have q2:=hf.trans c b a hc hb ha (by have:=hf.zero hb hc e2;omega) (by have:=hf.zero ha hb e1;omega)
     have q3:=hf.anti a c ha hc
     have q4:=hf.anti c a hc ha
     omega
    simp only [e1,e2,e3,if_true] at h1 h2 ⊢
    exact hg.trans a b c ha hb hc h1 h2
   ·simp only [e2,if_false] at h2
    have:=hf.le_lt ha hb hc (by omega) (show f b c<0 by omega)
    have e3:f a c≠0:=by omega
    simp only [e3,if_false];omega
  ·simp only [e1,if_false] at h1
   have h2':f b c≤0:=by
    by_cases e2:f b c=0
    ·omega
    ·simpa only [e2,if_false] using h2
   have:=hf.lt_trans ha hb hc (show f a b<0 by omega) h2'
   have e3:f a c≠0:=by omega
   simp only [e3,if_false];omega
theorem zT.pull {β:Type} {T:β→Prop} (h:zT S f) (p:β→α) (hp:∀b,T b→S (p b)):zT T (fun a b=>f (p a) (p b)):=
 ⟨fun a ha=>h.refl _ (hp a ha),fun a b ha hb=>h.anti _ _ (hp a ha) (hp b hb),fun a b c ha hb hc=>h.trans _ _ _ (hp a ha) (hp b hb) (hp c hc)⟩
theorem zT.mono {T:α→Prop} (h:zT S f) (hp:∀b,T b→S b):zT T f:=h.pull id hp
end
theorem ada:zT (fun _=>True) xI where
 refl a _:=by simp [xI]
 anti a b _ _:=by unfold xI;(repeat' split)<;>omega
 trans a b c _ _ _:=by unfold xI;(repeat' split)<;>omega
theorem Yl:zT (fun _=>True) compareBytes:=by
 have h8:∀x y:UInt8,x<y ↔ x.toNat<y.toNat:=fun x y=>UInt8.lt_iff_toNat_lt
 have anti:∀a b:List UInt8,compareBytes a b<0 ↔ 0<compareBytes b a:=by
  intro a
  induction a with
  | nil=>intro b;cases b<;>simp [compareBytes]
  | cons x a ih=>
   intro b
   cases b with
   | nil=>simp [compareBytes]
   | cons y b=>
    simp only [compareBytes,h8]
    by_cases h1:x.toNat<y.toNat
    ·have:¬y.toNat<x.toNat:=by omega
     simp [h1,this]
    ·by_cases h2:y.toNat<x.toNat
     ·simp [h1,h2]
     ·simp only [h1,h2,if_false];exact ih b
 have trans:∀a b c:List UInt8,compareBytes a b≤0→compareBytes b c≤0→compareBytes a c≤0:=by
  intro a
  induction a with
  | nil=>intro b c _ _;cases c<;>simp [compareBytes]
  | cons x a ih=>
   intro b c h1 h2
   cases b with
   | nil=>simp [compareBytes] at h1
   | cons y b=>
    cases c with
    | nil=>simp [compareBytes] at h2
    | cons z c=>
     simp only [compareBytes,h8] at h1 h2 ⊢
     by_cases e1:x.toNat<y.toNat
     ·by_cases e2:y.toNat<z.toNat
      ·simp [show x.toNat<z.toNat by omega]
      ·by_cases e3:z.toNat<y.toNat
       ·simp [e2,e3] at h2
       ·simp [show x.toNat<z.toNat by omega]
     ·by_cases e1':y.toNat<x.toNat
      ·simp [e1,e1'] at h1
      ·simp only [e1,e1',if_false] at h1
       by_cases e2:y.toNat<z.toNat
       ·simp [show x.toNat<z.toNat by omega]
       ·by_cases e3:z.toNat<y.toNat
        ·simp [e2,e3] at h2
        ·simp only [e2,e3,if_false] at h2
         simp only [show ¬x.toNat<z.toNat by omega,show ¬z.toNat<x.toNat by omega,if_false]
         exact ih b c h1 h2
 exact ⟨fun a _=>(nP a a).2 rfl,fun a b _ _=>anti a b,fun a b c _ _ _=>trans a b c⟩
end Go.Ai.Z
namespace Go.Ai.Z
open Go.Lib (compareBytes)
@[simp] theorem abd (a:Int) (s:St) (cx:Ctx):aj Pq (.fn (.func jK) [] []) [.i .i64 a] s cx=.ret (.b false) s:=by
 refine Jo (by simp) ?_
 simp [af,lT]
@[simp] theorem YN (a b:Int) (s:St) (cx:Ctx):aj Pq (.fn (.func gy) [] []) [.i .i64 a,.i .i64 b] s cx=.ret (.i .i64 (xI a b)) s:=by
 refine F9 (by simp) ?_
 unfold xI
 by_cases h1:a<b
 ·simp [af,eH,h1]
 ·by_cases h2:b<a
  ·simp [af,eH,h1,h2]
  ·simp [af,eH,h1,h2]
end Go.Ai.Z
