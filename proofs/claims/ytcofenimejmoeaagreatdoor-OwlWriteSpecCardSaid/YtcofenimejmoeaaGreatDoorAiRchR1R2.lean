/-
 Which roles are contained in which: rounds of a list of pairs reach all that can be reached.
-/
import Derived.Test.YtcofenimejmoeaaGreatDoorAiC1
import Derived.Test.YtcofenimejmoeaaGreatDoorAiK8K9K10K11K12
import Derived.Test.YtcofenimejmoeaaGreatDoorAiK1K2K3K4
set_option maxRecDepth 100000
set_option linter.unusedSimpArgs false
set_option linter.unusedVariables false
set_option linter.unusedSectionVars false
namespace Go.Ai
inductive Rch (E:List (List UInt8×List UInt8)):List UInt8→List UInt8→Prop where
 | refl (a:List UInt8):Rch E a a
 | step {a b c:List UInt8}:Rch E a b→(b,c)∈E→Rch E a c
theorem Rch.trans {E:List (List UInt8×List UInt8)} {a b c:List UInt8} (h:Rch E a b) (h':Rch E b c):Rch E a c:=by
 induction h' with
 | refl=>exact h
 | step _ he ih=>exact .step ih he
theorem Rch.one {E:List (List UInt8×List UInt8)} {a b:List UInt8} (h:(a,b)∈E):Rch E a b:=.step (.refl a) h
theorem Rch.mono {E E':List (List UInt8×List UInt8)} (hE:∀p∈E,p∈E') {a b:List UInt8} (h:Rch E a b):Rch E' a b:=by
 induction h with
 | refl=>exact .refl _
 | step _ he ih=>exact .step ih (hE _ he)
def Srt (l:List (List UInt8)):Prop:=l.Pairwise fun a b=>a<b
theorem Srt.nodup {l:List (List UInt8)} (h:Srt l):l.Nodup:=h.imp fun {a b} hab he=>by subst he;exact List.lt_irrefl a hab
theorem Srt.ext {l l':List (List UInt8)} (h:Srt l) (h':Srt l') (hm:∀x,x∈l ↔ x∈l'):l=l':=
 List.Perm.eq_of_pairwise (le:=fun a b=>a<b) (fun a b _ _ h1 h2=>absurd h2 (List.lt_asymm h1)) h h' ((List.perm_ext_iff_of_nodup h.nodup h'.nodup).2 hm)
theorem YQ {l:List (List UInt8)} (h:l.Nodup):Srt (sN l):=by
 have h1:=Dl l
 have h2:(sN l).Nodup:=(qO l).nodup_iff.2 h
 refine (h1.and h2).imp fun {a b} hab=>?_
 rcases List.le_iff_lt_or_eq.1 hab.1 with h|h
 ·exact h
 ·exact absurd h hab.2
theorem Oe:∀{l:List (List UInt8)},Srt l→FK l=true
 | [],_=>rfl
 | [a],_=>rfl
 | a::b::r,h=>by
  obtain ⟨h1,h2⟩:=List.pairwise_cons.1 h
  simp only [FK,Bool.and_eq_true,decide_eq_true_eq]
  exact ⟨h1 b (by simp),Oe h2⟩
def kS (l:List (List UInt8)) (s:List UInt8):List (List UInt8):=
 if s∈l then l else l.takeWhile (fun x=>decide (x<s))++s::l.dropWhile (fun x=>decide (x<s))
theorem FO {l:List (List UInt8)} {s x:List UInt8}:x∈kS l s ↔ x=s∨x∈l:=by
 unfold kS
 split
 ·rename_i h
  constructor
  ·exact .inr
  ·rintro (rfl|h');exact h;exact h'
 ·have:x∈l ↔ x∈l.takeWhile (fun x=>decide (x<s))∨x∈l.dropWhile (fun x=>decide (x<s)):=by
   rw [←List.mem_append,List.takeWhile_append_dropWhile]
  rw [this]
  simp only [List.mem_append,List.mem_cons]
  constructor
  ·rintro (h|h|h);exact .inr (.inl h);exact .inl h;exact .inr (.inr h)
  ·rintro (h|h|h);exact .inr (.inl h);exact .inl h;exact .inr (.inr h)
theorem U4 {s:List UInt8}:∀{l:List (List UInt8)},Srt l→s ∉ l→∀x∈l.dropWhile (fun x=>decide (x<s)),s<x
 | [],_,_,x,hx=>by simp at hx
 | a::r,h,hn,x,hx=>by
  obtain ⟨h1,h2⟩:=List.pairwise_cons.1 h
  simp only [List.dropWhile_cons] at hx
  split at hx
  ·exact U4 h2 (fun hm=>hn (by simp [hm])) x hx
  ·rename_i hlt
   have hlt':¬a<s:=by simpa using hlt
   have hsa:s<a:=by
    rcases List.le_iff_lt_or_eq.1 (List.not_lt.1 hlt') with h|h
    ·exact h
    ·exact absurd (by simp [h]) hn
   rcases List.mem_cons.1 hx with rfl|hx
   ·exact hsa
   ·exact List.lt_trans hsa (h1 x hx)
theorem Sm {l:List (List UInt8)} {s:List UInt8} (h:Srt l):Srt (kS l s):=by
 unfold kS
 split
 ·exact h
 ·rename_i hn
  have h0:Srt (l.takeWhile (fun x=>decide (x<s))++l.dropWhile (fun x=>decide (x<s))):=by rw [List.takeWhile_append_dropWhile];exact h
  obtain ⟨h1,h2,h3⟩:=List.pairwise_append.1 h0
  have ht:∀a∈l.takeWhile (fun x=>decide (x<s)),a<s:=fun a ha=>by
   have:=List.all_eq_true.1 (List.all_takeWhile (p:=fun x=>decide (x<s)) (l:=l)) a ha
   simpa using this
  have hd:=U4 h hn
  refine List.pairwise_append.2 ⟨h1,List.pairwise_cons.2 ⟨hd,h2⟩,fun a ha b hb=>?_⟩
  rcases List.mem_cons.1 hb with rfl|hb
  ·exact ht a ha
  ·exact h3 a ha b hb
end Go.Ai
namespace Go.Ai.Z
theorem rQ:∀(x y:List UInt8),Op.bytesLess x y=decide (x<y)
 | [],[]=>by simp [Op.bytesLess]
 | [],y::ys=>by simp [Op.bytesLess]
 | x::xs,[]=>by simp [Op.bytesLess]
 | x::xs,y::ys=>by
  have ih:=rQ xs ys
  simp only [Op.bytesLess,ih,List.cons_lt_cons_iff]
  by_cases h1:x<y
  ·simp [h1]
  ·by_cases h2:x=y
   ·subst h2;simp [h1]
   ·simp [h1,h2]
theorem RJ (l:List (List UInt8)) (x:List UInt8):(kS l x).length≤l.length+1:=by
 unfold kS
 split
 ·omega
 ·have:=congrArg List.length (List.takeWhile_append_dropWhile (p:=fun y=>decide (y<x)) (l:=l))
  rw [List.length_append] at this
  simp only [List.length_append,List.length_cons];omega
def rP:List Ax→Int
 | []=>0
 | x::r=>if jP x=0 then rP r else jP x
end Go.Ai.Z
namespace Go.Ai.Z
def uf (V:List (List UInt8)):List (AV×AV):=V.map fun x=>(.s x,.b true)
theorem SN {k:List UInt8}:∀{V:List (List UInt8)},k ∉ V→Dh 1 (.s k) (.b true) (uf V)=some (uf (V++[k]))
 | [],_=>rfl
 | x::V,h=>by
  simp only [List.mem_cons,not_or] at h
  have ih:=SN (V:=V) h.2
  simp only [uf] at ih ⊢
  simp [Dh,o9,h.1,ih]
def SlV (v:AV) (vs:List (List UInt8)):Prop:=(v=.ns∧vs=[])∨v=.sl (vs.map .s)∨∃r,v=.st r (vs.map .s)
theorem SlV.elems {v:AV} {vs:List (List UInt8)} (h:SlV v vs) (env:Env):uz env (some (.v v))=some (vs.map .s):=by
 rcases h with ⟨rfl,rfl⟩|rfl|⟨r,rfl⟩<;>rfl
theorem SlV.plain {v:AV} {vs:List (List UInt8)} (h:SlV v vs) (hne:vs≠[]):v.plain=.sl (vs.map .s):=by
 rcases h with ⟨_,rfl⟩|rfl|⟨r,rfl⟩
 ·exact absurd rfl hne
 ·rfl
 ·rfl
@[simp] theorem ahZ {s:St} {a b:gG}:(s++[a,b])[s.length]?=some a:=by simp
@[simp] theorem ahY {s:St} {a b:gG}:(s++[a,b])[s.length+1]?=some b:=by simp
@[simp] theorem ahf {s:St} {a b c:gG}:(s++[a,b]).set s.length c=s++[c,b]:=by simp
@[simp] theorem ahe {s:St} {a b c:gG}:(s++[a,b]).set (s.length+1) c=s++[a,c]:=by
 rw [List.set_append,if_neg (by omega)];simp
@[simp] theorem aes {env:Env} {l ver sz o n:Nat}:uz env (some (.v (.sk l ver sz o n)))=none:=rfl
end Go.Ai.Z
