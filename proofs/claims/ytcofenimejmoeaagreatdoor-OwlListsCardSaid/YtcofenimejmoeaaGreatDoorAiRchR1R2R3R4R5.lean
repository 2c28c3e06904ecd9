/-
 Which roles are contained in which: rounds of a list of pairs reach all that can be reached.
-/
import Derived.Test.YtcofenimejmoeaaGreatDoorAiC1
import Derived.Test.YtcofenimejmoeaaGreatDoorAiK8K9K10K11K12
import Derived.Test.YtcofenimejmoeaaGreatDoorAiK1K2K3K4K5K6K7
set_option maxRecDepth 100000
set_option linter.unusedSimpArgs false
set_option linter.unusedVariables false
set_option linter.unusedSectionVars false
namespace Go.Ai
inductive Rch (E:List (Rl×Rl)):Rl→Rl→Prop where
 | refl (a:Rl):Rch E a a
 | step {a b c:Rl}:Rch E a b→(b,c)∈E→Rch E a c
theorem Rch.trans {E:List (Rl×Rl)} {a b c:Rl} (h:Rch E a b) (h':Rch E b c):Rch E a c:=by
 induction h' with
 | refl=>exact h
 | step _ he ih=>exact .step ih he
theorem Rch.one {E:List (Rl×Rl)} {a b:Rl} (h:(a,b)∈E):Rch E a b:=.step (.refl a) h
theorem Rch.mono {E E':List (Rl×Rl)} (hE:∀p∈E,p∈E') {a b:Rl} (h:Rch E a b):Rch E' a b:=by
 induction h with
 | refl=>exact .refl _
 | step _ he ih=>exact .step ih (hE _ he)
def Srt (l:List Rl):Prop:=l.Pairwise fun a b=>a<b
theorem Srt.nodup {l:List Rl} (h:Srt l):l.Nodup:=h.imp fun {a b} hab he=>by subst he;exact List.lt_irrefl a hab
theorem Srt.ext {l l':List Rl} (h:Srt l) (h':Srt l') (hm:∀x,x∈l ↔ x∈l'):l=l':=
 List.Perm.eq_of_pairwise (le:=fun a b=>a<b) (fun a b _ _ h1 h2=>absurd h2 (List.lt_asymm h1)) h h' ((List.perm_ext_iff_of_nodup h.nodup h'.nodup).2 hm)
def y8 (l:List Rl) (s:Rl):List Rl:=
 if s∈l then l else l.takeWhile (fun x=>decide (x<s))++s::l.dropWhile (fun x=>decide (x<s))
theorem Xm {l:List Rl} {s x:Rl}:x∈y8 l s ↔ x=s∨x∈l:=by
 unfold y8;split
 ·rename_i h;constructor
  ·exact .inr
  ·rintro (rfl|h');exact h;exact h'
 ·have:x∈l ↔ x∈l.takeWhile (fun x=>decide (x<s))∨x∈l.dropWhile (fun x=>decide (x<s)):=by
   rw [←List.mem_append,List.takeWhile_append_dropWhile]
  rw [this];simp only [List.mem_append,List.mem_cons];constructor
  ·rintro (h|h|h);exact .inr (.inl h);exact .inl h;exact .inr (.inr h)
  ·rintro (h|h|h);exact .inr (.inl h);exact .inl h;exact .inr (.inr h)
theorem Rz {s:Rl}:∀{l:List Rl},Srt l→s ∉ l→∀x∈l.dropWhile (fun x=>decide (x<s)),s<x
 | [],_,_,x,hx=>by simp at hx
 | a::r,h,hn,x,hx=>by
  obtain ⟨h1,h2⟩:=List.pairwise_cons.1 h;simp only [List.dropWhile_cons] at hx
  split at hx
  ·exact Rz h2 (fun hm=>hn (by simp [hm])) x hx
  ·rename_i hlt;have hlt':¬a<s:=by simpa using hlt
   have hsa:s<a:=by
    rcases List.le_iff_lt_or_eq.1 (List.not_lt.1 hlt') with h|h
    ·exact h
    ·exact absurd (by simp [h]) hn
   rcases List.mem_cons.1 hx with rfl|hx
   ·exact hsa
   ·exact List.lt_trans hsa (h1 x hx)
theorem WV {l:List Rl} {s:Rl} (h:Srt l):Srt (y8 l s):=by
 unfold y8;split
 ·exact h
 ·rename_i hn;have h0:Srt (l.takeWhile (fun x=>decide (x<s))++l.dropWhile (fun x=>decide (x<s))):=by rw [List.takeWhile_append_dropWhile];exact h
  obtain ⟨h1,h2,h3⟩:=List.pairwise_append.1 h0
  have ht:∀a∈l.takeWhile (fun x=>decide (x<s)),a<s:=fun a ha=>by
   have:=List.all_eq_true.1 (List.all_takeWhile (p:=fun x=>decide (x<s)) (l:=l)) a ha
   simpa using this
  have hd:=Rz h hn;refine List.pairwise_append.2 ⟨h1,List.pairwise_cons.2 ⟨hd,h2⟩,fun a ha b hb=>?_⟩;rcases List.mem_cons.1 hb with rfl|hb
  ·exact ht a ha
  ·exact h3 a ha b hb
end Go.Ai
namespace Go.Ai.Z
theorem WR (l:List Rl) (x:Rl):(y8 l x).length≤l.length+1:=by
 unfold y8;split
 ·omega
 ·have:=congrArg List.length (List.takeWhile_append_dropWhile (p:=fun y=>decide (y<x)) (l:=l))
  rw [List.length_append] at this;simp only [List.length_append,List.length_cons];omega
end Go.Ai.Z
namespace Go.Ai.Z
def qH (V:List Rl):List (AV×AV):=V.map fun x=>(.s x,.b true)
theorem zG (k:Rl):∀V:List Rl,find 1 (.s k) (qH V)=some (if k∈V then some (.b true) else none)
 | []=>rfl
 | x::V=>by
  have ih:=zG k V;simp only [qH] at ih ⊢;by_cases h:k=x
  ·subst h;simp [find,jQ]
  ·simp [find,jQ,h,ih]
theorem Pm {k:Rl}:∀{V:List Rl},k ∉ V→Af 1 (.s k) (.b true) (qH V)=some (qH (V++[k]))
 | [],_=>rfl
 | x::V,h=>by
  simp only [List.mem_cons,not_or] at h;have ih:=Pm (V:=V) h.2;simp only [qH] at ih ⊢;simp [Af,jQ,h.1,ih]
def SlV (v:AV) (vs:List Rl):Prop:=(v=.ns∧vs=[])∨v=.sl (vs.map .s)∨∃r,v=.st r (vs.map .s)
theorem SlV.elems {v:AV} {vs:List Rl} (h:SlV v vs) (env:Env):tC env (some (.v v))=some (vs.map .s):=by
 rcases h with ⟨rfl,rfl⟩|rfl|⟨r,rfl⟩<;>rfl
theorem SlV.plain {v:AV} {vs:List Rl} (h:SlV v vs) (hne:vs≠[]):v.plain=.sl (vs.map .s):=by
 rcases h with ⟨_,rfl⟩|rfl|⟨r,rfl⟩
 ·exact absurd rfl hne
 ·rfl
 ·rfl
@[simp] theorem ahM {s:St} {a b:fE}:(s++[a,b])[s.length]?=some a:=by simp
@[simp] theorem ahL {s:St} {a b:fE}:(s++[a,b])[s.length+1]?=some b:=by simp
@[simp] theorem ag1 {s:St} {a b c:fE}:(s++[a,b]).set s.length c=s++[c,b]:=by simp
@[simp] theorem ag0 {s:St} {a b c:fE}:(s++[a,b]).set (s.length+1) c=s++[a,c]:=by
 rw [List.set_append,if_neg (by omega)];simp
@[simp] theorem adR {env:Env} {l ver sz o n:Nat}:tC env (some (.v (.sk l ver sz o n)))=none:=rfl
theorem Ti (ks0:List Nat) (env:Env):∀ks:List Nat,(∀k∈ks,k∈ks0)→fQ (fQ env ks0) ks=fQ env ks:=by
 have hl:∀(ks:List Nat) (k:Nat),lk (fQ env ks) k=if k∈ks then (match lk env k with|some e=>bif e.isRef then none else some e|none=>none) else none:=by
  intro ks
  induction ks with
  | nil=>intro k;simp [fQ,lk]
  | cons a r ih=>
   intro k;by_cases hk:k=a
   ·subst hk
    cases hc:lk env k with
    | none=>simp only [fQ,ih,hc,ite_self]
    | some e=>
     cases hr:e.isRef with
     | true=>simp only [fQ,hr,if_true,ih,hc,cond_true,ite_self]
     | false=>simp only [fQ,hr,hc,lk,if_true,if_false,Bool.false_eq_true,cond_false,List.mem_cons,true_or]
   ·have hk':¬a=k:=fun h=>hk h.symm
    cases hc:lk env a with
    | none=>simp only [fQ,ih,hc,List.mem_cons,hk,false_or]
    | some e=>
     cases hr:e.isRef with
     | true=>simp only [fQ,hr,if_true,ih,hc,List.mem_cons,hk,false_or]
     | false=>simp only [fQ,hr,hc,lk,if_false,Bool.false_eq_true,ih,List.mem_cons,hk,hk',false_or]
 intro ks
 induction ks with
 | nil=>intro _;rfl
 | cons a r ih=>
  intro h;have ha:=h a (by simp);have ih:=ih fun k hk=>h k (by simp [hk]);simp only [fQ,hl ks0 a,ha,if_true,ih]
  cases lk env a with
  | none=>rfl
  | some e=>cases hr:e.isRef with
   | true=>simp only [hr,cond_true,if_true]
   | false=>simp only [cond_false,hr,Bool.false_eq_true,if_false]
theorem Fe (body:Env→St→Out) (keep:List Nat) (env:Env) (s:St):jw body keep env s=jw body keep (fQ env keep) s:=by
 rw [GH,GH body keep (fQ env keep),Ti keep env keep fun _ h=>h]
end Go.Ai.Z
namespace Go.Ai.Z
abbrev SM:=List (Rl×List Rl)
def afa (G:SM):St:=G.map fun p=>.row aB 1 p.2.length
@[simp] theorem ae9 (G:SM):(afa G).length=G.length:=by simp [afa]
@[simp] theorem ahK {s r:St} {a:fE}:(s++a::r)[s.length]?=some a:=by simp
@[simp] theorem agA {s r:St} {a b:fE}:(s++a::r).set s.length b=s++b::r:=by simp
end Go.Ai.Z
namespace Go.Ai.Z
end Go.Ai.Z
namespace Go.Ai.Z
end Go.Ai.Z
