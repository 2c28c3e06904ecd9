/-
 Which roles are contained in which: rounds of a list of pairs reach all that can be reached.
-/
import Derived.Test.YtalbhlfigmlddaaGreatDoorAiC1
import Derived.Test.YtalbhlfigmlddaaGreatDoorAiK9K10K11K12
import Derived.Test.YtalbhlfigmlddaaGreatDoorAiK1K2
set_option maxRecDepth 100000
set_option linter.unusedSimpArgs false
set_option linter.unusedVariables false
set_option linter.unusedSectionVars false
namespace Go.Ai
inductive Rch (E:List (List UInt8×List UInt8)):List UInt8→List UInt8→Prop where
 | refl (a:List UInt8):Rch E a a
 | step {a b c:List UInt8}:Rch E a b→(b,c)∈E→Rch E a c
theorem Rch.trans {E:List (List UInt8×List UInt8)} {a b c:List UInt8} (h:Rch E a b) (h':Rch E b c):Rch E a c:=by
 induction h' with
 | refl=>exact h
 | step _ he ih=>exact .step ih he
theorem Rch.one {E:List (List UInt8×List UInt8)} {a b:List UInt8} (h:(a,b)∈E):Rch E a b:=.step (.refl a) h
theorem Rch.mono {E E':List (List UInt8×List UInt8)} (hE:∀p∈E,p∈E') {a b:List UInt8} (h:Rch E a b):Rch E' a b:=by
 induction h with
 | refl=>exact .refl _
 | step _ he ih=>exact .step ih (hE _ he)
def tZ (E:List (List UInt8×List UInt8)):List (List UInt8×List UInt8):=E.map fun p=>(p.2,p.1)
theorem ZW {E:List (List UInt8×List UInt8)} {a b:List UInt8}:(a,b)∈tZ E ↔ (b,a)∈E:=by
 simp only [tZ,List.mem_map,Prod.mk.injEq]
 constructor
 ·rintro ⟨⟨x,y⟩,h,rfl,rfl⟩;exact h
 ·intro h;exact ⟨(b,a),h,rfl,rfl⟩
theorem Rch.flip {E:List (List UInt8×List UInt8)} {a b:List UInt8} (h:Rch E a b):Rch (tZ E) b a:=by
 induction h with
 | refl=>exact .refl _
 | step _ he ih=>exact (Rch.one (ZW.2 he)).trans ih
theorem WJ (E:List (List UInt8×List UInt8)):tZ (tZ E)=E:=by simp [tZ,Function.comp_def]
theorem Rch.flip_iff {E:List (List UInt8×List UInt8)} {a b:List UInt8}:Rch (tZ E) a b ↔ Rch E b a:=
 ⟨fun h=>by have:=h.flip;rwa [WJ] at this,fun h=>h.flip⟩
def Srt (l:List (List UInt8)):Prop:=l.Pairwise fun a b=>a<b
theorem Srt.nodup {l:List (List UInt8)} (h:Srt l):l.Nodup:=h.imp fun {a b} hab he=>by subst he;exact List.lt_irrefl a hab
theorem Srt.ext {l l':List (List UInt8)} (h:Srt l) (h':Srt l') (hm:∀x,x∈l ↔ x∈l'):l=l':=
 List.Perm.eq_of_pairwise (le:=fun a b=>a<b) (fun a b _ _ h1 h2=>absurd h2 (List.lt_asymm h1)) h h' ((List.perm_ext_iff_of_nodup h.nodup h'.nodup).2 hm)
def LX (l:List (List UInt8)) (s:List UInt8):List (List UInt8):=
 if s∈l then l else l.takeWhile (fun x=>decide (x<s))++s::l.dropWhile (fun x=>decide (x<s))
theorem yU {l:List (List UInt8)} {s x:List UInt8}:x∈LX l s ↔ x=s∨x∈l:=by
 unfold LX
 split
 ·rename_i h
  constructor
  ·exact .inr
  ·rintro (rfl|h');exact h;exact h'
 ·have:x∈l ↔ x∈l.takeWhile (fun x=>decide (x<s))∨x∈l.dropWhile (fun x=>decide (x<s)):=by
   rw [←List.mem_append,List.takeWhile_append_dropWhile]
  rw [this]
  simp only [List.mem_append,List.mem_cons]
  constructor
  ·rintro (h|h|h);exact .inr (.inl h);exact .inl h;exact .inr (.inr h)
  ·rintro (h|h|h);exact .inr (.inl h);exact .inl h;exact .inr (.inr h)
def upR (E:List (List UInt8×List UInt8)) (out:List (List UInt8)):List (List UInt8):=E.foldl (fun out p=>if p.1∈out then LX out p.2 else out) out
def upN (E:List (List UInt8×List UInt8)):Nat→List (List UInt8)→List (List UInt8)
 | 0,out=>out
 | n+1,out=>upN E n (upR E out)
theorem Oh {E:List (List UInt8×List UInt8)}:∀{out:List (List UInt8)},∀x∈out,x∈upR E out:=by
 unfold upR
 induction E with
 | nil=>intro out x hx;exact hx
 | cons p E ih=>
  intro out x hx
  simp only [List.foldl_cons]
  apply ih
  split
  ·exact yU.2 (.inr hx)
  ·exact hx
theorem Zz {E0:List (List UInt8×List UInt8)} {a:List UInt8}:∀{E:List (List UInt8×List UInt8)},(∀p∈E,p∈E0)→∀{out:List (List UInt8)},(∀x∈out,Rch E0 a x)→∀x∈upR E out,Rch E0 a x:=by
 intro E
 unfold upR
 induction E with
 | nil=>intro _ out h x hx;exact h x hx
 | cons p E ih=>
  intro hE out h x hx
  simp only [List.foldl_cons] at hx
  refine ih (fun q hq=>hE q (by simp [hq])) (fun y hy=>?_) x hx
  split at hy
  ·rename_i hp
   rcases yU.1 hy with rfl|hy
   ·exact .step (h _ hp) (hE p (by simp))
   ·exact h y hy
  ·exact h y hy
theorem adx {E:List (List UInt8×List UInt8)}:∀{out:List (List UInt8)} {r s:List UInt8},(r,s)∈E→r∈out→s∈upR E out:=by
 unfold upR
 induction E with
 | nil=>intro out r s h;simp at h
 | cons p E ih=>
  intro out r s h hr
  simp only [List.foldl_cons]
  rcases List.mem_cons.1 h with rfl|h
  ·simp only [hr,if_true]
   exact Oh (E:=E) _ (yU.2 (.inl rfl))
  ·refine ih h ?_
   split
   ·exact yU.2 (.inr hr)
   ·exact hr
theorem Uc {E:List (List UInt8×List UInt8)}:∀(n:Nat) {out:List (List UInt8)},∀x∈out,x∈upN E n out
 | 0,_,_,h=>h
 | n+1,_,x,h=>Uc n x (Oh x h)
theorem Sv {E:List (List UInt8×List UInt8)} {a:List UInt8}:∀(n:Nat) {out:List (List UInt8)},(∀x∈out,Rch E a x)→∀x∈upN E n out,Rch E a x
 | 0,_,h=>h
 | n+1,_,h=>Sv n (Zz (fun _ h=>h) h)
def Ac (E:List (List UInt8×List UInt8)) (out:List (List UInt8)):Prop:=∀r s,(r,s)∈E→r∈out→s∈out
theorem Ac.rch {E:List (List UInt8×List UInt8)} {out:List (List UInt8)} (h:Ac E out) {a x:List UInt8} (hr:Rch E a x) (ha:a∈out):x∈out:=by
 induction hr with
 | refl=>exact ha
 | step _ he ih=>exact h _ _ he ih
theorem QK {E:List (List UInt8×List UInt8)} {out:List (List UInt8)} (h:∀x∈upR E out,x∈out):Ac E out:=fun _ _ he hr=>h _ (adx he hr)
theorem XB {E:List (List UInt8×List UInt8)}:∀(n:Nat) {out:List (List UInt8)},Ac E out→∀x∈upN E n out,x∈out:=by
 have one:∀{out:List (List UInt8)},Ac E out→∀x∈upR E out,x∈out:=by
  intro out hc
  have:∀(E':List (List UInt8×List UInt8)),(∀p∈E',p∈E)→∀out':List (List UInt8),(∀x,x∈out' ↔ x∈out)→∀x∈upR E' out',x∈out:=by
   intro E'
   unfold upR
   induction E' with
   | nil=>intro _ out' h x hx;exact (h x).1 hx
   | cons p E' ih=>
    intro hE out' h x hx
    simp only [List.foldl_cons] at hx
    refine ih (fun q hq=>hE q (by simp [hq])) _ (fun y=>?_) x hx
    split
    ·rename_i hp
     rw [yU,h y]
     exact ⟨fun hy=>by rcases hy with rfl|hy;exact hc _ _ (hE p (by simp)) ((h _).1 hp);exact hy,.inr⟩
    ·exact h y
  exact this E (fun _ h=>h) out (fun _=>Iff.rfl)
 intro n
 induction n with
 | zero=>intro out _ x hx;exact hx
 | succ n ih=>
  intro out hc x hx
  have hsame:∀y,y∈upR E out ↔ y∈out:=fun y=>⟨one hc y,Oh y⟩
  have hc':Ac E (upR E out):=fun r s he hr=>(hsame s).2 (hc r s he ((hsame r).1 hr))
  exact (hsame x).1 (ih hc' x hx)
def UH (E:List (List UInt8×List UInt8)) (out:List (List UInt8)):Nat:=(E.filter fun p=>decide (p.2∈out)).length
theorem aag {E:List (List UInt8×List UInt8)} {out out':List (List UInt8)} (h:∀x∈out,x∈out'):UH E out≤UH E out':=by
 unfold UH
 induction E with
 | nil=>simp
 | cons p E ih=>
  simp only [List.filter_cons]
  by_cases h1:p.2∈out
  ·simp [h1,h _ h1];exact ih
  ·by_cases h2:p.2∈out'<;>simp [h1,h2]<;>omega
theorem ad1 {E:List (List UInt8×List UInt8)} {out out':List (List UInt8)} (h:∀x∈out,x∈out') {r s:List UInt8} (he:(r,s)∈E) (h1:s ∉ out) (h2:s∈out'):UH E out<UH E out':=by
 unfold UH
 induction E with
 | nil=>simp at he
 | cons p E ih=>
  simp only [List.filter_cons]
  have hm:=aag (E:=E) h
  unfold UH at hm
  rcases List.mem_cons.1 he with rfl|he
  ·simp [h1,h2];omega
  ·have:=ih he
   by_cases h3:p.2∈out
   ·simp [h3,h _ h3];exact this
   ·by_cases h4:p.2∈out'<;>simp [h3,h4]<;>omega
theorem ad2 {E:List (List UInt8×List UInt8)} {out:List (List UInt8)}:UH E out≤E.length:=List.length_filter_le _ _
theorem OJ {E:List (List UInt8×List UInt8)}:∀(n:Nat) {out:List (List UInt8)},E.length - UH E out<n→Ac E (upN E n out)
 | 0,out,h=>by omega
 | n+1,out,h=>by
  by_cases hs:∀x∈upR E out,x∈out
  ·have hc:=QK hs
   have hsame:∀y,y∈upN E (n+1) out ↔ y∈out:=fun y=>⟨XB (n+1) hc y,Uc (n+1) y⟩
   exact fun r s he hr=>(hsame s).2 (hc r s he ((hsame r).1 hr))
  ·-- something new came: the end of a pair
   have hnew:∃r s,(r,s)∈E∧s ∉ out∧s∈upR E out:=by
    have key:∀(E':List (List UInt8×List UInt8)),(∀p∈E',p∈E)→∀(o:List (List UInt8)),∀x∈upR E' o,x∈o∨∃r,(r,x)∈E:=by
     intro E'
     unfold upR
     induction E' with
     | nil=>intro _ o x hx;exact .inl hx
     | cons p E' ih=>
      intro hE o x hx
      simp only [List.foldl_cons] at hx
      rcases ih (fun q hq=>hE q (by simp [hq])) _ x hx with h1|h1
      ·split at h1
       ·rcases yU.1 h1 with rfl|h1
        ·exact .inr ⟨p.1,hE p (by simp)⟩
        ·exact .inl h1
       ·exact .inl h1
      ·exact .inr h1
    refine Classical.byContradiction fun hno=>hs fun x hx=>Classical.byContradiction fun hxo=>?_
    rcases key E (fun _ h=>h) out x hx with h1|⟨r,hr⟩
    ·exact hxo h1
    ·exact hno ⟨r,x,hr,hxo,hx⟩
   obtain ⟨r,s,he,h1,h2⟩:=hnew
   have hlt:=ad1 (out:=out) (out':=upR E out) (fun x hx=>Oh x hx) he h1 h2
   have hle:=ad2 (E:=E) (out:=upR E out)
   exact OJ n (by omega)
theorem adU {E:List (List UInt8×List UInt8)} {a x:List UInt8} {n:Nat} (hn:E.length<n):x∈upN E n [a] ↔ Rch E a x:=by
 constructor
 ·exact Sv n (fun y hy=>by simp at hy;subst hy;exact .refl _) x
 ·intro h
  exact (OJ n (by omega)).rch h (Uc n a (by simp))
end Go.Ai
namespace Go.Ai.Z
theorem CJ:∀(x y:List UInt8),Op.bytesLess x y=decide (x<y)
 | [],[]=>by simp [Op.bytesLess]
 | [],y::ys=>by simp [Op.bytesLess]
 | x::xs,[]=>by simp [Op.bytesLess]
 | x::xs,y::ys=>by
  have ih:=CJ xs ys
  simp only [Op.bytesLess,ih,List.cons_lt_cons_iff]
  by_cases h1:x<y
  ·simp [h1]
  ·by_cases h2:x=y
   ·subst h2;simp [h1]
   ·simp [h1,h2]
theorem adC (l:List (List UInt8)) (x:List UInt8):l.take (l.takeWhile (fun y=>decide (y<x))).length=l.takeWhile (fun y=>decide (y<x)):=by
 induction l with
 | nil=>rfl
 | cons a r ih=>
  by_cases h:a<x
  ·simp [List.takeWhile_cons,h,ih]
  ·simp [List.takeWhile_cons,h]
theorem drop_tw (l:List (List UInt8)) (x:List UInt8):l.drop (l.takeWhile (fun y=>decide (y<x))).length=l.dropWhile (fun y=>decide (y<x)):=by
 induction l with
 | nil=>rfl
 | cons a r ih=>
  by_cases h:a<x
  ·simp [List.takeWhile_cons,List.dropWhile_cons,h,ih]
  ·simp [List.takeWhile_cons,List.dropWhile_cons,h]
theorem ahb (l:List (List UInt8)) (x:List UInt8):(l.takeWhile (fun y=>decide (y<x))).length≤l.length:=(List.takeWhile_sublist _).length_le
theorem Zw (l:List (List UInt8)) (x:List UInt8):(LX l x).length≤l.length+1:=by
 unfold LX
 split
 ·omega
 ·have:=congrArg List.length (List.takeWhile_append_dropWhile (p:=fun y=>decide (y<x)) (l:=l))
  rw [List.length_append] at this
  simp only [List.length_append,List.length_cons];omega
def uM:List Ax→Int
 | []=>0
 | x::r=>if yO x=0 then uM r else yO x
theorem Gw (z:Bool) (l:List Ax) (hl:l.length≤1000) (hx:∀x∈l,x.Lng) (s:St) (cx:Ctx):
  ∀(rest:List Ax) (i:Nat),l.drop i=rest→
  ∃j:Int,bg (au P0.glob (aj P0) cx false nH) [6,7,8] [(6,.v (slf z (l.map uK))),(7,.v (.i .i64 l.length)),(8,.v (.i .i64 i))] s=
   if uM rest=0 then .exit 0 [(6,.v (slf z (l.map uK))),(7,.v (.i .i64 l.length)),(8,.v (.i .i64 j)),(9,.v (.b false))] s else .ret [(2,.v (.i .i64 (uM rest)))] s
 | [],i,h=>by
  have h1:¬i<l.length:=Nat.not_lt.2 (drop_nil h)
  refine ⟨i,ai fun K hK=>?_⟩
  simp [nH,h1,uM]
 | p::r,i,h=>by
  obtain ⟨h1,h2,h3,h4⟩:=drop_cons h
  have h5:=h4 h3
  have hf:=hx p (by rw [←h5];exact List.getElem_mem h3)
  have hwi:=wI (i:=i) (by omega)
  have e1:=yD p hf
  by_cases h0:yO p=0
  ·obtain ⟨j,ih⟩:=Gw z l hl hx s cx r (i+1) h2
   refine ⟨j,ai fun K hK=>?_⟩
   rw [←hK,show ((i+1:Nat):Int)=(i:Int)+1 from rfl] at ih
   clear hK h4 hx
   try simp at ih
   simp [nH,h3,h5,hwi,e1,h0,uM,ih]
  ·refine ⟨i,ai fun K hK=>?_⟩
   clear hK h4 hx
   simp [nH,h3,h5,hwi,e1,h0,uM]
theorem QS (z:Bool) (l:List Ax) (hl:l.length≤1000) (hx:∀x∈l,x.Lng) (s:St) (cx:Ctx):aj P0 (.fn (.func uh) [] []) [slf z (l.map uK)] s cx=.ret (.i .i64 (uM l)) s:=by
 obtain ⟨j,h⟩:=Gw z l hl hx s ⟨s.length,s.length⟩ l 0 rfl
 refine Qq (by simp) ?_
 simp at h
 by_cases h0:uM l=0<;>simp [af,vI,h,h0]
def Ef (x:List UInt8):Bool:=jU x || FN x
theorem Ba (ns:List (List UInt8)) (hl:ns.length≤1000) (hx:∀x∈ns,x.length≤1152921504606846976) (s:St) (cx:Ctx):
  ∀(rest:List (List UInt8)) (i:Nat),ns.drop i=rest→
  ∃j:Int,bg (au P0.glob (aj P0) cx false kP) [14,15,16] [(14,.v (.sl (ns.map .s))),(15,.v (.i .i64 ns.length)),(16,.v (.i .i64 i))] s=
   if rest.all Ef=true then .exit 0 [(14,.v (.sl (ns.map .s))),(15,.v (.i .i64 ns.length)),(16,.v (.i .i64 j)),(17,.v (.b false))] s else .ret [(4,.v (.i .i64 20))] s
 | [],i,h=>by
  have h1:¬i<ns.length:=Nat.not_lt.2 (drop_nil h)
  refine ⟨i,ai fun K hK=>?_⟩
  simp [kP,h1]
 | p::r,i,h=>by
  obtain ⟨h1,h2,h3,h4⟩:=drop_cons h
  have h5:=h4 h3
  have hf:=hx p (by rw [←h5];exact List.getElem_mem h3)
  have hwi:=wI (i:=i) (by omega)
  have e1:=qZ p hf
  by_cases h0:Ef p=true
  ·obtain ⟨j,ih⟩:=Ba ns hl hx s cx r (i+1) h2
   refine ⟨j,ai fun K hK=>?_⟩
   rw [←hK,show ((i+1:Nat):Int)=(i:Int)+1 from rfl] at ih
   clear hK h4 hx
   have h6:(jU p || FN p)=true:=h0
   simp only [h6,if_true] at e1
   simp only [List.all_cons,h0,Bool.true_and]
   try simp at ih
   simp [kP,h3,h5,hwi,e1,ih]
  ·refine ⟨i,ai fun K hK=>?_⟩
   clear hK h4 hx
   have h6:¬(jU p || FN p)=true:=h0
   simp only [h6,if_false] at e1
   simp only [List.all_cons,h0,Bool.false_and]
   simp [kP,h3,h5,hwi,e1]
theorem JQ (z:Bool) (l:List Ax) (hl:l.length≤1000) (hx:∀x∈l,x.Lng) (ns:List (List UInt8)) (hn:ns.length≤1000) (hnx:∀x∈ns,x.length≤1152921504606846976) (s:St) (cx:Ctx):
  aj P0 (.fn (.func pq) [] []) [slf z (l.map uK),.sl (ns.map .s)] s cx=.ret (.i .i64 (if uM l=0 then (if ns.all Ef=true then 0 else 20) else uM l)) s:=by
 obtain ⟨j,h⟩:=Ba ns hn hnx s ⟨s.length,s.length⟩ ns 0 rfl
 refine Jr (by simp) ?_
 have e1:=QS z l hl hx
 simp at h
 by_cases h0:uM l=0
 ·by_cases h6:ns.all Ef=true
  ·rw [if_pos (by simpa using h6)] at h
   simp only [h0,h6,if_true]
   simp [af,kX,h,e1,h0]
  ·rw [if_neg (by simpa using h6)] at h
   simp only [h0,h6,if_true,if_false]
   simp [af,kX,h,e1,h0]
 ·simp [af,kX,e1,h0]
end Go.Ai.Z
namespace Go.Ai.Z
def BF (V:List (List UInt8)):List (AV×AV):=V.map fun x=>(.s x,.b true)
theorem FD (k:List UInt8):∀V:List (List UInt8),find 1 (.s k) (BF V)=some (if k∈V then some (.b true) else none)
 | []=>rfl
 | x::V=>by
  have ih:=FD k V
  simp only [BF] at ih ⊢
  by_cases h:k=x
  ·subst h;simp [find,rG]
  ·simp [find,rG,h,ih]
theorem S9 {k:List UInt8}:∀{V:List (List UInt8)},k ∉ V→A7 1 (.s k) (.b true) (BF V)=some (BF (V++[k]))
 | [],_=>rfl
 | x::V,h=>by
  simp only [List.mem_cons,not_or] at h
  have ih:=S9 (V:=V) h.2
  simp only [BF] at ih ⊢
  simp [A7,rG,h.1,ih]
def SlV (v:AV) (vs:List (List UInt8)):Prop:=(v=.ns∧vs=[])∨v=.sl (vs.map .s)∨∃r,v=.st r (vs.map .s)
theorem SlV.elems {v:AV} {vs:List (List UInt8)} (h:SlV v vs) (env:Env):tH env (some (.v v))=some (vs.map .s):=by
 rcases h with ⟨rfl,rfl⟩|rfl|⟨r,rfl⟩<;>rfl
theorem SlV.plain {v:AV} {vs:List (List UInt8)} (h:SlV v vs) (hne:vs≠[]):v.plain=.sl (vs.map .s):=by
 rcases h with ⟨_,rfl⟩|rfl|⟨r,rfl⟩
 ·exact absurd rfl hne
 ·rfl
 ·rfl
def agm (es:List (AV×AV)) (f:List UInt8→List (List UInt8)):Prop:=∀k,∃r,find 1 (.s k) es=some r∧SlV (r.getD .ns) (f k)
@[simp] theorem ah7 {s:St} {a b:dA}:(s++[a,b])[s.length]?=some a:=by simp
@[simp] theorem akE {s:St} {a b:dA}:(s++[a,b])[s.length+1]?=some b:=by simp
@[simp] theorem ajQ {s:St} {a b c:dA}:(s++[a,b]).set s.length c=s++[c,b]:=by simp
@[simp] theorem ajP {s:St} {a b c:dA}:(s++[a,b]).set (s.length+1) c=s++[a,c]:=by
 rw [List.set_append,if_neg (by omega)];simp
@[simp] theorem agR {env:Env} {l ver sz o n:Nat}:tH env (some (.v (.sk l ver sz o n)))=none:=rfl
theorem adE {s:St} {a b o:dA} {l:Nat} (h:s[l]?=some o):(s++[a,b])[l]?=some o:=by
 rw [List.getElem?_append_left (List.getElem?_eq_some_iff.1 h).1];exact h
theorem Wi (ks0:List Nat) (env:Env):∀ks:List Nat,(∀k∈ks,k∈ks0)→eU (eU env ks0) ks=eU env ks:=by
 have hl:∀(ks:List Nat) (k:Nat),lk (eU env ks) k=if k∈ks then (match lk env k with|some e=>bif e.isRef then none else some e|none=>none) else none:=by
  intro ks
  induction ks with
  | nil=>intro k;simp [eU,lk]
  | cons a r ih=>
   intro k
   by_cases hk:k=a
   ·subst hk
    cases hc:lk env k with
    | none=>simp only [eU,ih,hc,ite_self]
    | some e=>
     cases hr:e.isRef with
     | true=>simp only [eU,hr,if_true,ih,hc,cond_true,ite_self]
     | false=>simp only [eU,hr,hc,lk,if_true,if_false,Bool.false_eq_true,cond_false,List.mem_cons,true_or]
   ·have hk':¬a=k:=fun h=>hk h.symm
    cases hc:lk env a with
    | none=>simp only [eU,ih,hc,List.mem_cons,hk,false_or]
    | some e=>
     cases hr:e.isRef with
     | true=>simp only [eU,hr,if_true,ih,hc,List.mem_cons,hk,false_or]
     | false=>simp only [eU,hr,hc,lk,if_false,Bool.false_eq_true,ih,List.mem_cons,hk,hk',false_or]
 intro ks
 induction ks with
 | nil=>intro _;rfl
 | cons a r ih=>
  intro h
  have ha:=h a (by simp)
  have ih:=ih fun k hk=>h k (by simp [hk])
  simp only [eU,hl ks0 a,ha,if_true,ih]
  cases lk env a with
  | none=>rfl
  | some e=>cases hr:e.isRef with
   | true=>simp only [hr,cond_true,if_true]
   | false=>simp only [cond_false,hr,Bool.false_eq_true,if_false]
theorem X0 (body:Env→St→Out) (keep:List Nat) (env:Env) (s:St):bg body keep env s=bg body keep (eU env keep) s:=by
 rw [A8,A8 body keep (eU env keep),Wi keep env keep fun _ h=>h]
theorem H7 (s:St) (l:Nat) (v:AV) (vs:List (List UInt8)) (hv:SlV v vs) (hvl:vs.length≤100000) (cx:Ctx) (hcx:cx.lim≤s.length∧cx.base≤s.length):
  ∀(rest:List (List UInt8)) (i:Nat) (V Q:List (List UInt8)) (ver o:Nat) (qs:List AV),vs.drop i=rest→V.Nodup→o+Q.length=qs.length→qs.drop o=Q.map .s→Q.length+rest.length≤1000000→
  ∃(N:List (List UInt8)) (ver' o':Nat) (qs':List AV) (j:Int),bg (au P0.glob (aj P0) cx false lG) [1,5,6,25,26,27]
    [(1,.v (.mp l)),(5,.v (.mp s.length)),(6,.v (.sk (s.length+1) ver 1 o Q.length)),(25,.v v),(26,.v (.i .i64 vs.length)),(27,.v (.i .i64 i))] (s++[.map (BF V),.buf ak 1 ver qs])=
    .exit 2 [(1,.v (.mp l)),(5,.v (.mp s.length)),(6,.v (.sk (s.length+1) ver' 1 o' (Q++N).length)),(25,.v v),(26,.v (.i .i64 vs.length)),(27,.v (.i .i64 j)),(28,.v (.b false))] (s++[.map (BF (V++N)),.buf ak 1 ver' qs'])∧
    (V++N).Nodup∧o'+(Q++N).length=qs'.length∧qs'.drop o'=(Q++N).map .s∧(∀x∈N,x∈rest)∧∀x∈rest,x∈V++N
 | [],i,V,Q,ver,o,qs,h,hV,h1,h2,hb=>by
  have hi:¬i<vs.length:=Nat.not_lt.2 (drop_nil h)
  refine ⟨[],ver,o,qs,i,ai fun K hK=>?_,by simpa using hV,by simpa using h1,by simpa using h2,fun x hx=>(by cases hx),fun x hx=>(by cases hx)⟩
  simp [lG,hi]
 | p::r,i,V,Q,ver,o,qs,h,hV,h1,h2,hb=>by
  obtain ⟨g1,g2,g3,g4⟩:=drop_cons h
  have g5:=g4 g3
  have hwi:=wI (i:=i) (by omega)
  have hpl:=hv.plain (fun hn=>by rw [hn] at g3;simp at g3)
  simp only [List.length_cons] at hb
  by_cases hp:p∈V
  ·obtain ⟨N,ver',o',qs',j,ih,k1,k2,k3,k4,k5⟩:=H7 s l v vs hv hvl cx hcx r (i+1) V Q ver o qs g2 hV h1 h2 (by omega)
   refine ⟨N,ver',o',qs',j,ai fun K hK=>?_,k1,k2,k3,fun x hx=>by simp [k4 x hx],fun x hx=>?_⟩
   ·rw [←hK,show ((i+1:Nat):Int)=(i:Int)+1 from rfl] at ih
    clear hK g4
    have hf:=FD p V
    simp only [hp,if_true] at hf
    simp at ih
    simp [lG,g3,g5,hwi,hpl,hf,ih]
   ·rcases List.mem_cons.1 hx with rfl|hx
    ·simp [hp]
    ·exact k5 x hx
  ·have hV':(V++[p]).Nodup:=List.nodup_append.2 ⟨hV,by simp,fun a ha b hb=>by simp at hb;subst hb;exact fun h=>hp (h ▸ ha)⟩
   obtain ⟨N,ver',o',qs',j,ih,k1,k2,k3,k4,k5⟩:=H7 s l v vs hv hvl cx hcx r (i+1) (V++[p]) (Q++[p]) (ver+1) 0 (Q.map .s++[.s p]) g2 hV' (by simp) (by simp) (by simp;omega)
   refine ⟨p::N,ver',o',qs',j,ai fun K hK=>?_,by simpa using k1,by simpa using k2,by simpa using k3,fun x hx=>?_,fun x hx=>?_⟩
   ·rw [←hK,show ((i+1:Nat):Int)=(i:Int)+1 from rfl] at ih
    clear hK g4
    have hf:=FD p V
    simp only [hp,if_false] at hf
    have hm:=S9 hp
    have m1:Q.length+1≤aU:=by unfold aU;omega
    have hq:List.take Q.length (List.drop o qs)=Q.map .s:=by rw [h2];rw [List.take_of_length_le (by simp)]
    have hfit:o+Q.length≤qs.length:=by omega
    simp at ih
    simp [lG,g3,g5,hwi,hpl,hf,hm,m1,hq,hfit,hcx.1,hcx.2,ih,Nat.le_succ_of_le hcx.1,Nat.le_succ_of_le hcx.2,vY]
   ·rcases List.mem_cons.1 hx with rfl|hx
    ·simp
    ·simp [k4 x hx]
   ·rcases List.mem_cons.1 hx with rfl|hx
    ·simp
    ·have:=k5 x hx
     simpa using this
theorem PN {V U:List (List UInt8)} (hV:V.Nodup) (h:∀x∈V,x∈U):V.length≤U.length:=by
 induction V generalizing U with
 | nil=>simp
 | cons a V ih=>
  obtain ⟨h1,h2⟩:=List.nodup_cons.1 hV
  have ha:=h a (by simp)
  have h3:∀x∈V,x∈U.erase a:=fun x hx=>(List.mem_erase_of_ne (fun he=>h1 (by rw [←he];exact hx))).2 (h x (by simp [hx]))
  have:=ih h2 h3
  have h4:0<U.length:=List.length_pos_of_mem ha
  rw [List.length_erase_of_mem ha] at this
  simp only [List.length_cons];omega
theorem Qi (s:St) (l:Nat) (es:List (AV×AV)) (f:List UInt8→List (List UInt8)) (hs:s[l]?=some (.map es)) (hM:agm es f) (E:List (List UInt8×List UInt8)) (hE:∀k x,x∈f k→(k,x)∈E)
  (hf:∀k,(f k).length≤100000) (role:List UInt8) (U:List (List UInt8)) (hU:∀k,∀x∈f k,x∈U) (hUl:U.length≤200000) (cx:Ctx) (hcx:cx.lim≤s.length∧cx.base≤s.length):
  ∀(n:Nat) (V Q:List (List UInt8)) (ver o:Nat) (qs:List AV),2 * (U.length - V.length)+Q.length≤n→V.Nodup→(∀x∈V,x∈U)→(∀x∈Q,x∈V)→Q.length≤V.length→(∀x∈V,Rch E role x)→(∀x∈V,x ∉ Q→∀y∈f x,y∈V)→
  o+Q.length=qs.length→qs.drop o=Q.map .s→
  ∃(V':List (List UInt8)) (q:AV) (ver':Nat) (qs':List AV),bg (au P0.glob (aj P0) cx false oJ) [1,5,6]
    [(1,.v (.mp l)),(5,.v (.mp s.length)),(6,.v (.sk (s.length+1) ver 1 o Q.length))] (s++[.map (BF V),.buf ak 1 ver qs])=
    .exit 0 [(1,.v (.mp l)),(5,.v (.mp s.length)),(6,.v q),(17,.v (.b false))] (s++[.map (BF V'),.buf ak 1 ver' qs'])∧
    V'.Nodup∧(∀x∈V,x∈V')∧(∀x∈V',Rch E role x)∧∀x∈V',∀y∈f x,y∈V'
 | n,V,[],ver,o,qs,hn,hV,hVU,hQ,hQl,hR,hC,h1,h2=>by
  refine ⟨V,.sk (s.length+1) ver 1 o 0,ver,qs,ai fun K hK=>?_,hV,fun x hx=>hx,hR,fun x hx=>hC x hx (by simp)⟩
  simp [oJ]
 | 0,V,r::Q,ver,o,qs,hn,hV,hVU,hQ,hQl,hR,hC,h1,h2=>by simp at hn
 | n+1,V,r::Q,ver,o,qs,hn,hV,hVU,hQ,hQl,hR,hC,h1,h2=>by
  simp only [List.length_cons] at hn h1 hQl
  have hVl:=PN hV hVU
  obtain ⟨ro,hro,hv⟩:=hM r
  have hq0:qs[o]?=some (.s r):=by
   have:=congrArg (fun x=>x[0]?) h2
   simpa using this
  have hq1:qs.drop (o+1)=Q.map .s:=by
   have:=congrArg (fun x=>x.drop 1) h2
   simpa [List.drop_drop] using this
  obtain ⟨N,ver1,o1,qs1,j,e1,k1,k2,k3,k4,k5⟩:=H7 s l (ro.getD .ns) (f r) hv (hf r) cx hcx (f r) 0 V Q ver (o+1) qs rfl hV (by omega) hq1 (by have:=hf r;omega)
  have hNU:∀x∈V++N,x∈U:=fun x hx=>by
   rcases List.mem_append.1 hx with hx|hx
   ·exact hVU x hx
   ·exact hU r x (k4 x hx)
  have hl2:=PN k1 hNU
  simp only [List.length_append] at hl2
  have hr:=hR r (hQ r (by simp))
  obtain ⟨V',q,ver',qs',e2,m1,m2,m3,m4⟩:=Qi s l es f hs hM E hE hf role U hU hUl cx hcx n (V++N) (Q++N) ver1 o1 qs1 (by simp only [List.length_append];omega) k1 hNU
   (fun x hx=>by
    rcases List.mem_append.1 hx with hx|hx
    ·exact List.mem_append_left _ (hQ x (by simp [hx]))
    ·exact List.mem_append_right _ hx)
   (by simp only [List.length_append];omega)
   (fun x hx=>by
    rcases List.mem_append.1 hx with hx|hx
    ·exact hR x hx
    ·exact .step hr (hE r x (k4 x hx)))
   (fun x hx hxQ y hy=>by
    simp only [List.mem_append,not_or] at hxQ
    by_cases hxr:x=r
    ·subst hxr;exact k5 y hy
    ·rcases List.mem_append.1 hx with hx|hx
     ·exact List.mem_append_left _ (hC x hx (by simp [hxr,hxQ.1]) y hy)
     ·exact absurd hx hxQ.2)
   k2 k3
  refine ⟨V',q,ver',qs',ai fun K hK=>?_,m1,fun x hx=>m2 x (List.mem_append_left _ hx),m3,m4⟩
  have hKk:∀e t,K e t=K (eU e [1,5,6]) t:=fun e t=>by rw [hK];exact X0 _ _ _ _
  rw [←hK] at e2
  clear hK
  have hsl:=adE (a:=.map (BF V)) (b:=.buf ak 1 ver qs) hs
  have hel:=fun env=>hv.elems env
  have c1:(0:Int)<((Q.length:Int)+1):=by omega
  have c2:1≤Q.length+1:=by omega
  simp at e1 e2
  simp [oJ,hq0,hsl,hro,hel,c1,c2,e1]
  rw [hKk]
  simp [e2]
theorem aea {S:St} {n m l:Nat} {es:List (AV×AV)} (h0:(AV.mp l).under n=false) (h:S[l]?=some (.map es)):tY S n (m+1) (.mp l)=(es.mapM (UK (tY S n m))).map .im:=by
 rw [tY,if_neg (by rw [h0];exact Bool.false_ne_true)]
 simp only [h]
theorem WH (S:St) (n m:Nat):∀V:List (List UInt8),(BF V).mapM (UK (tY S n m))=some (BF V)
 | []=>rfl
 | x::V=>by
  have ih:=WH S n m V
  have h1:tY S n m (.s x)=some (.s x):=by cases m<;>simp [tY,AV.under]
  have h2:tY S n m (.b true)=some (.b true):=by cases m<;>simp [tY,AV.under]
  simp only [BF,List.map_cons,List.mapM_cons,UK,h1,h2] at ih ⊢
  simp [ih]
theorem N9 (role:List UInt8) (s:St) (l:Nat) (es:List (AV×AV)) (f:List UInt8→List (List UInt8)) (hs:s[l]?=some (.map es)) (hM:agm es f) (E:List (List UInt8×List UInt8)) (hE:∀k x,x∈f k ↔ (k,x)∈E)
  (hf:∀k,(f k).length≤100000) (hEl:E.length≤100000) (cx:Ctx):
  ∃V:List (List UInt8),aj P0 (.fn (.func qI) [] []) [.s role,.mp l] s cx=.ret (.im (BF V)) s∧V.Nodup∧∀x,x∈V ↔ Rch E role x:=by
 obtain ⟨V,q,ver,qs,e1,m1,m2,m3,m4⟩:=Qi s l es f hs hM E (fun k x h=>(hE k x).1 h) hf role (role::E.map (·.2)) (fun k x hx=>by
   have:=(hE k x).1 hx
   exact List.mem_cons_of_mem _ (List.mem_map.2 ⟨_,this,rfl⟩)) (by simp;omega) ⟨s.length,s.length⟩ ⟨Nat.le_refl _,Nat.le_refl _⟩ _ [role] [role] 0 0 [.s role] (Nat.le_refl _) (by simp) (fun x hx=>by simp at hx;simp [hx]) (fun x hx=>hx) (by simp) (fun x hx=>by simp at hx;subst hx;exact .refl _)
   (fun x hx hxq=>absurd hx hxq) (by simp) (by simp)
 refine ⟨V,Lh (by simp) ?_,m1,fun x=>⟨m3 x,fun h=>?_⟩⟩
 ·have hfz:frz (s++[.map (BF V),.buf ak 1 ver qs]) s.length (.mp s.length)=some (.im (BF V)):=by
   have h0:(AV.mp s.length).under s.length=false:=by simp [AV.under]
   unfold frz
   rw [if_neg (by rw [h0];exact Bool.false_ne_true),aea h0 ah7,WH];rfl
  have e0:BF [role]=[(.s role,.b true)]:=rfl
  rw [e0] at e1
  simp at e1
  simp [af,sN,e1,A7,hfz,vY]
  done
 ·exact Ac.rch (fun r y he hr=>m4 r hr y ((hE r y).2 he)) h (m2 role (by simp))
end Go.Ai.Z
