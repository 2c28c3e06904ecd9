/-
 Which roles are contained in which: rounds of a list of pairs reach all that can be reached.
-/
import Derived.Test.YtdjjghikaijfpaaGreatDoorAiC1
import Derived.Test.YtdjjghikaijfpaaGreatDoorAiK8K9K10K11K12
import Derived.Test.YtdjjghikaijfpaaGreatDoorAiK1K2K3K4
set_option maxRecDepth 100000
set_option linter.unusedSimpArgs false
set_option linter.unusedVariables false
set_option linter.unusedSectionVars false
namespace Go.Ai
inductive Rch (E:List (List UInt8×List UInt8)):List UInt8→List UInt8→Prop where
 | refl (a:List UInt8):Rch E a a
 | step {a b c:List UInt8}:Rch E a b→(b,c)∈E→Rch E a c
theorem Rch.trans {E:List (List UInt8×List UInt8)} {a b c:List UInt8} (h:Rch E a b) (h':Rch E b c):Rch E a c:=by
 induction h' with
 | refl=>exact h
 | step _ he ih=>exact .step ih he
theorem Rch.one {E:List (List UInt8×List UInt8)} {a b:List UInt8} (h:(a,b)∈E):Rch E a b:=.step (.refl a) h
theorem Rch.mono {E E':List (List UInt8×List UInt8)} (hE:∀p∈E,p∈E') {a b:List UInt8} (h:Rch E a b):Rch E' a b:=by
 induction h with
 | refl=>exact .refl _
 | step _ he ih=>exact .step ih (hE _ he)
def vH (E:List (List UInt8×List UInt8)):List (List UInt8×List UInt8):=E.map fun p=>(p.2,p.1)
theorem acC {E:List (List UInt8×List UInt8)} {a b:List UInt8}:(a,b)∈vH E ↔ (b,a)∈E:=by
 simp only [vH,List.mem_map,Prod.mk.injEq]
 constructor
 ·rintro ⟨⟨x,y⟩,h,rfl,rfl⟩;exact h
 ·intro h;exact ⟨(b,a),h,rfl,rfl⟩
theorem Rch.flip {E:List (List UInt8×List UInt8)} {a b:List UInt8} (h:Rch E a b):Rch (vH E) b a:=by
 induction h with
 | refl=>exact .refl _
 | step _ he ih=>exact (Rch.one (acC.2 he)).trans ih
theorem Zf (E:List (List UInt8×List UInt8)):vH (vH E)=E:=by simp [vH,Function.comp_def]
theorem Rch.flip_iff {E:List (List UInt8×List UInt8)} {a b:List UInt8}:Rch (vH E) a b ↔ Rch E b a:=
 ⟨fun h=>by have:=h.flip;rwa [Zf] at this,fun h=>h.flip⟩
def Srt (l:List (List UInt8)):Prop:=l.Pairwise fun a b=>a<b
theorem Srt.nodup {l:List (List UInt8)} (h:Srt l):l.Nodup:=h.imp fun {a b} hab he=>by subst he;exact List.lt_irrefl a hab
theorem Srt.ext {l l':List (List UInt8)} (h:Srt l) (h':Srt l') (hm:∀x,x∈l ↔ x∈l'):l=l':=
 List.Perm.eq_of_pairwise (le:=fun a b=>a<b) (fun a b _ _ h1 h2=>absurd h2 (List.lt_asymm h1)) h h' ((List.perm_ext_iff_of_nodup h.nodup h'.nodup).2 hm)
def adS (l:List (List UInt8)) (s:List UInt8):List (List UInt8):=
 if s∈l then l else l.takeWhile (fun x=>decide (x<s))++s::l.dropWhile (fun x=>decide (x<s))
theorem AP {l:List (List UInt8)} {s x:List UInt8}:x∈adS l s ↔ x=s∨x∈l:=by
 unfold adS
 split
 ·rename_i h
  constructor
  ·exact .inr
  ·rintro (rfl|h');exact h;exact h'
 ·have:x∈l ↔ x∈l.takeWhile (fun x=>decide (x<s))∨x∈l.dropWhile (fun x=>decide (x<s)):=by
   rw [←List.mem_append,List.takeWhile_append_dropWhile]
  rw [this]
  simp only [List.mem_append,List.mem_cons]
  constructor
  ·rintro (h|h|h);exact .inr (.inl h);exact .inl h;exact .inr (.inr h)
  ·rintro (h|h|h);exact .inr (.inl h);exact .inl h;exact .inr (.inr h)
def upR (E:List (List UInt8×List UInt8)) (out:List (List UInt8)):List (List UInt8):=E.foldl (fun out p=>if p.1∈out then adS out p.2 else out) out
def upN (E:List (List UInt8×List UInt8)):Nat→List (List UInt8)→List (List UInt8)
 | 0,out=>out
 | n+1,out=>upN E n (upR E out)
theorem Rn {E:List (List UInt8×List UInt8)}:∀{out:List (List UInt8)},∀x∈out,x∈upR E out:=by
 unfold upR
 induction E with
 | nil=>intro out x hx;exact hx
 | cons p E ih=>
  intro out x hx
  simp only [List.foldl_cons]
  apply ih
  split
  ·exact AP.2 (.inr hx)
  ·exact hx
theorem ab9 {E0:List (List UInt8×List UInt8)} {a:List UInt8}:∀{E:List (List UInt8×List UInt8)},(∀p∈E,p∈E0)→∀{out:List (List UInt8)},(∀x∈out,Rch E0 a x)→∀x∈upR E out,Rch E0 a x:=by
 intro E
 unfold upR
 induction E with
 | nil=>intro _ out h x hx;exact h x hx
 | cons p E ih=>
  intro hE out h x hx
  simp only [List.foldl_cons] at hx
  refine ih (fun q hq=>hE q (by simp [hq])) (fun y hy=>?_) x hx
  split at hy
  ·rename_i hp
   rcases AP.1 hy with rfl|hy
   ·exact .step (h _ hp) (hE p (by simp))
   ·exact h y hy
  ·exact h y hy
theorem afV {E:List (List UInt8×List UInt8)}:∀{out:List (List UInt8)} {r s:List UInt8},(r,s)∈E→r∈out→s∈upR E out:=by
 unfold upR
 induction E with
 | nil=>intro out r s h;simp at h
 | cons p E ih=>
  intro out r s h hr
  simp only [List.foldl_cons]
  rcases List.mem_cons.1 h with rfl|h
  ·simp only [hr,if_true]
   exact Rn (E:=E) _ (AP.2 (.inl rfl))
  ·refine ih h ?_
   split
   ·exact AP.2 (.inr hr)
   ·exact hr
theorem W9 {E:List (List UInt8×List UInt8)}:∀(n:Nat) {out:List (List UInt8)},∀x∈out,x∈upN E n out
 | 0,_,_,h=>h
 | n+1,_,x,h=>W9 n x (Rn x h)
theorem VR {E:List (List UInt8×List UInt8)} {a:List UInt8}:∀(n:Nat) {out:List (List UInt8)},(∀x∈out,Rch E a x)→∀x∈upN E n out,Rch E a x
 | 0,_,h=>h
 | n+1,_,h=>VR n (ab9 (fun _ h=>h) h)
def CY (E:List (List UInt8×List UInt8)) (out:List (List UInt8)):Prop:=∀r s,(r,s)∈E→r∈out→s∈out
theorem CY.rch {E:List (List UInt8×List UInt8)} {out:List (List UInt8)} (h:CY E out) {a x:List UInt8} (hr:Rch E a x) (ha:a∈out):x∈out:=by
 induction hr with
 | refl=>exact ha
 | step _ he ih=>exact h _ _ he ih
theorem UO {E:List (List UInt8×List UInt8)} {out:List (List UInt8)} (h:∀x∈upR E out,x∈out):CY E out:=fun _ _ he hr=>h _ (afV he hr)
theorem aad {E:List (List UInt8×List UInt8)}:∀(n:Nat) {out:List (List UInt8)},CY E out→∀x∈upN E n out,x∈out:=by
 have one:∀{out:List (List UInt8)},CY E out→∀x∈upR E out,x∈out:=by
  intro out hc
  have:∀(E':List (List UInt8×List UInt8)),(∀p∈E',p∈E)→∀out':List (List UInt8),(∀x,x∈out' ↔ x∈out)→∀x∈upR E' out',x∈out:=by
   intro E'
   unfold upR
   induction E' with
   | nil=>intro _ out' h x hx;exact (h x).1 hx
   | cons p E' ih=>
    intro hE out' h x hx
    simp only [List.foldl_cons] at hx
    refine ih (fun q hq=>hE q (by simp [hq])) _ (fun y=>?_) x hx
    split
    ·rename_i hp
     rw [AP,h y]
     exact ⟨fun hy=>by rcases hy with rfl|hy;exact hc _ _ (hE p (by simp)) ((h _).1 hp);exact hy,.inr⟩
    ·exact h y
  exact this E (fun _ h=>h) out (fun _=>Iff.rfl)
 intro n
 induction n with
 | zero=>intro out _ x hx;exact hx
 | succ n ih=>
  intro out hc x hx
  have hsame:∀y,y∈upR E out ↔ y∈out:=fun y=>⟨one hc y,Rn y⟩
  have hc':CY E (upR E out):=fun r s he hr=>(hsame s).2 (hc r s he ((hsame r).1 hr))
  exact (hsame x).1 (ih hc' x hx)
def XI (E:List (List UInt8×List UInt8)) (out:List (List UInt8)):Nat:=(E.filter fun p=>decide (p.2∈out)).length
theorem acP {E:List (List UInt8×List UInt8)} {out out':List (List UInt8)} (h:∀x∈out,x∈out'):XI E out≤XI E out':=by
 unfold XI
 induction E with
 | nil=>simp
 | cons p E ih=>
  simp only [List.filter_cons]
  by_cases h1:p.2∈out
  ·simp [h1,h _ h1];exact ih
  ·by_cases h2:p.2∈out'<;>simp [h1,h2]<;>omega
theorem ags {E:List (List UInt8×List UInt8)} {out out':List (List UInt8)} (h:∀x∈out,x∈out') {r s:List UInt8} (he:(r,s)∈E) (h1:s ∉ out) (h2:s∈out'):XI E out<XI E out':=by
 unfold XI
 induction E with
 | nil=>simp at he
 | cons p E ih=>
  simp only [List.filter_cons]
  have hm:=acP (E:=E) h
  unfold XI at hm
  rcases List.mem_cons.1 he with rfl|he
  ·simp [h1,h2];omega
  ·have:=ih he
   by_cases h3:p.2∈out
   ·simp [h3,h _ h3];exact this
   ·by_cases h4:p.2∈out'<;>simp [h3,h4]<;>omega
theorem agt {E:List (List UInt8×List UInt8)} {out:List (List UInt8)}:XI E out≤E.length:=List.length_filter_le _ _
theorem RY {E:List (List UInt8×List UInt8)}:∀(n:Nat) {out:List (List UInt8)},E.length - XI E out<n→CY E (upN E n out)
 | 0,out,h=>by omega
 | n+1,out,h=>by
  by_cases hs:∀x∈upR E out,x∈out
  ·have hc:=UO hs
   have hsame:∀y,y∈upN E (n+1) out ↔ y∈out:=fun y=>⟨aad (n+1) hc y,W9 (n+1) y⟩
   exact fun r s he hr=>(hsame s).2 (hc r s he ((hsame r).1 hr))
  ·-- something new came: the end of a pair
   have hnew:∃r s,(r,s)∈E∧s ∉ out∧s∈upR E out:=by
    have key:∀(E':List (List UInt8×List UInt8)),(∀p∈E',p∈E)→∀(o:List (List UInt8)),∀x∈upR E' o,x∈o∨∃r,(r,x)∈E:=by
     intro E'
     unfold upR
     induction E' with
     | nil=>intro _ o x hx;exact .inl hx
     | cons p E' ih=>
      intro hE o x hx
      simp only [List.foldl_cons] at hx
      rcases ih (fun q hq=>hE q (by simp [hq])) _ x hx with h1|h1
      ·split at h1
       ·rcases AP.1 h1 with rfl|h1
        ·exact .inr ⟨p.1,hE p (by simp)⟩
        ·exact .inl h1
       ·exact .inl h1
      ·exact .inr h1
    refine Classical.byContradiction fun hno=>hs fun x hx=>Classical.byContradiction fun hxo=>?_
    rcases key E (fun _ h=>h) out x hx with h1|⟨r,hr⟩
    ·exact hxo h1
    ·exact hno ⟨r,x,hr,hxo,hx⟩
   obtain ⟨r,s,he,h1,h2⟩:=hnew
   have hlt:=ags (out:=out) (out':=upR E out) (fun x hx=>Rn x hx) he h1 h2
   have hle:=agt (E:=E) (out:=upR E out)
   exact RY n (by omega)
theorem agj {E:List (List UInt8×List UInt8)} {a x:List UInt8} {n:Nat} (hn:E.length<n):x∈upN E n [a] ↔ Rch E a x:=by
 constructor
 ·exact VR n (fun y hy=>by simp at hy;subst hy;exact .refl _) x
 ·intro h
  exact (RY n (by omega)).rch h (W9 n a (by simp))
end Go.Ai
namespace Go.Ai.Z
def wJ:List Ax→Int
 | []=>0
 | x::r=>if Az x=0 then wJ r else Az x
theorem J5 (z:Bool) (l:List Ax) (hl:l.length≤1000) (hx:∀x∈l,x.Lng) (s:St) (cx:Ctx):
  ∀(rest:List Ax) (i:Nat),l.drop i=rest→
  ∃j:Int,bF (ay P0.glob (aj P0) cx false oM) [6,7,8] [(6,.v (slf z (l.map wH))),(7,.v (.i .i64 l.length)),(8,.v (.i .i64 i))] s=
   if wJ rest=0 then .exit 0 [(6,.v (slf z (l.map wH))),(7,.v (.i .i64 l.length)),(8,.v (.i .i64 j)),(9,.v (.b false))] s else .ret [(2,.v (.i .i64 (wJ rest)))] s
 | [],i,h=>by
  have h1:¬i<l.length:=Nat.not_lt.2 (drop_nil h)
  refine ⟨i,ak fun K hK=>?_⟩
  simp [oM,h1,wJ]
 | p::r,i,h=>by
  obtain ⟨h1,h2,h3,h4⟩:=drop_cons h
  have h5:=h4 h3
  have hf:=hx p (by rw [←h5];exact List.getElem_mem h3)
  have hwi:=wI (i:=i) (by omega)
  have e1:=Ae p hf
  by_cases h0:Az p=0
  ·obtain ⟨j,ih⟩:=J5 z l hl hx s cx r (i+1) h2
   refine ⟨j,ak fun K hK=>?_⟩
   rw [←hK,show ((i+1:Nat):Int)=(i:Int)+1 from rfl] at ih
   clear hK h4 hx
   try simp at ih
   simp [oM,h3,h5,hwi,e1,h0,wJ,ih]
  ·refine ⟨i,ak fun K hK=>?_⟩
   clear hK h4 hx
   simp [oM,h3,h5,hwi,e1,h0,wJ]
theorem UW (z:Bool) (l:List Ax) (hl:l.length≤1000) (hx:∀x∈l,x.Lng) (s:St) (cx:Ctx):aj P0 (.fn (.func vJ) [] []) [slf z (l.map wH)] s cx=.ret (.i .i64 (wJ l)) s:=by
 obtain ⟨j,h⟩:=J5 z l hl hx s ⟨s.length,s.length⟩ l 0 rfl
 refine Us (by simp) ?_
 simp at h
 by_cases h0:wJ l=0<;>simp [af,xG,h,h0]
def Hy (x:List UInt8):Bool:=jc x || Gg x
theorem Ea (ns:List (List UInt8)) (hl:ns.length≤1000) (hx:∀x∈ns,x.length≤1152921504606846976) (s:St) (cx:Ctx):
  ∀(rest:List (List UInt8)) (i:Nat),ns.drop i=rest→
  ∃j:Int,bF (ay P0.glob (aj P0) cx false lu) [14,15,16] [(14,.v (.sl (ns.map .s))),(15,.v (.i .i64 ns.length)),(16,.v (.i .i64 i))] s=
   if rest.all Hy=true then .exit 0 [(14,.v (.sl (ns.map .s))),(15,.v (.i .i64 ns.length)),(16,.v (.i .i64 j)),(17,.v (.b false))] s else .ret [(4,.v (.i .i64 20))] s
 | [],i,h=>by
  have h1:¬i<ns.length:=Nat.not_lt.2 (drop_nil h)
  refine ⟨i,ak fun K hK=>?_⟩
  simp [lu,h1]
 | p::r,i,h=>by
  obtain ⟨h1,h2,h3,h4⟩:=drop_cons h
  have h5:=h4 h3
  have hf:=hx p (by rw [←h5];exact List.getElem_mem h3)
  have hwi:=wI (i:=i) (by omega)
  have e1:=o7 p hf
  by_cases h0:Hy p=true
  ·obtain ⟨j,ih⟩:=Ea ns hl hx s cx r (i+1) h2
   refine ⟨j,ak fun K hK=>?_⟩
   rw [←hK,show ((i+1:Nat):Int)=(i:Int)+1 from rfl] at ih
   clear hK h4 hx
   have h6:(jc p || Gg p)=true:=h0
   simp only [h6,if_true] at e1
   simp only [List.all_cons,h0,Bool.true_and]
   try simp at ih
   simp [lu,h3,h5,hwi,e1,ih]
  ·refine ⟨i,ak fun K hK=>?_⟩
   clear hK h4 hx
   have h6:¬(jc p || Gg p)=true:=h0
   simp only [h6,if_false] at e1
   simp only [List.all_cons,h0,Bool.false_and]
   simp [lu,h3,h5,hwi,e1]
theorem NE (z:Bool) (l:List Ax) (hl:l.length≤1000) (hx:∀x∈l,x.Lng) (ns:List (List UInt8)) (hn:ns.length≤1000) (hnx:∀x∈ns,x.length≤1152921504606846976) (s:St) (cx:Ctx):
  aj P0 (.fn (.func qI) [] []) [slf z (l.map wH),.sl (ns.map .s)] s cx=.ret (.i .i64 (if wJ l=0 then (if ns.all Hy=true then 0 else 20) else wJ l)) s:=by
 obtain ⟨j,h⟩:=Ea ns hn hnx s ⟨s.length,s.length⟩ ns 0 rfl
 refine MR (by simp) ?_
 have e1:=UW z l hl hx
 simp at h
 by_cases h0:wJ l=0
 ·by_cases h6:ns.all Hy=true
  ·rw [if_pos (by simpa using h6)] at h
   simp only [h0,h6,if_true]
   simp [af,lN,h,e1,h0]
  ·rw [if_neg (by simpa using h6)] at h
   simp only [h0,h6,if_true,if_false]
   simp [af,lN,h,e1,h0]
 ·simp [af,lN,e1,h0]
end Go.Ai.Z
namespace Go.Ai.Z
def EC (V:List (List UInt8)):List (AV×AV):=V.map fun x=>(.s x,.b true)
theorem Jo (k:List UInt8):∀V:List (List UInt8),find 1 (.s k) (EC V)=some (if k∈V then some (.b true) else none)
 | []=>rfl
 | x::V=>by
  have ih:=Jo k V
  simp only [EC] at ih ⊢
  by_cases h:k=x
  ·subst h;simp [find,uY]
  ·simp [find,uY,h,ih]
theorem Wl {k:List UInt8}:∀{V:List (List UInt8)},k ∉ V→D7 1 (.s k) (.b true) (EC V)=some (EC (V++[k]))
 | [],_=>rfl
 | x::V,h=>by
  simp only [List.mem_cons,not_or] at h
  have ih:=Wl (V:=V) h.2
  simp only [EC] at ih ⊢
  simp [D7,uY,h.1,ih]
def SlV (v:AV) (vs:List (List UInt8)):Prop:=(v=.ns∧vs=[])∨v=.sl (vs.map .s)∨∃r,v=.st r (vs.map .s)
theorem SlV.elems {v:AV} {vs:List (List UInt8)} (h:SlV v vs) (env:Env):vz env (some (.v v))=some (vs.map .s):=by
 rcases h with ⟨rfl,rfl⟩|rfl|⟨r,rfl⟩<;>rfl
theorem SlV.plain {v:AV} {vs:List (List UInt8)} (h:SlV v vs) (hne:vs≠[]):v.plain=.sl (vs.map .s):=by
 rcases h with ⟨_,rfl⟩|rfl|⟨r,rfl⟩
 ·exact absurd rfl hne
 ·rfl
 ·rfl
def aiN (es:List (AV×AV)) (f:List UInt8→List (List UInt8)):Prop:=∀k,∃r,find 1 (.s k) es=some r∧SlV (r.getD .ns) (f k)
@[simp] theorem aky {s:St} {a b:dJ}:(s++[a,b])[s.length]?=some a:=by simp
@[simp] theorem anl {s:St} {a b:dJ}:(s++[a,b])[s.length+1]?=some b:=by simp
@[simp] theorem amu {s:St} {a b c:dJ}:(s++[a,b]).set s.length c=s++[c,b]:=by simp
@[simp] theorem ams {s:St} {a b c:dJ}:(s++[a,b]).set (s.length+1) c=s++[a,c]:=by
 rw [List.set_append,if_neg (by omega)];simp
@[simp] theorem ajh {env:Env} {l ver sz o n:Nat}:vz env (some (.v (.sk l ver sz o n)))=none:=rfl
theorem af2 {s:St} {a b o:dJ} {l:Nat} (h:s[l]?=some o):(s++[a,b])[l]?=some o:=by
 rw [List.getElem?_append_left (List.getElem?_eq_some_iff.1 h).1];exact h
theorem Y1 (ks0:List Nat) (env:Env):∀ks:List Nat,(∀k∈ks,k∈ks0)→fJ (fJ env ks0) ks=fJ env ks:=by
 have hl:∀(ks:List Nat) (k:Nat),lk (fJ env ks) k=if k∈ks then (match lk env k with|some e=>bif e.isRef then none else some e|none=>none) else none:=by
  intro ks
  induction ks with
  | nil=>intro k;simp [fJ,lk]
  | cons a r ih=>
   intro k
   by_cases hk:k=a
   ·subst hk
    cases hc:lk env k with
    | none=>simp only [fJ,ih,hc,ite_self]
    | some e=>
     cases hr:e.isRef with
     | true=>simp only [fJ,hr,if_true,ih,hc,cond_true,ite_self]
     | false=>simp only [fJ,hr,hc,lk,if_true,if_false,Bool.false_eq_true,cond_false,List.mem_cons,true_or]
   ·have hk':¬a=k:=fun h=>hk h.symm
    cases hc:lk env a with
    | none=>simp only [fJ,ih,hc,List.mem_cons,hk,false_or]
    | some e=>
     cases hr:e.isRef with
     | true=>simp only [fJ,hr,if_true,ih,hc,List.mem_cons,hk,false_or]
     | false=>simp only [fJ,hr,hc,lk,if_false,Bool.false_eq_true,ih,List.mem_cons,hk,hk',false_or]
 intro ks
 induction ks with
 | nil=>intro _;rfl
 | cons a r ih=>
  intro h
  have ha:=h a (by simp)
  have ih:=ih fun k hk=>h k (by simp [hk])
  simp only [fJ,hl ks0 a,ha,if_true,ih]
  cases lk env a with
  | none=>rfl
  | some e=>cases hr:e.isRef with
   | true=>simp only [hr,cond_true,if_true]
   | false=>simp only [cond_false,hr,Bool.false_eq_true,if_false]
theorem aaA (body:Env→St→Out) (keep:List Nat) (env:Env) (s:St):bF body keep env s=bF body keep (fJ env keep) s:=by
 rw [D8,D8 body keep (fJ env keep),Y1 keep env keep fun _ h=>h]
theorem KT (s:St) (l:Nat) (v:AV) (vs:List (List UInt8)) (hv:SlV v vs) (hvl:vs.length≤100000) (cx:Ctx) (hcx:cx.lim≤s.length∧cx.base≤s.length):
  ∀(rest:List (List UInt8)) (i:Nat) (V Q:List (List UInt8)) (ver o:Nat) (qs:List AV),vs.drop i=rest→V.Nodup→o+Q.length=qs.length→qs.drop o=Q.map .s→Q.length+rest.length≤1000000→
  ∃(N:List (List UInt8)) (ver' o':Nat) (qs':List AV) (j:Int),bF (ay P0.glob (aj P0) cx false mg) [1,5,6,25,26,27]
    [(1,.v (.mp l)),(5,.v (.mp s.length)),(6,.v (.sk (s.length+1) ver 1 o Q.length)),(25,.v v),(26,.v (.i .i64 vs.length)),(27,.v (.i .i64 i))] (s++[.map (EC V),.buf au 1 ver qs])=
    .exit 2 [(1,.v (.mp l)),(5,.v (.mp s.length)),(6,.v (.sk (s.length+1) ver' 1 o' (Q++N).length)),(25,.v v),(26,.v (.i .i64 vs.length)),(27,.v (.i .i64 j)),(28,.v (.b false))] (s++[.map (EC (V++N)),.buf au 1 ver' qs'])∧
    (V++N).Nodup∧o'+(Q++N).length=qs'.length∧qs'.drop o'=(Q++N).map .s∧(∀x∈N,x∈rest)∧∀x∈rest,x∈V++N
 | [],i,V,Q,ver,o,qs,h,hV,h1,h2,hb=>by
  have hi:¬i<vs.length:=Nat.not_lt.2 (drop_nil h)
  refine ⟨[],ver,o,qs,i,ak fun K hK=>?_,by simpa using hV,by simpa using h1,by simpa using h2,fun x hx=>(by cases hx),fun x hx=>(by cases hx)⟩
  simp [mg,hi]
 | p::r,i,V,Q,ver,o,qs,h,hV,h1,h2,hb=>by
  obtain ⟨g1,g2,g3,g4⟩:=drop_cons h
  have g5:=g4 g3
  have hwi:=wI (i:=i) (by omega)
  have hpl:=hv.plain (fun hn=>by rw [hn] at g3;simp at g3)
  simp only [List.length_cons] at hb
  by_cases hp:p∈V
  ·obtain ⟨N,ver',o',qs',j,ih,k1,k2,k3,k4,k5⟩:=KT s l v vs hv hvl cx hcx r (i+1) V Q ver o qs g2 hV h1 h2 (by omega)
   refine ⟨N,ver',o',qs',j,ak fun K hK=>?_,k1,k2,k3,fun x hx=>by simp [k4 x hx],fun x hx=>?_⟩
   ·rw [←hK,show ((i+1:Nat):Int)=(i:Int)+1 from rfl] at ih
    clear hK g4
    have hf:=Jo p V
    simp only [hp,if_true] at hf
    simp at ih
    simp [mg,g3,g5,hwi,hpl,hf,ih]
   ·rcases List.mem_cons.1 hx with rfl|hx
    ·simp [hp]
    ·exact k5 x hx
  ·have hV':(V++[p]).Nodup:=List.nodup_append.2 ⟨hV,by simp,fun a ha b hb=>by simp at hb;subst hb;exact fun h=>hp (h ▸ ha)⟩
   obtain ⟨N,ver',o',qs',j,ih,k1,k2,k3,k4,k5⟩:=KT s l v vs hv hvl cx hcx r (i+1) (V++[p]) (Q++[p]) (ver+1) 0 (Q.map .s++[.s p]) g2 hV' (by simp) (by simp) (by simp;omega)
   refine ⟨p::N,ver',o',qs',j,ak fun K hK=>?_,by simpa using k1,by simpa using k2,by simpa using k3,fun x hx=>?_,fun x hx=>?_⟩
   ·rw [←hK,show ((i+1:Nat):Int)=(i:Int)+1 from rfl] at ih
    clear hK g4
    have hf:=Jo p V
    simp only [hp,if_false] at hf
    have hm:=Wl hp
    have m1:Q.length+1≤aW:=by unfold aW;omega
    have hq:List.take Q.length (List.drop o qs)=Q.map .s:=by rw [h2];rw [List.take_of_length_le (by simp)]
    have hfit:o+Q.length≤qs.length:=by omega
    simp at ih
    simp [mg,g3,g5,hwi,hpl,hf,hm,m1,hq,hfit,hcx.1,hcx.2,ih,Nat.le_succ_of_le hcx.1,Nat.le_succ_of_le hcx.2,yP]
   ·rcases List.mem_cons.1 hx with rfl|hx
    ·simp
    ·simp [k4 x hx]
   ·rcases List.mem_cons.1 hx with rfl|hx
    ·simp
    ·have:=k5 x hx
     simpa using this
theorem TJ {V U:List (List UInt8)} (hV:V.Nodup) (h:∀x∈V,x∈U):V.length≤U.length:=by
 induction V generalizing U with
 | nil=>simp
 | cons a V ih=>
  obtain ⟨h1,h2⟩:=List.nodup_cons.1 hV
  have ha:=h a (by simp)
  have h3:∀x∈V,x∈U.erase a:=fun x hx=>(List.mem_erase_of_ne (fun he=>h1 (by rw [←he];exact hx))).2 (h x (by simp [hx]))
  have:=ih h2 h3
  have h4:0<U.length:=List.length_pos_of_mem ha
  rw [List.length_erase_of_mem ha] at this
  simp only [List.length_cons];omega
theorem Ug (s:St) (l:Nat) (es:List (AV×AV)) (f:List UInt8→List (List UInt8)) (hs:s[l]?=some (.map es)) (hM:aiN es f) (E:List (List UInt8×List UInt8)) (hE:∀k x,x∈f k→(k,x)∈E)
  (hf:∀k,(f k).length≤100000) (role:List UInt8) (U:List (List UInt8)) (hU:∀k,∀x∈f k,x∈U) (hUl:U.length≤200000) (cx:Ctx) (hcx:cx.lim≤s.length∧cx.base≤s.length):
  ∀(n:Nat) (V Q:List (List UInt8)) (ver o:Nat) (qs:List AV),2 * (U.length - V.length)+Q.length≤n→V.Nodup→(∀x∈V,x∈U)→(∀x∈Q,x∈V)→Q.length≤V.length→(∀x∈V,Rch E role x)→(∀x∈V,x ∉ Q→∀y∈f x,y∈V)→
  o+Q.length=qs.length→qs.drop o=Q.map .s→
  ∃(V':List (List UInt8)) (q:AV) (ver':Nat) (qs':List AV),bF (ay P0.glob (aj P0) cx false qf) [1,5,6]
    [(1,.v (.mp l)),(5,.v (.mp s.length)),(6,.v (.sk (s.length+1) ver 1 o Q.length))] (s++[.map (EC V),.buf au 1 ver qs])=
    .exit 0 [(1,.v (.mp l)),(5,.v (.mp s.length)),(6,.v q),(17,.v (.b false))] (s++[.map (EC V'),.buf au 1 ver' qs'])∧
    V'.Nodup∧(∀x∈V,x∈V')∧(∀x∈V',Rch E role x)∧∀x∈V',∀y∈f x,y∈V'
 | n,V,[],ver,o,qs,hn,hV,hVU,hQ,hQl,hR,hC,h1,h2=>by
  refine ⟨V,.sk (s.length+1) ver 1 o 0,ver,qs,ak fun K hK=>?_,hV,fun x hx=>hx,hR,fun x hx=>hC x hx (by simp)⟩
  simp [qf]
 | 0,V,r::Q,ver,o,qs,hn,hV,hVU,hQ,hQl,hR,hC,h1,h2=>by simp at hn
 | n+1,V,r::Q,ver,o,qs,hn,hV,hVU,hQ,hQl,hR,hC,h1,h2=>by
  simp only [List.length_cons] at hn h1 hQl
  have hVl:=TJ hV hVU
  obtain ⟨ro,hro,hv⟩:=hM r
  have hq0:qs[o]?=some (.s r):=by
   have:=congrArg (fun x=>x[0]?) h2
   simpa using this
  have hq1:qs.drop (o+1)=Q.map .s:=by
   have:=congrArg (fun x=>x.drop 1) h2
   simpa [List.drop_drop] using this
  obtain ⟨N,ver1,o1,qs1,j,e1,k1,k2,k3,k4,k5⟩:=KT s l (ro.getD .ns) (f r) hv (hf r) cx hcx (f r) 0 V Q ver (o+1) qs rfl hV (by omega) hq1 (by have:=hf r;omega)
  have hNU:∀x∈V++N,x∈U:=fun x hx=>by
   rcases List.mem_append.1 hx with hx|hx
   ·exact hVU x hx
   ·exact hU r x (k4 x hx)
  have hl2:=TJ k1 hNU
  simp only [List.length_append] at hl2
  have hr:=hR r (hQ r (by simp))
  obtain ⟨V',q,ver',qs',e2,m1,m2,m3,m4⟩:=Ug s l es f hs hM E hE hf role U hU hUl cx hcx n (V++N) (Q++N) ver1 o1 qs1 (by simp only [List.length_append];omega) k1 hNU
   (fun x hx=>by
    rcases List.mem_append.1 hx with hx|hx
    ·exact List.mem_append_left _ (hQ x (by simp [hx]))
    ·exact List.mem_append_right _ hx)
   (by simp only [List.length_append];omega)
   (fun x hx=>by
    rcases List.mem_append.1 hx with hx|hx
    ·exact hR x hx
    ·exact .step hr (hE r x (k4 x hx)))
   (fun x hx hxQ y hy=>by
    simp only [List.mem_append,not_or] at hxQ
    by_cases hxr:x=r
    ·subst hxr;exact k5 y hy
    ·rcases List.mem_append.1 hx with hx|hx
     ·exact List.mem_append_left _ (hC x hx (by simp [hxr,hxQ.1]) y hy)
     ·exact absurd hx hxQ.2)
   k2 k3
  refine ⟨V',q,ver',qs',ak fun K hK=>?_,m1,fun x hx=>m2 x (List.mem_append_left _ hx),m3,m4⟩
  have hKk:∀e t,K e t=K (fJ e [1,5,6]) t:=fun e t=>by rw [hK];exact aaA _ _ _ _
  rw [←hK] at e2
  clear hK
  have hsl:=af2 (a:=.map (EC V)) (b:=.buf au 1 ver qs) hs
  have hel:=fun env=>hv.elems env
  have c1:(0:Int)<((Q.length:Int)+1):=by omega
  have c2:1≤Q.length+1:=by omega
  simp at e1 e2
  simp [qf,hq0,hsl,hro,hel,c1,c2,e1]
  rw [hKk]
  simp [e2]
theorem agy {S:St} {n m l:Nat} {es:List (AV×AV)} (h0:(AV.mp l).under n=false) (h:S[l]?=some (.map es)):rQ S n (m+1) (.mp l)=(es.mapM (XM (rQ S n m))).map .im:=by
 rw [rQ,if_neg (by rw [h0];exact Bool.false_ne_true)]
 simp only [h]
theorem Zc (S:St) (n m:Nat):∀V:List (List UInt8),(EC V).mapM (XM (rQ S n m))=some (EC V)
 | []=>rfl
 | x::V=>by
  have ih:=Zc S n m V
  have h1:rQ S n m (.s x)=some (.s x):=by cases m<;>simp [rQ,AV.under]
  have h2:rQ S n m (.b true)=some (.b true):=by cases m<;>simp [rQ,AV.under]
  simp only [EC,List.map_cons,List.mapM_cons,XM,h1,h2] at ih ⊢
  simp [ih]
theorem Q9 (role:List UInt8) (s:St) (l:Nat) (es:List (AV×AV)) (f:List UInt8→List (List UInt8)) (hs:s[l]?=some (.map es)) (hM:aiN es f) (E:List (List UInt8×List UInt8)) (hE:∀k x,x∈f k ↔ (k,x)∈E)
  (hf:∀k,(f k).length≤100000) (hEl:E.length≤100000) (cx:Ctx):
  ∃V:List (List UInt8),aj P0 (.fn (.func rX) [] []) [.s role,.mp l] s cx=.ret (.im (EC V)) s∧V.Nodup∧∀x,x∈V ↔ Rch E role x:=by
 obtain ⟨V,q,ver,qs,e1,m1,m2,m3,m4⟩:=Ug s l es f hs hM E (fun k x h=>(hE k x).1 h) hf role (role::E.map (·.2)) (fun k x hx=>by
   have:=(hE k x).1 hx
   exact List.mem_cons_of_mem _ (List.mem_map.2 ⟨_,this,rfl⟩)) (by simp;omega) ⟨s.length,s.length⟩ ⟨Nat.le_refl _,Nat.le_refl _⟩ _ [role] [role] 0 0 [.s role] (Nat.le_refl _) (by simp) (fun x hx=>by simp at hx;simp [hx]) (fun x hx=>hx) (by simp) (fun x hx=>by simp at hx;subst hx;exact .refl _)
   (fun x hx hxq=>absurd hx hxq) (by simp) (by simp)
 refine ⟨V,OY (by simp) ?_,m1,fun x=>⟨m3 x,fun h=>?_⟩⟩
 ·have hfz:frz (s++[.map (EC V),.buf au 1 ver qs]) s.length (.mp s.length)=some (.im (EC V)):=by
   have h0:(AV.mp s.length).under s.length=false:=by simp [AV.under]
   unfold frz
   rw [if_neg (by rw [h0];exact Bool.false_ne_true),agy h0 aky,Zc];rfl
  have e0:EC [role]=[(.s role,.b true)]:=rfl
  rw [e0] at e1
  simp at e1
  simp [af,uN,e1,D7,hfz,yP]
  done
 ·exact CY.rch (fun r y he hr=>m4 r hr y ((hE r y).2 he)) h (m2 role (by simp))
end Go.Ai.Z
namespace Go.Ai.Z
def edU (l:List Ax):List (List UInt8×List UInt8):=l.filterMap fun x=>if x.kind=5 then some (x.roles.headD [],x.role) else none
theorem adr {x:Ax} {l:List Ax} (h:x.kind=5):edU (x::l)=(x.roles.headD [],x.role)::edU l:=by simp [edU,h]
theorem adq {x:Ax} {l:List Ax} (h:¬x.kind=5):edU (x::l)=edU l:=by simp [edU,h]
theorem abS (l:List Ax):(edU l).length≤l.length:=List.length_filterMap_le _ _
def alq (l:List Ax):Prop:=∀x∈l,x.kind=5→∃r,x.roles=[r]
theorem aga {x:Ax} (h:Az x=0) (h5:x.kind=5):∃r,x.roles=[r]:=by
 have hs:Ag x=true:=by
  unfold Az at h
  split at h
  ·cases h
  ·rename_i hn;simpa using hn
 have:1≤x.roles.length∧x.roles.length≤1:=by
  simp [Ag,KU,h5,yF] at hs
  omega
 match h1:x.roles with
 | []=>rw [h1] at this;simp at this
 | [r]=>exact ⟨r,rfl⟩
 | _::_::_=>rw [h1] at this;simp at this
theorem Zv:∀{l:List Ax},wJ l=0→∀x∈l,Az x=0
 | [],_,x,hx=>by cases hx
 | y::l,h,x,hx=>by
  unfold wJ at h
  split at h
  ·rcases List.mem_cons.1 hx with rfl|hx
   ·assumption
   ·exact Zv h x hx
  ·contradiction
theorem aeE {l:List Ax} (h:wJ l=0):alq l:=fun x hx h5=>aga (Zv h x hx) h5
abbrev SM:=List (List UInt8×List (List UInt8))
def esG:Nat→SM→List (AV×AV)
 | _,[]=>[]
 | b,p::G=>(.s p.1,.st b (p.2.map .s))::esG (b+1) G
def Gf (G:SM):St:=G.map fun p=>.row au 1 p.2.length
def Dc:SM→List UInt8→List (List UInt8)
 | [],_=>[]
 | p::G,k=>if p.1=k then p.2 else Dc G k
def En:SM→List UInt8→List UInt8→SM
 | [],k,v=>[(k,[v])]
 | p::G,k,v=>if p.1=k then (p.1,p.2++[v])::G else p::En G k v
def BV (G:SM) (E:List (List UInt8×List UInt8)):SM:=E.foldl (fun G p=>En G p.1 p.2) G
@[simp] theorem aeh (G:SM):(Gf G).length=G.length:=by simp [Gf]
theorem Yi (k v x:List UInt8):∀G:SM,Dc (En G k v) x=if k=x then Dc G x++[v] else Dc G x
 | []=>by simp [En,Dc]
 | p::G=>by
  have ih:=Yi k v x G
  by_cases h:p.1=k
  ·by_cases h2:k=x
   ·simp [En,Dc,h,h2]
   ·have h3:¬p.1=x:=by rw [h];exact h2
    simp [En,Dc,h,h2]
  ·by_cases h2:p.1=x
   ·have h3:¬k=x:=fun h3=>h (by rw [h2,h3])
    have h4:¬x=k:=fun h4=>h3 h4.symm
    simp [En,Dc,h2,h3,h4]
   ·simp [En,Dc,h,h2,ih]
theorem N8 (x:List UInt8):∀(E:List (List UInt8×List UInt8)) (G:SM),Dc (BV G E) x=Dc G x++(E.filter fun p=>decide (p.1=x)).map (·.2)
 | [],G=>by simp [BV]
 | p::E,G=>by
  have ih:=N8 x E (En G p.1 p.2)
  simp only [BV,List.foldl_cons] at ih ⊢
  rw [ih,Yi]
  by_cases h:p.1=x<;>simp [h]
theorem aeM {E:List (List UInt8×List UInt8)} {k x:List UInt8}:x∈Dc (BV [] E) k ↔ (k,x)∈E:=by
 rw [N8]
 simp [Dc]
theorem adY {E:List (List UInt8×List UInt8)} {k:List UInt8}:(Dc (BV [] E) k).length≤E.length:=by
 rw [N8]
 simp [Dc,List.length_filter_le]
theorem ZW {n:Nat} (k v:List UInt8):∀{G:SM},(∀p∈G,p.2.length≤n)→∀p∈En G k v,p.2.length≤n+1
 | [],_,p,hp=>by simp [En] at hp;subst hp;simp
 | q::G,h,p,hp=>by
  have hq:=h q (by simp)
  have ih:=ZW k v (G:=G) fun p hp=>h p (by simp [hp])
  by_cases hk:q.1=k
  ·simp only [En,hk,if_true,List.mem_cons] at hp
   rcases hp with rfl|hp
   ·simp;omega
   ·have:=h p (by simp [hp]);omega
  ·simp only [En,hk,if_false,List.mem_cons] at hp
   rcases hp with rfl|hp
   ·omega
   ·exact ih p hp
theorem ZV {k:List UInt8} (v:List UInt8):∀{G:SM},k ∉ G.map (·.1)→En G k v=G++[(k,[v])]
 | [],_=>rfl
 | p::G,h=>by
  simp only [List.map_cons,List.mem_cons,not_or] at h
  have h1:¬p.1=k:=fun e=>h.1 e.symm
  simp [En,h1,ZV v h.2]
theorem Vg {k:List UInt8} (v:List UInt8):∀{G:SM},k∈G.map (·.1)→∃G1 vs G2,G=G1++(k,vs)::G2∧k ∉ G1.map (·.1)∧En G k v=G1++(k,vs++[v])::G2
 | [],h=>by cases h
 | p::G,h=>by
  by_cases h1:p.1=k
  ·refine ⟨[],p.2,G, ?_,by simp, ?_⟩
   ·rw [←h1];rfl
   ·simp [En,h1]
  ·simp only [List.map_cons,List.mem_cons] at h
   have h2:=h.resolve_left fun e=>h1 e.symm
   obtain ⟨G1,vs,G2,e1,e2,e3⟩:=Vg v h2
   refine ⟨p::G1,vs,G2,by rw [e1];rfl, ?_, ?_⟩
   ·simp only [List.map_cons,List.mem_cons,not_or]
    exact ⟨fun e=>h1 e.symm,e2⟩
   ·simp [En,h1,e3]
theorem UE {k:List UInt8}:∀{G:SM} (b:Nat),k ∉ G.map (·.1)→find 1 (.s k) (esG b G)=some none
 | [],_,_=>rfl
 | p::G,b,h=>by
  simp only [List.map_cons,List.mem_cons,not_or] at h
  have ih:=UE (b+1) h.2
  simp [esG,find,uY,h.1,ih]
theorem UD {k:List UInt8} {vs:List (List UInt8)} {G2:SM}:∀{G1:SM} (b:Nat),k ∉ G1.map (·.1)→find 1 (.s k) (esG b (G1++(k,vs)::G2))=some (some (.st (b+G1.length) (vs.map .s)))
 | [],b,_=>by simp [esG,find,uY]
 | p::G,b,h=>by
  simp only [List.map_cons,List.mem_cons,not_or] at h
  have ih:=UD (vs:=vs) (G2:=G2) (b+1) h.2
  have e:b+1+G.length=b+(G.length+1):=by omega
  rw [e] at ih
  simp [esG,find,uY,h.1,ih]
theorem YO {k:List UInt8} {vs:List (List UInt8)}:∀{G:SM} (b:Nat),k ∉ G.map (·.1)→D7 1 (.s k) (.st (b+G.length) (vs.map .s)) (esG b G)=some (esG b (G++[(k,vs)]))
 | [],_,_=>rfl
 | p::G,b,h=>by
  simp only [List.map_cons,List.mem_cons,not_or] at h
  have ih:=YO (vs:=vs) (b+1) h.2
  have e:b+1+G.length=b+(G.length+1):=by omega
  rw [e] at ih
  simp [esG,D7,uY,h.1,ih]
theorem YN {k:List UInt8} {vs ws:List (List UInt8)} {G2:SM}:∀{G1:SM} (b:Nat),k ∉ G1.map (·.1)→D7 1 (.s k) (.st (b+G1.length) (ws.map .s)) (esG b (G1++(k,vs)::G2))=some (esG b (G1++(k,ws)::G2))
 | [],b,_=>by simp [esG,D7,uY]
 | p::G,b,h=>by
  simp only [List.map_cons,List.mem_cons,not_or] at h
  have ih:=YN (vs:=vs) (ws:=ws) (G2:=G2) (b+1) h.2
  have e:b+1+G.length=b+(G.length+1):=by omega
  rw [e] at ih
  simp [esG,D7,uY,h.1,ih]
theorem aif (b:Nat) (G:SM):aiN (esG b G) (Dc G):=by
 intro k
 by_cases h:k∈G.map (·.1)
 ·obtain ⟨G1,vs,G2,e1,e2,e3⟩:=Vg [] h
  clear e3
  refine ⟨_,by rw [e1];exact UD b e2, ?_⟩
  have:Dc G k=vs:=by
   rw [e1];clear e1
   induction G1 with
   | nil=>simp [Dc]
   | cons p G1 ih=>
    simp only [List.map_cons,List.mem_cons,not_or] at e2
    have h1:¬p.1=k:=fun e=>e2.1 e.symm
    simp [Dc,h1,ih e2.2]
  rw [this]
  exact .inr (.inr ⟨_,rfl⟩)
 ·refine ⟨_,UE b h,.inl ⟨rfl, ?_⟩⟩
  clear b
  induction G with
  | nil=>rfl
  | cons p G ih=>
   simp only [List.map_cons,List.mem_cons,not_or] at h
   have h1:¬p.1=k:=fun e=>h.1 e.symm
   simp [Dc,h1,ih h.2]
@[simp] theorem anf {s r:St} {a:dJ}:(s++a::r)[s.length]?=some a:=by simp
@[simp] theorem alT {s r:St} {a b:dJ}:(s++a::r).set s.length b=s++b::r:=by simp
theorem af0 {s r1 r2:St} {a b:dJ}:(s++a::(r1++b::r2))[s.length+1+r1.length]?=some b:=by
 rw [show s.length+1+r1.length=s.length+(1+r1.length) by omega,List.getElem?_append_right (by omega)]
 simp [show s.length+(1+r1.length) - s.length=r1.length+1 by omega]
theorem aaf {s r1 r2:St} {a b c:dJ}:(s++a::(r1++b::r2)).set (s.length+1+r1.length) c=s++a::(r1++c::r2):=by
 rw [show s.length+1+r1.length=s.length+(r1.length+1) by omega,List.set_append,if_neg (by omega),show s.length+(r1.length+1) - s.length=r1.length+1 by omega]
 simp
end Go.Ai.Z
namespace Go.Ai.Z
def upS (l:List Ax) (role:List UInt8):List (List UInt8):=upN (edU l) (l.length+1) [role]
theorem agi {l:List Ax} {role x:List UInt8}:x∈upS l role ↔ Rch (edU l) role x:=agj (by have:=abS l;omega)
def FM (l:List Ax) (role:List UInt8):Int:=if wJ l=0 then (if Hy role=true then 0 else 20) else wJ l
end Go.Ai.Z
namespace Go.Ai.Z
theorem zQ (s:St) (role:List UInt8) (z:Bool) (l:List Ax) (hl:l.length≤1000) (h5:alq l) (cx:Ctx) (hcx:cx.lim≤s.length∧cx.base≤s.length):
  ∀(rest:List Ax) (i:Nat) (G:SM),l.drop i=rest→(∀p∈G,p.2.length≤i)→
  ∃j:Int,bF (ay P0.glob (aj P0) cx false kF) [0,1,7,21,22,23]
   [(0,.v (slf z (l.map wH))),(1,.v (.s role)),(7,.v (.mp s.length)),(21,.v (slf z (l.map wH))),(22,.v (.i .i64 l.length)),(23,.v (.i .i64 i))] (s++.map (esG (s.length+1) G)::Gf G)=
   .exit 0 [(0,.v (slf z (l.map wH))),(1,.v (.s role)),(7,.v (.mp s.length)),(21,.v (slf z (l.map wH))),(22,.v (.i .i64 l.length)),(23,.v (.i .i64 j)),(24,.v (.b false))] (s++.map (esG (s.length+1) (BV G (vH (edU rest))))::Gf (BV G (vH (edU rest))))
 | [],i,G,h,hG=>by
  have h1:¬i<l.length:=Nat.not_lt.2 (drop_nil h)
  refine ⟨i,ak fun K hK=>?_⟩
  simp [kF,h1,edU,BV,vH]
 | p::r,i,G,h,hG=>by
  obtain ⟨g1,g2,g3,g4⟩:=drop_cons h
  have g5:=g4 g3
  have hwi:=wI (i:=i) (by omega)
  have hp:p∈l:=by rw [←g5];exact List.getElem_mem g3
  by_cases hk:p.kind=5
  ·obtain ⟨r0,hr0⟩:=h5 p hp hk
   obtain ⟨j,ih⟩:=zQ s role z l hl h5 cx hcx r (i+1) (En G p.role r0) g2 (ZW p.role r0 hG)
   have e0:BV G (vH (edU (p::r)))=BV (En G p.role r0) (vH (edU r)):=by rw [adr hk,hr0];rfl
   rw [e0]
   refine ⟨j,ak fun K hK=>?_⟩
   rw [←hK,show ((i+1:Nat):Int)=(i:Int)+1 from rfl] at ih
   clear hK g4 h5 e0
   by_cases hm:p.role∈G.map (·.1)
   ·obtain ⟨G1,vs,G2,e1,e2,e3⟩:=Vg r0 hm
    have hvs:vs.length≤i:=hG (p.role,vs) (by rw [e1];simp)
    rw [e3] at ih ⊢
    have f1:=UD (vs:=vs) (G2:=G2) (s.length+1) e2
    have f2:=YN (vs:=vs) (ws:=vs++[r0]) (G2:=G2) (s.length+1) e2
    have f3:=af0 (s:=s) (r1:=Gf G1) (r2:=Gf G2) (a:=.map (esG (s.length+1) (G1++(p.role,vs)::G2))) (b:=.row au 1 vs.length)
    have f4:=aaf (s:=s) (r1:=Gf G1) (r2:=Gf G2) (a:=.map (esG (s.length+1) (G1++(p.role,vs)::G2))) (b:=.row au 1 vs.length) (c:=.row au 1 (vs.length+1))
    have m1:vs.length+1≤aW:=by unfold aW;omega
    have hlim:cx.lim≤s.length+1+G1.length:=by omega
    have k1:∀(ws:List (List UInt8)),Gf (G1++(p.role,ws)::G2)=Gf G1++.row au 1 ws.length::Gf G2:=fun ws=>by simp [Gf]
    rw [aeh] at f3 f4
    subst e1
    rw [k1] at ih ⊢
    simp at f2 ih
    simp [kF,g3,g5,hwi,hk,hr0,f1,f2,f3,f4,m1,hlim,hcx.1,hcx.2,yP,ih]
   ·have e3:=ZV r0 hm
    rw [e3] at ih ⊢
    have f1:=UE (s.length+1) hm
    have f2:=YO (vs:=[r0]) (s.length+1) hm
    rw [show s.length+1+G.length=s.length+(G.length+1) by omega] at f2
    have k1:Gf (G++[(p.role,[r0])])=Gf G++[.row au 1 1]:=by simp [Gf]
    rw [k1] at ih
    have m1:1≤aW:=by unfold aW;omega
    simp at f2 ih
    simp [kF,g3,g5,hwi,hk,hr0,f1,f2,m1,hcx.1,hcx.2,yP,ih]
  ·obtain ⟨j,ih⟩:=zQ s role z l hl h5 cx hcx r (i+1) G g2 fun p hp=>by have:=hG p hp;omega
   rw [adq hk]
   refine ⟨j,ak fun K hK=>?_⟩
   rw [←hK,show ((i+1:Nat):Int)=(i:Int)+1 from rfl] at ih
   clear hK g4 h5
   simp [kF,g3,g5,hwi,hk,ih]
def Pj (l:List Ax) (role:List UInt8) (x:Ax):Bool:=(decide (x.kind=7) || decide (x.kind=6)) && decide (role∈upS l x.role)
theorem abY {l:List Ax} {role:List UInt8} {x:Ax} (h:¬role∈upS l x.role):Pj l role x=false:=by simp [Pj,h]
def zZ (l:List Ax) (role:List UInt8):Bool:=decide (wJ l=0) && Hy role && l.all fun x=>!Pj l role x
theorem FZ (z:Bool) (l:List Ax) (hl:l.length≤1000) (role:List UInt8) (V:List (List UInt8)) (hV:∀x,x∈V ↔ role∈upS l x) (s:St) (cx:Ctx):
  ∀(rest:List Ax) (i:Nat),l.drop i=rest→
  ∃j:Int,bF (ay P0.glob (aj P0) cx false gY) [10,47,48,49]
   [(10,.v (.im (EC V))),(47,.v (slf z (l.map wH))),(48,.v (.i .i64 l.length)),(49,.v (.i .i64 i))] s=
   if (rest.all fun x=>!Pj l role x)=true then .exit 2 [(10,.v (.im (EC V))),(47,.v (slf z (l.map wH))),(48,.v (.i .i64 l.length)),(49,.v (.i .i64 j)),(50,.v (.b false))] s else .ret [(4,.v (.b false)),(5,.v (.i .i64 0))] s
 | [],i,h=>by
  have h1:¬i<l.length:=Nat.not_lt.2 (drop_nil h)
  refine ⟨i,ak fun K hK=>?_⟩
  simp [gY,h1]
 | p::r,i,h=>by
  obtain ⟨g1,g2,g3,g4⟩:=drop_cons h
  have g5:=g4 g3
  have hwi:=wI (i:=i) (by omega)
  obtain ⟨j,ih⟩:=FZ z l hl role V hV s cx r (i+1) g2
  refine ⟨j,ak fun K hK=>?_⟩
  rw [←hK,show ((i+1:Nat):Int)=(i:Int)+1 from rfl] at ih
  have hf:=Jo p.role V
  have hm:=hV p.role
  clear hK g4 hV
  by_cases h7:p.kind=7
  ·by_cases hv:p.role∈V
   ·have hb:Pj l role p=true:=by simp [Pj,h7,hm.1 hv]
    simp only [List.all_cons,hb,Bool.not_true,Bool.false_and]
    rw [if_pos hv] at hf
    simp [gY,g3,g5,hwi,h7,hf]
   ·have hb:Pj l role p=false:=abY fun h=>hv (hm.2 h)
    simp only [List.all_cons,hb,Bool.not_false,Bool.true_and]
    rw [if_neg hv] at hf
    rw [←ih]
    simp [gY,g3,g5,hwi,h7,hf]
  ·by_cases h6:p.kind=6
   ·by_cases hv:p.role∈V
    ·have hb:Pj l role p=true:=by simp [Pj,h6,hm.1 hv]
     simp only [List.all_cons,hb,Bool.not_true,Bool.false_and]
     rw [if_pos hv] at hf
     simp [gY,g3,g5,hwi,h6,hf]
    ·have hb:Pj l role p=false:=abY fun h=>hv (hm.2 h)
     simp only [List.all_cons,hb,Bool.not_false,Bool.true_and]
     rw [if_neg hv] at hf
     rw [←ih]
     simp [gY,g3,g5,hwi,h6,hf]
   ·have hb:Pj l role p=false:=by simp [Pj,h6,h7]
    simp only [List.all_cons,hb,Bool.not_false,Bool.true_and]
    rw [←ih]
    simp [gY,g3,g5,hwi,h6,h7]
theorem afq (S:St) (n:Nat) (b:Bool) (k:IntKind) (i:Int):frz S n (.tu [.b b,.i k i])=some (.tu [.b b,.i k i]):=by
 unfold frz
 rw [if_pos (by simp)]
theorem adk (E:List (List UInt8×List UInt8)):(vH E).length=E.length:=by simp [vH]
theorem Rf (z:Bool) (l:List Ax) (hl:l.length≤100) (hx:∀x∈l,x.Lng) (role:List UInt8) (hr:role.length≤1000) (s:St) (cx:Ctx):
  aj P0 (.fn (.func uz) [] []) [slf z (l.map wH),.s role] s cx=.ret (.tu [.b (zZ l role),.i .i64 (FM l role)]) s:=by
 have e1:=NE z l (by omega) hx [role] (by simp) (by simp;omega)
 refine QW (by simp) ?_
 simp at e1
 by_cases h0:wJ l=0
 ·by_cases h1:Hy role=true
  ·obtain ⟨j,h⟩:=zQ s role z l (by omega) (aeE h0) ⟨s.length,s.length⟩ ⟨Nat.le_refl _,Nat.le_refl _⟩ l 0 [] rfl (by simp)
   have el:=abS l
   have fl:=adk (edU l)
   have hcl:=fun cx=>Q9 role (s++.map (esG (s.length+1) (BV [] (vH (edU l))))::Gf (BV [] (vH (edU l)))) s.length (esG (s.length+1) (BV [] (vH (edU l)))) (Dc (BV [] (vH (edU l)))) (by simp)
    (aif _ _) (vH (edU l)) (fun k x=>aeM) (fun k=>by have:=adY (E:=vH (edU l)) (k:=k);omega) (by omega) cx
   generalize hG:BV [] (vH (edU l))=G at h hcl
   obtain ⟨V,e2,m1,m2⟩:=hcl ⟨s.length,s.length⟩
   have hV:∀x,x∈V ↔ role∈upS l x:=fun x=>by rw [m2,agi,Rch.flip_iff]
   obtain ⟨j2,h2⟩:=FZ z l (by omega) role V hV (s++.map (esG (s.length+1) G)::Gf G) ⟨s.length,s.length⟩ l 0 rfl
   have a2:FM l role=0:=by simp [FM,h0,h1]
   rw [a2]
   simp only [h0,h1,if_true] at e1
   simp [esG,show Gf []=[] from rfl] at h
   simp only [Int.ofNat_zero] at h2
   by_cases hb:(l.all fun x=>!Pj l role x)=true
   ·have a1:zZ l role=true:=by simp only [zZ,h0,h1,hb];rfl
    rw [if_pos hb] at h2
    rw [a1]
    try simp at h2
    simp [af,lV,e1,h,e2,h2,afq]
   ·have a1:zZ l role=false:=by simp only [zZ,h0,h1];simpa using hb
    rw [if_neg hb] at h2
    rw [a1]
    try simp at h2
    simp [af,lV,e1,h,e2,h2,afq]
  ·have a1:zZ l role=false:=by simp [zZ,h1]
   have a2:FM l role=20:=by simp [FM,h0,h1]
   rw [a1,a2]
   simp only [h0,h1,if_true,if_false] at e1
   simp [af,lV,e1]
 ·have a1:zZ l role=false:=by simp [zZ,h0]
  have a2:FM l role=wJ l:=by simp [FM,h0]
  rw [a1,a2]
  simp only [h0,if_false] at e1
  simp [af,lV,e1,h0]
end Go.Ai.Z
