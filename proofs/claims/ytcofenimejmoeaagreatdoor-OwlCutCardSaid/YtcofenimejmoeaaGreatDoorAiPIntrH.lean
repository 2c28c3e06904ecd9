/-
 What the library's maps.Keys and slices.Sorted come to, for the interpreter's heap.
-/
import Derived.Test.YtcofenimejmoeaaGreatDoorAiDf
import Derived.Test.YtcofenimejmoeaaGreatDoorAiC1
import Derived.Sort.KeysCollected
set_option maxRecDepth 100000
set_option linter.unusedSimpArgs false
set_option linter.unusedVariables false
set_option linter.unusedSectionVars false
namespace Go.Ai
open Go.Proofs (encStr)
open Go.Maps Go.Sort
variable {qt:Prop} {P:Program} {glob:Nat→Option (List AV)} {g:ai} {s:St} {w:World}
theorem CQ {H:Type}:∀(l:List (Lit×DataW H)),(l.foldr DataW.insert []).Perm l:=by
 have p:∀(x:Lit×DataW H) (l:List (Lit×DataW H)),(DataW.insert x l).Perm (x::l):=by
  intro x l
  induction l with
  | nil=>exact .refl _
  | cons y r ih=>
   simp only [DataW.insert];split
   ·exact .refl _
   ·exact (List.Perm.cons y ih).trans (List.Perm.swap x y r)
 intro l
 induction l with
 | nil=>exact .refl _
 | cons x r ih=>exact (p x _).trans (List.Perm.cons x ih)
theorem OY:∀(a b:List Rl),a.map encStr=b.map encStr→a=b
 | [],[],_=>rfl
 | [],_::_,h=>by simp at h
 | _::_,[],h=>by simp at h
 | x::a,y::b,h=>by
  simp only [List.map_cons,List.cons.injEq] at h;rw [encStr_inj h.1,OY a b h.2]
def aaJ:Value→Rl
 | .string s=>s.data.toList
 | _=>[]
theorem ahC (x:Rl):aaJ (encStr x)=x:=by simp [aaJ,encStr]
theorem aew (a b:List Rl) (h:(a.map encStr).Perm (b.map encStr)):a.Perm b:=by
 have:=h.map aaJ
 simpa [List.map_map,Function.comp_def,ahC] using this
theorem acG {kt:TypeId} (hk:P.underlying kt=some .string) {b Y:Nat} {A:Array MapEntry} (hb:w.heap[b]?=some (.map A Y)) (W:Born A Y) {ks:List Rl}
  (I:A.toList.map (·.key)=ks.map encStr) (a0:ks.Nodup) (hl:ks.length≤1048576) (Z:∀x∈ks,x.length≤1048576):
  ∃D0:DataW Unit,w.ownsMap P kt (fun _=>some ((.nil:DataW Unit),[])) b A.size D0∧(strKeys D0).Perm ks∧Maps.size D0=ks.length:=by
 have R:A.size=ks.length:=by have:=congrArg List.length I;simpa using this
 have K:∀x∈A.toList,∃u∈ks,x.key=encStr u:=by
  intro x hx
  have:x.key∈A.toList.map (·.key):=List.mem_map.2 ⟨x,hx,rfl⟩
  rw [I] at this;obtain ⟨u,hu,he⟩:=List.mem_map.1 this;exact ⟨u,hu,he.symm⟩
 have Q:∀u∈ks,keyOf P kt (encStr u)=some (.string u):=by
  intro u hu
  have:=Z u hu
  have h3:u.length≤maxLen:=by simp only [maxLen];omega
  simp [keyOf,hk,mapKey,encStr,ByteArray.size_mk',h3]
 have J:∀x∈A.toList,∃u∈ks,x.key=encStr u∧WideElems.rd P kt (fun _=>some ((.nil:DataW Unit),[])) x=some (.string u,.nil):=by
  intro x hx;obtain ⟨u,hu,he⟩:=K x hx;refine ⟨u,hu,he, ?_⟩;simp [WideElems.rd,he,Q u hu]
 have O:∀a b:Rl,encStr a=encStr b→a=b:=fun a b h=>encStr_inj h;refine ⟨.map ((A.toList.map (WideElems.rg P kt (fun _=>some ((.nil:DataW Unit),[])))).foldr DataW.insert []),⟨A,Y,hb,⟨by simp only [maxLen];omega,⟨W.1,W.2, ?_⟩,fun x hx=>?_⟩,Nat.le_refl _,rfl⟩, ?_, ?_⟩
 ·rw [I];exact List.Pairwise.map _ (fun a b S h=>S (O a b h)) a0
 ·obtain ⟨u,_,_,hr⟩:=J x hx;exact ⟨_,hr⟩
 ·show (((A.toList.map (WideElems.rg P kt (fun _=>some ((.nil:DataW Unit),[])))).foldr DataW.insert []).map fun p=>Go.strOf p.1).Perm ks;refine ((CQ _).map _).trans ?_;rw [List.map_map]
  have:A.toList.map ((fun p:Lit×DataW Unit=>Go.strOf p.1) ∘ WideElems.rg P kt (fun _=>some ((.nil:DataW Unit),[])))=ks:=by
   have h1:∀x∈A.toList,encStr (((fun p:Lit×DataW Unit=>Go.strOf p.1) ∘ WideElems.rg P kt (fun _=>some ((.nil:DataW Unit),[]))) x)=x.key:=by
    intro x hx;obtain ⟨u,_,he,hr⟩:=J x hx;simp only [Function.comp,WideElems.rg,hr,Option.getD_some,Go.strOf,he]
   have h2:(A.toList.map ((fun p:Lit×DataW Unit=>Go.strOf p.1) ∘ WideElems.rg P kt (fun _=>some ((.nil:DataW Unit),[])))).map encStr=ks.map encStr:=by
    rw [←I,List.map_map];exact List.map_congr_left h1
   exact OY _ _ h2
  rw [this]
 ·have:=(CQ (A.toList.map (WideElems.rg P kt (fun _=>some ((.nil:DataW Unit),[]))))).length_eq
  simp only [Maps.size,this,List.length_map]
  simpa using R
theorem VJ:∀l:List Rl,(l.map AV.s).flatMap AV.cells=l.map AV.s
 | []=>rfl
 | a::l=>by simp [AV.cells,VJ l]
theorem acV (h:Base P glob g s w) {w':World} (hg:Grew qt w w') {t:TypeId} {v:Value} {l:List Rl} (Y:w'.ownsRow w.heap.size t 1 v l.length (l.map encStr)) (Z:l≠[]):
  ∃g',g.le s.length g' s.length∧g'.L=g.L∧g'.hist=g.hist∧(∀b,b<w.heap.size→g'.m b=g.m b∧g'.mm b=g.mm b)∧Imm g' w'∧Rep g' s.length v (.sl (l.map .s)):=by
 rcases Y.2 with ⟨_,hn⟩|⟨b,cap,K,hv,hB,R,O,_,_,I⟩
 ·exact absurd (List.eq_nil_of_length_eq_zero hn) Z
 ·have W:=h.imm.fresh hB;have p:∀b',b'≠b→(g.claim b (l.map encStr)).m b'=g.m b':=by intro b' Q;funext j;simp [ai.claim,Q]
  have S:=h.imm.grew hg
  have J:∀j (hj:j<(l.map encStr).length),w'.cell? ⟨b,j,none⟩=some (l.map encStr)[j]:=by
   intro j hj;rw [cell_of_row w' b j K t (0,0) R];have e1:(K.toList.take (l.length * 1))[j]?=some (l.map encStr)[j]:=by rw [I];exact List.getElem?_eq_getElem hj
   rw [List.getElem?_take] at e1
   split at e1
   ·simpa using e1
   ·cases e1
  refine ⟨g.claim b (l.map encStr),⟨fun b' o u hm=>?_,fun _ _ h=>h,fun _ _=>rfl,fun _ _ _ _ h=>h,Nat.le_refl _⟩,rfl,rfl,fun b' Q=>⟨p b' (by omega),rfl⟩,⟨fun b' o u hm=>?_,S.mm⟩, ?_⟩
  ·by_cases hbb:b'=b
   ·subst hbb;rw [W.m o] at hm;cases hm
   ·rw [p b' hbb];exact hm
  ·by_cases hbb:b'=b
   ·subst hbb;simp only [ai.claim,true_and] at hm
    split at hm
    ·rename_i ho;rw [J o ho];rw [List.getElem?_eq_getElem ho] at hm;exact hm
    ·rw [W.m o] at hm;cases hm
   ·rw [p b' hbb] at hm;exact S.m b' o u hm
  ·rw [hv]
   have A:(l.map AV.s).flatMap AV.cells=l.map AV.s:=by
    exact VJ l
   have:=F9 (g:=g.claim b (l.map encStr)) (n:=s.length) (b:=b) (off:=0) (cap:=cap) (sz:=1) (es:=l.map AV.s) (xs:=l.map encStr) (by simpa using O)
    (fun y hy=>by simp at hy;obtain ⟨x,_,rfl⟩:=hy;rfl)
    (by rw [A];exact ⟨by simp,fun i hi a0=>by simp [encStr];exact .s _⟩)
    (fun u hu=>by simp at hu;obtain ⟨x,_,rfl⟩:=hu;rfl) (fun j hj=>by rw [Nat.zero_add];simp [ai.claim];simp at hj;simp [hj])
   simpa using this
theorem afc (h:Base P glob g s w) {c:Value} {m:AV} {ty:TypeId} (hr:Rep g s.length c m):
  ∃g',g.le s.length g' s.length∧g'.L=g.L∧g'.hist=g.hist∧(∀b,b<w.heap.size→g'.m b=g.m b∧g'.mm b=g.mm b)∧Imm g' (w.alloc (.cells #[c] ty))∧Rep g' s.length (.pointer (some ⟨w.heap.size,0,none⟩)) (.kb m):=by
 have J:=h.imm.fresh (Nat.le_refl w.heap.size);have p:∀b',b'≠w.heap.size→(g.claim w.heap.size [c]).m b'=g.m b':=by intro b' I;funext j;simp [ai.claim,I]
 have x:=h.imm.grew (Grew.alloc (qt:=True) w (.cells #[c] ty))
 have A:g.le s.length (g.claim w.heap.size [c]) s.length:=by
  refine ⟨fun b' o u hm=>?_,fun _ _ h=>h,fun _ _=>rfl,fun _ _ _ _ h=>h,Nat.le_refl _⟩;by_cases hbb:b'=w.heap.size
  ·subst hbb;rw [J.m o] at hm;cases hm
  ·rw [p b' hbb];exact hm
 refine ⟨g.claim w.heap.size [c],A,rfl,rfl,fun b' I=>⟨p b' (by omega),rfl⟩,⟨fun b' o u hm=>?_,x.mm⟩,.kb _ c m (by simp [ai.claim]) (hr.mono A)⟩;by_cases hbb:b'=w.heap.size
 ·subst hbb;simp only [ai.claim,true_and] at hm
  split at hm
  ·rename_i ho
   have:o=0:=by simp at ho;exact ho
   subst this;rw [cell_of_row _ _ 0 #[c] ty (0,0) (heap_alloc_new w _)]
   simpa using hm
  ·rw [J.m o] at hm;cases hm
 ·rw [p b' hbb] at hm;exact x.m b' o u hm
theorem NS {N:Nat}:∀(es:List AV) (vs:List Value) {ks:List Rl},aX g N vs es→es.mapM Ai.strOf=some ks→vs=ks.map encStr
 | [],vs,ks,hr,hm=>by
  simp at hm;subst hm;exact List.eq_nil_of_length_eq_zero hr.1
 | e::es,vs,ks,hr,hm=>by
  cases vs with
  | nil=>exact absurd hr.1 (by simp)
  | cons v vs=>
   simp only [List.mapM_cons,Option.bind_eq_bind,Option.pure_def] at hm
   cases h1:Ai.strOf e with
   | none=>simp [h1] at hm
   | some k=>
    cases h2:es.mapM Ai.strOf with
    | none=>simp [h1,h2] at hm
    | some ks'=>
     simp [h1,h2] at hm;subst hm
     have:e=.s k:=by cases e<;>simp [Ai.strOf] at h1;rw [h1]
     subst this;rw [rZ hr.head,NS es vs hr.tail h2];rfl
theorem Yu (es:List (AV×AV)):es.mapM (fun p=>Ai.strOf p.1)=(es.map (·.1)).mapM Ai.strOf:=by
 induction es with
 | nil=>rfl
 | cons p es ih=>simp [ih]
theorem Yx (h:Base P glob g s w) {m:AV} {c:Value} (hr:Rep g s.length c m) {ks:List Rl} (hk:Yy s m=some ks):
  (c=.map none∧ks=[])∨∃b ents clock,∃ks':List Rl,c=.map (some b)∧w.heap[b]?=some (.map ents clock)∧Born ents clock∧ents.toList.map (·.key)=ks'.map encStr∧ks'.Perm ks:=by
 unfold Yy at hk
 split at hk
 ·rename_i es;rw [Yu] at hk
  cases hr with
  | im bk _ vs hm hl hkk hvv=>
   obtain ⟨ents,clock,q1,q2,q3⟩:=h.imm.mm bk _ hm
   have rk:aX g s.length (ents.toList.map (·.key)) (es.map (·.1)):=by
    refine ⟨by rw [←q2] at hl;simpa using hl,fun i J O=>?_⟩;subst q2
    have:=hkk i (by simpa using J) (by simpa using O)
    simpa using this
   exact .inr ⟨bk,ents,clock,ks,rfl,q1,q3,NS _ _ rk hk,.refl _⟩
 ·rename_i l
  cases hr with
  | mp _ hlt=>
   split at hk
   ·rename_i es hs;rw [Yu] at hk;obtain ⟨_,ents,clock,q1,q2,q3,q4⟩:=h.heap.obj l _ hs;exact .inr ⟨g.L l,ents,clock,ks,rfl,q1,q4,NS _ _ q2 hk,.refl _⟩
   ·rename_i es hs;cases hk;obtain ⟨_,ents,clock,A,q1,q2,q3,q4,q5,q6,q7⟩:=h.heap.obj l _ hs
    -- the entries as they lie are a rearrangement of those in order
    have hp:(ents.toList.map (·.key)).Perm ((es.map (·.1)).map encStr):=by
     have h1:(A.map (·.key))=(es.map (·.1)).map encStr:=by rw [q3,List.map_map];rfl
     rw [←h1];exact (q2.map _).symm
    have I:∀v∈ents.toList.map (·.key),∃u,v=encStr u:=by
     intro v hv;obtain ⟨u,_,hu⟩:=List.mem_map.1 (hp.mem_iff.1 hv);exact ⟨u,hu.symm⟩
    have Q:∀(vs:List Value),(∀v∈vs,∃u,v=encStr u)→∃us:List Rl,vs=us.map encStr:=by
     intro vs
     induction vs with
     | nil=>intro _;exact ⟨[],rfl⟩
     | cons v vs ih=>
      intro hv;obtain ⟨u,hu⟩:=hv v (by simp);obtain ⟨us,K⟩:=ih (fun x hx=>hv x (by simp [hx]));exact ⟨u::us,by simp [hu,K]⟩
    obtain ⟨ks',p⟩:=Q _ I;refine .inr ⟨g.L l,ents,clock,ks',rfl,q1,q7,p, ?_⟩;rw [p] at hp;exact aew _ _ hp
   ·cases hk
 ·cases hk;cases hr;exact .inl ⟨rfl,rfl⟩
 ·cases hk
end Go.Ai
