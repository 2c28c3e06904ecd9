/-
 What the library's maps.Keys and slices.Sorted come to, for the interpreter's heap.
-/
import Derived.Test.YtpihciomhfoafaaGreatDoorAiRn5
import Derived.Test.YtpihciomhfoafaaGreatDoorAiC1
import Derived.Sort.KeysCollected
set_option maxRecDepth 100000
set_option linter.unusedSimpArgs false
set_option linter.unusedVariables false
set_option linter.unusedSectionVars false
namespace Go.Ai
open Go.Proofs (encStr)
open Go.Maps Go.Sort
variable {qt:Prop} {P:Program} {glob:Nat→Option (List AV)} {g:af} {s:St} {w:World}
theorem zT {H:Type}:∀(l:List (Lit×DataW H)),(l.foldr DataW.insert []).Perm l:=by
 have one:∀(x:Lit×DataW H) (l:List (Lit×DataW H)),(DataW.insert x l).Perm (x::l):=by
  intro x l
  induction l with
  | nil=>exact .refl _
  | cons y r ih=>
   simp only [DataW.insert]
   split
   ·exact .refl _
   ·exact (List.Perm.cons y ih).trans (List.Perm.swap x y r)
 intro l
 induction l with
 | nil=>exact .refl _
 | cons x r ih=>exact (one x _).trans (List.Perm.cons x ih)
theorem LU:∀(a b:List (List UInt8)),a.map encStr=b.map encStr→a=b
 | [],[],_=>rfl
 | [],_::_,h=>by simp at h
 | _::_,[],h=>by simp at h
 | x::a,y::b,h=>by
  simp only [List.map_cons,List.cons.injEq] at h
  rw [encStr_inj h.1,LU a b h.2]
def UB:Value→List UInt8
 | .string s=>s.data.toList
 | _=>[]
theorem Yc (x:List UInt8):UB (encStr x)=x:=by simp [UB,encStr]
theorem WO (a b:List (List UInt8)) (h:(a.map encStr).Perm (b.map encStr)):a.Perm b:=by
 have:=h.map UB
 simpa [List.map_map,Function.comp_def,Yc] using this
theorem Vm {kt:TypeId} (hk:P.underlying kt=some .string) {b clock:Nat} {ents:Array MapEntry} (hb:w.heap[b]?=some (.map ents clock)) (hbn:Born ents clock) {ks:List (List UInt8)}
  (hks:ents.toList.map (·.key)=ks.map encStr) (hnd:ks.Nodup) (hl:ks.length≤1048576) (hl2:∀x∈ks,x.length≤1048576):
  ∃D0:DataW Unit,w.ownsMap P kt (fun _=>some ((.nil:DataW Unit),[])) b ents.size D0∧(strKeys D0).Perm ks∧Maps.size D0=ks.length:=by
 have hsz:ents.size=ks.length:=by have:=congrArg List.length hks;simpa using this
 have hkey:∀x∈ents.toList,∃u∈ks,x.key=encStr u:=by
  intro x hx
  have:x.key∈ents.toList.map (·.key):=List.mem_map.2 ⟨x,hx,rfl⟩
  rw [hks] at this
  obtain ⟨u,hu,he⟩:=List.mem_map.1 this
  exact ⟨u,hu,he.symm⟩
 have hko:∀u∈ks,keyOf P kt (encStr u)=some (.string u):=by
  intro u hu
  have:=hl2 u hu
  have h3:u.length≤maxLen:=by simp only [maxLen];omega
  simp [keyOf,hk,mapKey,encStr,ByteArray.size_mk',h3]
 have hrd:∀x∈ents.toList,∃u∈ks,x.key=encStr u∧WideElems.rd P kt (fun _=>some ((.nil:DataW Unit),[])) x=some (.string u,.nil):=by
  intro x hx
  obtain ⟨u,hu,he⟩:=hkey x hx
  refine ⟨u,hu,he, ?_⟩
  simp [WideElems.rd,he,hko u hu]
 have hinj:∀a b:List UInt8,encStr a=encStr b→a=b:=fun a b h=>encStr_inj h
 refine ⟨.map ((ents.toList.map (WideElems.rg P kt (fun _=>some ((.nil:DataW Unit),[])))).foldr DataW.insert []),⟨ents,clock,hb,⟨by simp only [maxLen];omega,⟨hbn.1,hbn.2, ?_⟩,fun x hx=>?_⟩,Nat.le_refl _,rfl⟩, ?_, ?_⟩
 ·rw [hks]
  exact List.Pairwise.map _ (fun a b hab h=>hab (hinj a b h)) hnd
 ·obtain ⟨u,_,_,hr⟩:=hrd x hx
  exact ⟨_,hr⟩
 ·show (((ents.toList.map (WideElems.rg P kt (fun _=>some ((.nil:DataW Unit),[])))).foldr DataW.insert []).map fun p=>Go.strOf p.1).Perm ks
  refine ((zT _).map _).trans ?_
  rw [List.map_map]
  have:ents.toList.map ((fun p:Lit×DataW Unit=>Go.strOf p.1) ∘ WideElems.rg P kt (fun _=>some ((.nil:DataW Unit),[])))=ks:=by
   have h1:∀x∈ents.toList,encStr (((fun p:Lit×DataW Unit=>Go.strOf p.1) ∘ WideElems.rg P kt (fun _=>some ((.nil:DataW Unit),[]))) x)=x.key:=by
    intro x hx
    obtain ⟨u,_,he,hr⟩:=hrd x hx
    simp only [Function.comp,WideElems.rg,hr,Option.getD_some,Go.strOf,he]
   have h2:(ents.toList.map ((fun p:Lit×DataW Unit=>Go.strOf p.1) ∘ WideElems.rg P kt (fun _=>some ((.nil:DataW Unit),[])))).map encStr=ks.map encStr:=by
    rw [←hks,List.map_map]
    exact List.map_congr_left h1
   exact LU _ _ h2
  rw [this]
 ·have:=(zT (ents.toList.map (WideElems.rg P kt (fun _=>some ((.nil:DataW Unit),[]))))).length_eq
  simp only [Maps.size,this,List.length_map]
  simpa using hsz
theorem QI:∀l:List (List UInt8),(l.map AV.s).flatMap AV.cells=l.map AV.s
 | []=>rfl
 | a::l=>by simp [AV.cells,QI l]
theorem Vt (h:Base P glob g s w) {w':World} (hg:Grew qt w w') {t:TypeId} {v:Value} {l:List (List UInt8)} (hown:w'.ownsRow w.heap.size t 1 v l.length (l.map encStr)) (hne:l≠[]):
  ∃g',g.le s.length g' s.length∧g'.L=g.L∧g'.hist=g.hist∧(∀b,b<w.heap.size→g'.m b=g.m b∧g'.mm b=g.mm b)∧Imm g' w'∧Rep g' s.length v (.sl (l.map .s)):=by
 rcases hown.2 with ⟨_,hn⟩|⟨b,cap,cur,hv,hB,hrow,hcap,_,_,htake⟩
 ·exact absurd (List.eq_nil_of_length_eq_zero hn) hne
 ·have hfr:=h.imm.fresh hB
  have hother:∀b',b'≠b→(g.claim b (l.map encStr)).m b'=g.m b':=by intro b' hb';funext j;simp [af.claim,hb']
  have him:=h.imm.grew hg
  have hcell:∀j (hj:j<(l.map encStr).length),w'.cell? ⟨b,j,none⟩=some (l.map encStr)[j]:=by
   intro j hj
   rw [cell_of_row w' b j cur t (0,0) hrow]
   have e1:(cur.toList.take (l.length * 1))[j]?=some (l.map encStr)[j]:=by rw [htake];exact List.getElem?_eq_getElem hj
   rw [List.getElem?_take] at e1
   split at e1
   ·simpa using e1
   ·cases e1
  refine ⟨g.claim b (l.map encStr),⟨fun b' o u hm=>?_,fun _ _ h=>h,fun _ _=>rfl,fun _ _ _ _ h=>h,Nat.le_refl _⟩,rfl,rfl,fun b' hb'=>⟨hother b' (by omega),rfl⟩,⟨fun b' o u hm=>?_,him.mm⟩, ?_⟩
  ·by_cases hbb:b'=b
   ·subst hbb;rw [hfr.m o] at hm;cases hm
   ·rw [hother b' hbb];exact hm
  ·by_cases hbb:b'=b
   ·subst hbb
    simp only [af.claim,true_and] at hm
    split at hm
    ·rename_i ho
     rw [hcell o ho]
     rw [List.getElem?_eq_getElem ho] at hm;exact hm
    ·rw [hfr.m o] at hm;cases hm
   ·rw [hother b' hbb] at hm;exact him.m b' o u hm
  ·rw [hv]
   have hflat:(l.map AV.s).flatMap AV.cells=l.map AV.s:=by
    exact QI l
   have:=EM (g:=g.claim b (l.map encStr)) (n:=s.length) (b:=b) (off:=0) (cap:=cap) (sz:=1) (es:=l.map AV.s) (xs:=l.map encStr) (by simpa using hcap)
    (fun y hy=>by simp at hy;obtain ⟨x,_,rfl⟩:=hy;rfl)
    (by rw [hflat];exact ⟨by simp,fun i hi hi'=>by simp [encStr];exact .s _⟩)
    (fun u hu=>by simp at hu;obtain ⟨x,_,rfl⟩:=hu;rfl) (fun j hj=>by rw [Nat.zero_add];simp [af.claim];simp at hj;simp [hj])
   simpa using this
theorem Xc (h:Base P glob g s w) {c:Value} {m:AV} {ty:TypeId} (hr:Rep g s.length c m):
  ∃g',g.le s.length g' s.length∧g'.L=g.L∧g'.hist=g.hist∧(∀b,b<w.heap.size→g'.m b=g.m b∧g'.mm b=g.mm b)∧Imm g' (w.alloc (.cells #[c] ty))∧Rep g' s.length (.pointer (some ⟨w.heap.size,0,none⟩)) (.kb m):=by
 have hfr:=h.imm.fresh (Nat.le_refl w.heap.size)
 have hother:∀b',b'≠w.heap.size→(g.claim w.heap.size [c]).m b'=g.m b':=by intro b' hb';funext j;simp [af.claim,hb']
 have him:=h.imm.grew (Grew.alloc (qt:=True) w (.cells #[c] ty))
 have hle:g.le s.length (g.claim w.heap.size [c]) s.length:=by
  refine ⟨fun b' o u hm=>?_,fun _ _ h=>h,fun _ _=>rfl,fun _ _ _ _ h=>h,Nat.le_refl _⟩
  by_cases hbb:b'=w.heap.size
  ·subst hbb;rw [hfr.m o] at hm;cases hm
  ·rw [hother b' hbb];exact hm
 refine ⟨g.claim w.heap.size [c],hle,rfl,rfl,fun b' hb'=>⟨hother b' (by omega),rfl⟩,⟨fun b' o u hm=>?_,him.mm⟩,.kb _ c m (by simp [af.claim]) (hr.mono hle)⟩
 by_cases hbb:b'=w.heap.size
 ·subst hbb
  simp only [af.claim,true_and] at hm
  split at hm
  ·rename_i ho
   have:o=0:=by simp at ho;exact ho
   subst this
   rw [cell_of_row _ _ 0 #[c] ty (0,0) (heap_alloc_new w _)]
   simpa using hm
  ·rw [hfr.m o] at hm;cases hm
 ·rw [hother b' hbb] at hm;exact him.m b' o u hm
theorem KQ {N:Nat}:∀(es:List AV) (vs:List Value) {ks:List (List UInt8)},aB g N vs es→es.mapM Ai.strOf=some ks→vs=ks.map encStr
 | [],vs,ks,hr,hm=>by
  simp at hm;subst hm
  exact List.eq_nil_of_length_eq_zero hr.1
 | e::es,vs,ks,hr,hm=>by
  cases vs with
  | nil=>exact absurd hr.1 (by simp)
  | cons v vs=>
   simp only [List.mapM_cons,Option.bind_eq_bind,Option.pure_def] at hm
   cases h1:Ai.strOf e with
   | none=>simp [h1] at hm
   | some k=>
    cases h2:es.mapM Ai.strOf with
    | none=>simp [h1,h2] at hm
    | some ks'=>
     simp [h1,h2] at hm
     subst hm
     have:e=.s k:=by cases e<;>simp [Ai.strOf] at h1;rw [h1]
     subst this
     rw [iV hr.head,KQ es vs hr.tail h2];rfl
theorem SQ (es:List (AV×AV)):es.mapM (fun p=>Ai.strOf p.1)=(es.map (·.1)).mapM Ai.strOf:=by
 induction es with
 | nil=>rfl
 | cons p es ih=>simp [ih]
theorem SV (h:Base P glob g s w) {m:AV} {c:Value} (hr:Rep g s.length c m) {ks:List (List UInt8)} (hk:W9 s m=some ks):
  (c=.map none∧ks=[])∨∃b ents clock,∃ks':List (List UInt8),c=.map (some b)∧w.heap[b]?=some (.map ents clock)∧Born ents clock∧ents.toList.map (·.key)=ks'.map encStr∧ks'.Perm ks:=by
 unfold W9 at hk
 split at hk
 ·rename_i es
  rw [SQ] at hk
  cases hr with
  | im bk _ vs hm hl hkk hvv=>
   obtain ⟨ents,clock,q1,q2,q3⟩:=h.imm.mm bk _ hm
   have rk:aB g s.length (ents.toList.map (·.key)) (es.map (·.1)):=by
    refine ⟨by rw [←q2] at hl;simpa using hl,fun i hi1 hi2=>?_⟩
    subst q2
    have:=hkk i (by simpa using hi1) (by simpa using hi2)
    simpa using this
   exact .inr ⟨bk,ents,clock,ks,rfl,q1,q3,KQ _ _ rk hk,.refl _⟩
 ·rename_i l
  cases hr with
  | mp _ hlt=>
   split at hk
   ·rename_i es hs
    rw [SQ] at hk
    obtain ⟨_,ents,clock,q1,q2,q3,q4⟩:=h.heap.obj l _ hs
    exact .inr ⟨g.L l,ents,clock,ks,rfl,q1,q4,KQ _ _ q2 hk,.refl _⟩
   ·rename_i es hs
    cases hk
    obtain ⟨_,ents,clock,ents',q1,q2,q3,q4,q5,q6,q7⟩:=h.heap.obj l _ hs
    -- the entries as they lie are a rearrangement of those in order
    have hp:(ents.toList.map (·.key)).Perm ((es.map (·.1)).map encStr):=by
     have h1:(ents'.map (·.key))=(es.map (·.1)).map encStr:=by rw [q3,List.map_map];rfl
     rw [←h1]
     exact (q2.map _).symm
    have hall:∀v∈ents.toList.map (·.key),∃u,v=encStr u:=by
     intro v hv
     obtain ⟨u,_,hu⟩:=List.mem_map.1 (hp.mem_iff.1 hv)
     exact ⟨u,hu.symm⟩
    have hex:∀(vs:List Value),(∀v∈vs,∃u,v=encStr u)→∃us:List (List UInt8),vs=us.map encStr:=by
     intro vs
     induction vs with
     | nil=>intro _;exact ⟨[],rfl⟩
     | cons v vs ih=>
      intro hv
      obtain ⟨u,hu⟩:=hv v (by simp)
      obtain ⟨us,hus⟩:=ih (fun x hx=>hv x (by simp [hx]))
      exact ⟨u::us,by simp [hu,hus]⟩
    obtain ⟨ks',hks'⟩:=hex _ hall
    refine .inr ⟨g.L l,ents,clock,ks',rfl,q1,q7,hks', ?_⟩
    rw [hks'] at hp
    exact WO _ _ hp
   ·cases hk
 ·cases hk
  cases hr
  exact .inl ⟨rfl,rfl⟩
 ·cases hk
end Go.Ai
