/-
 From the interpreter's answer to the call; from the arguments' reading to what they represent.
-/
import Derived.Test.YtpihciomhfoafaaGreatDoorAiRn5
import Derived.Test.YtpihciomhfoafaaGreatDoorAiB1
import Derived.Test.YtpihciomhfoafaaGreatDoorAiDat
import Derived.ChangeArms
import Derived.DataReads
import Derived.Deep.Slices
import GoSem.ClaimJoined
import Derived.OpenShut
import Derived.WideKeyArgs
import Derived.ChangeSame
import Derived.ProofKit
set_option maxRecDepth 100000
set_option linter.unusedSimpArgs false
set_option linter.unusedVariables false
set_option linter.unusedSectionVars false
namespace Go.Ai
open Classical in
noncomputable def g0 (W:World):af where
 m b o:=W.cell? ⟨b,o,none⟩
 mm b:=match W.heap[b]? with
  | some (.map ents clock)=>if Born ents clock then some (.inl (ents.toList.map fun e=>(e.key,e.val))) else none
  | some (.cells arr _ _)=>some (.inr arr)
  | _=>none
 L _:=0
 hist _ _:=none
theorem base0 {P:Program} {glob:Nat→Option (List AV)} {W:World} (hg:mF glob (g0 W)):Base P glob (g0 W) [] W where
 imm:=⟨fun b o v h=>h,fun b es h=>by
  simp only [g0] at h
  split at h
  ·rename_i ents clock he
   split at h
   ·rename_i hbn;cases h;exact ⟨ents,clock,he,rfl,hbn⟩
   ·cases h
  ·rename_i arr t f he;cases h;exact ⟨t,f,he⟩
  ·cases h⟩
 heap:={ inj:=fun l l' b h=>by simp at h,lt:=fun l b h=>by simp at h,obj:=fun l o h=>by simp at h }
 glob:=hg
theorem kept {W W':World} (hio:W'.os=W.os∧W'.output=W.output) (h:∀b,b<W.heap.size→W'.heap[b]?=W.heap[b]?) (may:MemPlace→Prop):W.keptBut W' may:=by
 refine ⟨hio.1,hio.2,fun i hi=>?_⟩
 rw [h i hi]
 split
 ·rename_i c t fr c' t' fr' h1 h2;rw [h1] at h2;cases h2;exact ⟨rfl,rfl,rfl,fun _ _=>rfl⟩
 ·rename_i h1 h2;rw [h1] at h2;cases h2;exact .inr ⟨rfl,rfl⟩
 ·rfl
theorem top {P:Program} {A:nX} (hA:FU False P A) {f:FuncId} {fn:aC} (hi:A.intr f=none) (hfn:A.fns f=some fn) {args:List AV} {vs:Array Value} {W:World}
  (h:eX A (.fn (.func f) [] []) args [] ⟨0,0⟩=.ret (.b true) []) (hv:aB (g0 W) 0 vs.toList args) (hg:mF A.glob (g0 W)):
  Calls P f vs W fun e W'=>e=.returned (.bool true)∧(∀may,W.keptBut W' may)∧∀b,b<W.heap.size→W'.heap[b]?=W.heap[b]?:=by
 obtain ⟨n,hn⟩:=UJ h
 obtain ⟨rf,c,hfun,hname,hbody,_⟩:=hA.fns f fn hfn
 have hok:=XM A hA n
 obtain ⟨fid,args',hrun,hc⟩:=hok.fn (.fn (.func f) [] []) args [] ⟨0,0⟩ (.b true) [] ⟨Nat.le_refl _,Nat.le_refl _⟩ (fun l=>by simp) hn (g0 W) W (.func (.func f) #[] #[]) vs (base0 hg)
  (.fn _ _ _ _ _ rfl rfl (fun i h=>by simp at h) (fun i h=>by simp at h)) hv
 rw [uF hfun hname (by rw [hbody];rfl)] at hrun
 simp only [Array.empty_append,Array.append_empty] at hrun
 cases hrun
 refine (callsIn_wide.1 (hc 0)).mono fun e W' he=>?_
 obtain ⟨v,g',rfl,hst,hb,hr⟩:=he
 cases hr with
 | b _=>exact ⟨rfl,kept ⟨hst.io.1,hst.io.2.1⟩ fun b hb'=>hst.keep b hb' (fun ⟨l,hl,_⟩=>by simp at hl),fun b hb'=>hst.keep b hb' (fun ⟨l,hl,_⟩=>by simp at hl)⟩
section
variable {H:Type} {enc:TypeId×Value→H} {P:Program} {W:World}
def Light (P:Program) (t:TypeId) (d:DataW H):Prop:=∀x∈d.weights P t,x≤reachBytes
def tK (W:World) (cs:List Value) (as:List AV):Prop:=aB (g0 W) 0 cs as∧bH cs
theorem RD {t:TypeId} {k:IntKind} (ht:P.underlying t=some (.int k)) {fuel:Nat} {cs:List Value} {x:DataW H×List MemPlace} (h:DataW.trod enc P W 0 (fun _=>true) true fuel t cs=some x):
  ∃n,k.min≤n∧n≤k.max∧tK W cs [.i k n]:=by
 obtain ⟨n,rfl,_,hw⟩:=DataW.trod_int ht h
 simp [Lit.wf] at hw
 exact ⟨n,hw.1,hw.2,.cons (.i k n) (.nil _ _),fun v hv=>by simp at hv;subst hv;rfl⟩
theorem UC {t:TypeId} (ht:P.underlying t=some .string) {fuel:Nat} {cs:List Value} {x:DataW H×List MemPlace} (h:DataW.trod enc P W 0 (fun _=>true) true fuel t cs=some x) (hl:Light P t x.1):
  ∃l:List UInt8,l.length≤reachBytes∧tK W cs [.s l]:=by
 obtain ⟨s,rfl,hx,_⟩:=DataW.trod_string ht h
 subst hx
 refine ⟨s.data.toList,hl _ (by simp [DataW.weights]),.cons ?_ (.nil _ _),fun v hv=>by simp at hv;subst hv;rfl⟩
 have:=Rep.s (g:=g0 W) (n:=0) s.data.toList
 simpa using this
theorem weightsAll_mem {e:TypeId} {d:DataW H}:∀{l:List (DataW H)},d∈l→∀x∈d.weights P e,x∈DataW.weightsAll P e l
 | [],h=>by cases h
 | a::r,h=>by
  intro x hx
  simp only [DataW.weightsAll,List.mem_append]
  rcases List.mem_cons.1 h with rfl|h
  ·exact .inl hx
  ·exact .inr (weightsAll_mem h x hx)
theorem Tv {t e:TypeId} (ht:P.underlying t=some (.slice e)) {sz:Nat} (hsz:P.cellsOf e=sz) (hpos:0<sz) (hby:0<P.bytesOf e) (Q:AV→Prop)
  {fuel:Nat} {cs:List Value} {x:DataW H×List MemPlace} (h:DataW.trod enc P W 0 (fun _=>true) true fuel t cs=some x) (hl:Light P t x.1)
  (hel:∀n,fuel=n+1→∀cs y,DataW.trod enc P W 0 (fun _=>true) true n e cs=some y→Light P e y.1→∃a:AV,Q a∧a.cells.length=sz∧tK W cs a.cells):
  ∃es:List AV,(∀a∈es,Q a)∧es.length≤reachBytes∧tK W cs [.sl es]:=by
 rcases DataW.trod_slice ht h with ⟨rfl,_⟩|⟨a,len,cap,elems,rest,n,hf,rfl,rfl,_,hle,_,hlen,hE,hS,_⟩
 ·exact ⟨[],(fun a ha=>by cases ha),by simp,aB.cons .slNil (.nil _ _),fun v hv=>by simp at hv;subst hv;rfl⟩
 ·have hlight:∀y∈elems,Light P e y.1:=by
   intro y hy x hx
   apply hl x
   simp only [DataW.weights,ht,List.mem_cons,List.mem_append]
   exact .inr (.inl (weightsAll_mem (List.mem_map_of_mem hy) x hx))
  have hbytes:len≤reachBytes:=by
   have:=hl ((elems.length+rest.length) * P.bytesOf e) (by simp [DataW.weights,ht])
   have h2:elems.length+rest.length≤(elems.length+rest.length) * P.bytesOf e:=Nat.le_mul_of_pos_right _ hby
   omega
  by_cases hc:cap=0
  ·have:len=0:=by omega
   subst hc this
   exact ⟨[],(fun a ha=>by cases ha),by simp,aB.cons (.slE a) (.nil _ _),fun v hv=>by simp at hv;subst hv;rfl⟩
  ·-- an element or a spare place is read: the address has no spot
   have hspot:a.spot=none:=by
    by_cases h0:0<len
    ·have:=hE 0 h0
     rw [List.getElem?_eq_getElem (by omega)] at this
     cases hcs:W.cells? 0 (a.add (0 * P.cellsOf e)) (P.cellsOf e) with
     | none=>rw [hcs] at this;simp at this
     | some cc=>
      obtain ⟨_,hl',hcell⟩:=World.cells?_some hcs
      have h1:=hcell 0 (by omega)
      rw [List.getElem?_eq_getElem (by omega)] at h1
      simpa [Addr.add] using World.cell?_spot h1
    ·obtain ⟨hrl,hR⟩:=hS rfl
     obtain rfl:len=0:=by omega
     have:=hR 0 (by omega)
     rw [List.getElem?_eq_getElem (by omega)] at this
     cases hcs:W.cells? 0 (a.add ((0+0) * P.cellsOf e)) (P.cellsOf e) with
     | none=>rw [hcs] at this;simp at this
     | some cc=>
      obtain ⟨_,hl',hcell⟩:=World.cells?_some hcs
      have h1:=hcell 0 (by omega)
      rw [List.getElem?_eq_getElem (by omega)] at h1
      simpa [Addr.add] using World.cell?_spot h1
   obtain ⟨bk,off,sp⟩:=a
   simp only at hspot
   subst hspot
   -- each element
   have hex:∀i,i<len→∃(cc:List Value) (v:AV),W.cells? 0 ⟨bk,off+i * sz,none⟩ sz=some cc∧Q v∧v.cells.length=sz∧tK W cc v.cells:=by
    intro i hi
    have:=hE i hi
    rw [List.getElem?_eq_getElem (by omega)] at this
    cases hcs:W.cells? 0 (Addr.add ⟨bk,off,none⟩ (i * P.cellsOf e)) (P.cellsOf e) with
    | none=>rw [hcs] at this;simp at this
    | some cc=>
     rw [hcs] at this
     simp only [Option.bind_some] at this
     obtain ⟨v,q1,q2,q3⟩:=hel n hf cc _ this (hlight _ (List.getElem_mem _))
     refine ⟨cc,v, ?_,q1,q2,q3⟩
     rw [hsz,Addr.add_lit] at hcs
     exact hcs
   have hfam:=Go.Deep.choose_lt (n:=len) (p:=fun i (cv:List Value×AV)=>W.cells? 0 ⟨bk,off+i * sz,none⟩ sz=some cv.1∧Q cv.2∧cv.2.cells.length=sz∧tK W cv.1 cv.2.cells)
    (fun i hi=>by obtain ⟨cc,v,h⟩:=hex i hi;exact ⟨(cc,v),h⟩)
   obtain ⟨F,hF⟩:=hfam
   refine ⟨(List.range len).map fun i=>(F i).2,fun v hv=>?_,by simpa using hbytes, ?_,fun v hv=>by simp at hv;subst hv;rfl⟩
   ·simp at hv
    obtain ⟨i,hi,rfl⟩:=hv
    exact (hF i hi).2.1
   ·refine .cons ?_ (.nil _ _)
    have:=Rep.sl (g:=g0 W) (n:=0) bk off cap sz ((List.range len).map fun i=>(F i).2) (fun i j=>((F i).1)[j]?.getD undef) (by simpa using hle)
     (fun i hi=>by simp at hi ⊢;exact (hF i hi).2.2.1)
     (fun i j hi hj=>by
      simp at hi
      obtain ⟨q1,q2,q3,q4,q5⟩:=hF i hi
      obtain ⟨_,hl',hcell⟩:=World.cells?_some q1
      have h1:=hcell j hj
      rw [Addr.add_lit] at h1
      have hj':j<(F i).1.length:=by omega
      simp only [List.getElem?_eq_getElem hj',Option.getD_some] at h1 ⊢
      exact ⟨h1,q5 _ (List.getElem_mem hj')⟩)
     (fun i hi j hj=>by
      simp at hi
      obtain ⟨q1,q2,q3,q4,q5⟩:=hF i hi
      obtain ⟨_,hl',hcell⟩:=World.cells?_some q1
      simp at hj
      have hj':j<(F i).1.length:=by omega
      have h2:=q4.2 j hj' (by omega)
      simpa [List.getElem?_eq_getElem hj'] using h2)
    simpa using this
theorem OW {α:Type} {f:α→AV} {R:α→Prop}:∀{es:List AV},(∀a∈es,∃c,a=f c∧R c)→∃l:List α,es=l.map f∧∀c∈l,R c
 | [],_=>⟨[],rfl,fun c hc=>by cases hc⟩
 | a::r,h=>by
  obtain ⟨c,rfl,hc⟩:=h a (by simp)
  obtain ⟨l,rfl,hl⟩:=OW (es:=r) (fun x hx=>h x (by simp [hx]))
  exact ⟨c::l,rfl,fun x hx=>(List.mem_cons.1 hx).elim (fun e=>e ▸ hc) (hl x)⟩
structure CTy (P:Program) (T S I Z:TypeId):Prop where
 uT:∃f0 f1 f2 f3 f4:Field,P.underlying T=some (.struct #[f0,f1,f2,f3,f4])∧(f0.type=I∧f0.offset=0)∧(f1.type=Z∧f1.offset=1)∧(f2.type=I∧f2.offset=2)∧(f3.type=I∧f3.offset=3)∧(f4.type=S∧f4.offset=4)
 uS:P.underlying S=some (.slice T)
 uI:P.underlying I=some (.int .i64)
 uZ:P.underlying Z=some .string
 cT:P.cellsOf T=5
 cS:P.cellsOf S=1
 cI:P.cellsOf I=1
 cZ:P.cellsOf Z=1
 bT:0<P.bytesOf T
end
end Go.Ai
namespace Go.Ai
mutual
def JK (P:Program):Nat→TypeId→DataW Unit→Option (List Value)
 | 0,_,_=>none
 | n+1,t,d=>match P.underlying t,d with
  | some (.int k),.lit (.int k' m)=>if k=k' then some [.int k m] else none
  | some .bool,.lit (.bool b)=>some [.bool b]
  | some .string,.lit (.string bs)=>some [.string ⟨bs.toArray⟩]
  | some (.struct fs),.agg ds=>match JL P n fs.toList ds 0 with
   | some vs=>if vs.length=P.cellsOf t then some vs else none
   | none=>none
  | some (.array len e),.agg ds=>match QJ P n e ds with
   | some vs=>if vs.length=P.cellsOf t∧ds.length=len then some vs else none
   | none=>none
  | _,_=>none
def JL (P:Program):Nat→List Field→List (DataW Unit)→Nat→Option (List Value)
 | _,[],[],_=>some []
 | 0,_,_,_=>none
 | n+1,f::fs,d::ds,off=>match JK P n f.type d,JL P n fs ds (off+P.cellsOf f.type) with
  | some vs,some r=>if f.offset=off∧vs.length=P.cellsOf f.type then some (vs++r) else none
  | _,_=>none
 | _,_,_,_=>none
def QJ (P:Program):Nat→TypeId→List (DataW Unit)→Option (List Value)
 | _,_,[]=>some []
 | 0,_,_=>none
 | n+1,e,d::ds=>match JK P n e d,QJ P n e ds with
  | some vs,some r=>if vs.length=P.cellsOf e then some (vs++r) else none
  | _,_=>none
end
section
variable {P:Program} {W:World} {enc:TypeId×Value→Unit} {hd:Bool}
theorem Qn {cs vs r:List Value} {off:Nat} (h1:(cs.drop off).take vs.length=vs) (h2:(cs.drop (off+vs.length)).take r.length=r):(cs.drop off).take (vs++r).length=vs++r:=by
 rw [List.length_append,List.take_add,h1,List.drop_drop,h2]
mutual
theorem IE:∀(n:Nat) (t:TypeId) (d:DataW Unit) (vs:List Value),JK P n t d=some vs→∀fuel cs p,DataW.trod enc P W 0 (fun _=>true) hd fuel t cs=some (d,p)→cs=vs
 | 0,_,_,_,h=>by simp [JK] at h
 | n+1,t,d,vs,h=>by
  intro fuel cs p ht
  simp only [JK] at h
  split at h
  ·rename_i k k' m hu
   split at h
   ·rename_i hk;subst hk;cases h
    obtain ⟨m',rfl,hx,_⟩:=DataW.trod_int hu ht
    simp at hx;simp [hx.1]
   ·cases h
  ·rename_i b hu
   cases h
   obtain ⟨b',rfl,hx⟩:=DataW.trod_bool hu ht
   simp at hx;simp [hx.1]
  ·rename_i bs hu
   cases h
   obtain ⟨b',rfl,hx,_⟩:=DataW.trod_string hu ht
   simp at hx;simp [hx.1]
  ·rename_i fs ds hu
   split at h
   ·rename_i vs' hf
    split at h
    ·rename_i hl
     cases h
     obtain ⟨xs,m,rfl,hx,hlen,hxl,hfs⟩:=DataW.trod_struct hu ht
     simp at hx
     have:=Md n fs.toList ds 0 vs hf cs m xs hx.1 (fun i f hi=>hfs i f (by simpa using hi))
     simp at this
     rw [hl,←hlen,List.take_length] at this
     exact this
    ·cases h
   ·cases h
  ·rename_i len e ds hu
   split at h
   ·rename_i vs' hf
    split at h
    ·rename_i hl
     cases h
     obtain ⟨xs,m,rfl,hx,hlen,hxl,hes⟩:=DataW.trod_array hu ht
     simp at hx
     have:=Me n e ds vs hf cs m xs 0 hx.1 (fun i hi=>by
      have:=hes i (by rw [←hl.2,hx.1];simpa using hi)
      simpa using this)
     simp at this
     rw [hl.1,←hlen,List.take_length] at this
     exact this
    ·cases h
   ·cases h
  ·cases h
theorem Md:∀(n:Nat) (fs:List Field) (ds:List (DataW Unit)) (off:Nat) (vs:List Value),JL P n fs ds off=some vs→∀(cs:List Value) (m:Nat) (xs:List (DataW Unit×List MemPlace)),ds=xs.map (·.1)→
  (∀(i:Nat) (f:Field),fs[i]?=some f→DataW.trod enc P W 0 (fun _=>true) hd m f.type ((cs.drop f.offset).take (P.cellsOf f.type))=xs[i]?)→(cs.drop off).take vs.length=vs
 | n,[],[],off,vs,h=>by
  intro cs m xs _ _
  simp [JL] at h;subst h;simp
 | 0,_::_,_,_,_,h=>by simp [JL] at h
 | 0,[],_::_,_,_,h=>by simp [JL] at h
 | n+1,f::fs,d::ds,off,vs,h=>by
  intro cs m xs hd' hx
  simp only [JL] at h
  split at h
  ·rename_i v1 r h1 h2
   split at h
   ·rename_i hc
    cases h
    cases xs with
    | nil=>simp at hd'
    | cons x xs=>
     simp only [List.map_cons,List.cons.injEq] at hd'
     have q1:=hx 0 f rfl
     simp only [List.getElem?_cons_zero] at q1
     have e1:=IE n f.type d v1 h1 m _ x.2 (by rw [q1,hd'.1])
     have e2:=Md n fs ds (off+P.cellsOf f.type) r h2 cs m xs hd'.2 (fun i g hi=>by simpa using hx (i+1) g (by simpa using hi))
     rw [hc.1,←hc.2] at e1
     rw [←hc.2] at e2
     exact Qn e1 e2
   ·cases h
  ·cases h
 | n+1,[],_::_,_,_,h=>by simp [JL] at h
 | n+1,_::_,[],_,_,h=>by simp [JL] at h
theorem Me:∀(n:Nat) (e:TypeId) (ds:List (DataW Unit)) (vs:List Value),QJ P n e ds=some vs→∀(cs:List Value) (m:Nat) (xs:List (DataW Unit×List MemPlace)) (k:Nat),ds=xs.map (·.1)→
  (∀i,i<xs.length→DataW.trod enc P W 0 (fun _=>true) hd m e ((cs.drop ((k+i) * P.cellsOf e)).take (P.cellsOf e))=xs[i]?)→(cs.drop (k * P.cellsOf e)).take vs.length=vs
 | n,e,[],vs,h=>by
  intro cs m xs k _ _
  simp [QJ] at h;subst h;simp
 | 0,_,_::_,_,h=>by simp [QJ] at h
 | n+1,e,d::ds,vs,h=>by
  intro cs m xs k hd' hx
  simp only [QJ] at h
  split at h
  ·rename_i v1 r h1 h2
   split at h
   ·rename_i hc
    cases h
    cases xs with
    | nil=>simp at hd'
    | cons x xs=>
     simp only [List.map_cons,List.cons.injEq] at hd'
     have q1:=hx 0 (by simp)
     simp only [List.getElem?_cons_zero,Nat.add_zero] at q1
     have e1:=IE n e d v1 h1 m _ x.2 (by rw [q1,hd'.1])
     have e2:=Me n e ds r h2 cs m xs (k+1) hd'.2 (fun i hi=>by
      have:=hx (i+1) (by simpa using hi)
      rw [show k+(i+1)=k+1+i by omega] at this
      simpa using this)
     have e1':(cs.drop (k * P.cellsOf e)).take v1.length=v1:=by rw [hc];exact e1
     refine Qn e1' ?_
     rw [Nat.succ_mul] at e2
     rw [hc];exact e2
   ·cases h
  ·cases h
end
theorem Ik {laid:List (String×DataW Unit)} {ps:List MemPlace} (h:DataW.LaidVars P W laid ps) {nm:String} {d:DataW Unit} (hm:(nm,d)∈laid) {k:Nat} (hk:P.globalNamed nm=some k) {t:TypeId} (ht:(P.globals[k]?).map (·.type)=some t)
  {n:Nat} {vs:List Value} (hf:JK P n t d=some vs):∃ty fr,W.heap[k]?=some (.cells vs.toArray ty fr):=by
 induction laid generalizing ps with
 | nil=>cases hm
 | cons x r ih=>
  obtain ⟨nm',d'⟩:=x
  obtain ⟨g,t',cs,fuel,p,q,h1,h2,h3,h4,h5,h6⟩:=h
  rcases List.mem_cons.1 hm with e|hm
  ·cases e
   obtain rfl:=Option.some.inj (hk.symm.trans h1)
   obtain rfl:=Option.some.inj (ht.symm.trans h2)
   have:=IE n t d vs hf fuel _ p h4
   simp only [World.var?,hk,Option.bind_some] at h3
   split at h3
   ·rename_i c ty fr hc
    cases h3
    refine ⟨ty,fr, ?_⟩
    rw [hc,←this]
   ·cases h3
  ·exact ih h5 hm
theorem Oc {k:Nat} {vs:List Value} {ty:TypeId} {fr:Nat×Nat} (h:W.heap[k]?=some (.cells vs.toArray ty fr)) {as:List AV} (hr:nR vs as=true) (h1:vs.all Value.oneCell'=true):
  Rep (g0 W) 0 (.pointer (some ⟨k,0,none⟩)) (.ip as)∧∃arr,(g0 W).mm k=some (.inr arr)∧arr.size=as.length:=by
 have hl:vs.length=as.length:=by
  clear h h1
  induction vs generalizing as with
  | nil=>cases as<;>simp [nR] at hr ⊢
  | cons v vs ih=>cases as with
   | nil=>simp [nR] at hr
   | cons a as=>simp [nR] at hr;simp [ih hr.2]
 have hrep:aB (g0 W) 0 vs as:=xR _ _ _ _ hr
 refine ⟨.ip k 0 as (fun j=>vs[j]?.getD undef) (fun j hj=>?_) (fun j hj=>?_),vs.toArray,by simp [g0,h],by simpa using hl⟩
 ·have hj':j<vs.length:=by omega
  simp only [List.getElem?_eq_getElem hj',Option.getD_some]
  refine ⟨by simp [g0,World.cell?,h,List.getElem?_eq_getElem hj'], ?_⟩
  exact List.all_eq_true.1 h1 _ (List.getElem_mem hj')
 ·have hj':j<vs.length:=by omega
  simp only [List.getElem?_eq_getElem hj',Option.getD_some]
  exact hrep.2 j hj' hj
end
end Go.Ai
namespace Go.Ai
open Go.ChangeShapes Go.WideShapes Go.WideElems
section
variable {H:Type} {enc:TypeId×Value→H} {P:Program} {W W':World}
theorem Wx (h:∀b,b<W.heap.size→W'.heap[b]?=W.heap[b]?) {p:MemPlace} (hp:p.block<W.heap.size):W.sameAt W' p:=by
 cases p with
 | cell b off=>exact World.cell?_of_block (h b hp)
 | map b=>exact h b hp
theorem TL (hl:laidOutB P=true) (hold:∀b,b<W.heap.size→W'.heap[b]?=W.heap[b]?) {sp:Nat→Bool}:∀{ts:List TypeId} {vs:List Value} {ds:List (DataW H)} {ps:List MemPlace},(∀t∈ts,P.readableRec t=true∧t<P.types.size)→
  DataW.TrodAll enc P W 0 (fun _=>true) true ts vs ds ps→(∀p∈ps,p.block<W.heap.size)→(∀p∈ps,sp p.block=true)→DataW.TrodAll enc P W' 0 sp true ts vs ds ps
 | [],[],[],_,_,h,_,_=>h
 | _::_,_::_,_::_,_,hT,⟨p,q,h1,h2,e⟩,hlt,hs=>by
  subst e
  exact ⟨p,q,Trod_stays hl (hT _ (by simp)).1 (hT _ (by simp)).2 h1 (fun x hx=>Wx hold (hlt x (by simp [hx]))) (fun x hx=>hs x (by simp [hx])),
   TL hl hold (fun t ht=>hT t (by simp [ht])) h2 (fun x hx=>hlt x (by simp [hx])) (fun x hx=>hs x (by simp [hx])),rfl⟩
theorem Vh {f:Func} {s:ChangeSpec} {args:Array Value} {ds gs:List (DataW H)} {before:List MemPlace} (hl:laidOutB P=true) (hT:∀t∈f.params.toList,P.readableRec t=true∧t<P.types.size)
  (hW:DataW.Whole enc P f.params.toList s.vars false W args.toList ds gs before) (hvars:s.vars=[]) (hspec:s.fn H (ds++gs)={ results:=[.lit (.bool true)],args:=ds })
  {B:TypeId} (hres:f.resultTypes=#[B]) (hB:P.underlying B=some .bool) (hk:∀may,W.keptBut W' may) (hold:∀b,b<W.heap.size→W'.heap[b]?=W.heap[b]?):
  s.post enc P f false true false false W args (.bool true) W':=by
 have hlt:=hW.lt
 have hW':=hW
 obtain ⟨p,q,hA,hV,rfl,hz,hn⟩:=hW'
 rw [hvars] at hV
 cases gs with
 | cons=>exact absurd hV (by simp [DataW.TrodVars])
 | nil=>
  have hq:q=[]:=hV
  subst hq
  refine ⟨ds,[],p++[],[],p,[],hW, ?_, ?_, ?_,hk _,fun h=>by cases h⟩
  ·rw [hspec,hres]
   exact ⟨[],[],⟨1,by simp [DataW.trod,hB,Value.cells,Value.resultList]⟩,rfl,rfl⟩
  ·rw [hspec]
   refine TL hl hold hT hA (fun x hx=>hlt x (by simp [hx])) (fun x hx=>by simpa using hlt x (by simp [hx]))
  ·rw [hspec,hvars];rfl
theorem OY {t:TypeId} {ts:List TypeId} {d:DataW H} {ds:List (DataW H)} (h:(DataW.weightsEach P (t::ts) (d::ds)).all (·≤reachBytes)=true):Light P t d∧(DataW.weightsEach P ts ds).all (·≤reachBytes)=true:=by
 simp only [DataW.weightsEach,List.all_append,Bool.and_eq_true] at h
 exact ⟨fun x hx=>by have:=List.all_eq_true.1 h.1 x hx;simpa using this,h.2⟩
end
end Go.Ai
