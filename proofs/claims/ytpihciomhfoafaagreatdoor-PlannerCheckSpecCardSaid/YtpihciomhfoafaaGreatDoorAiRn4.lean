/-
 Calls.
-/
import Derived.Test.YtpihciomhfoafaaGreatDoorAiRn3
set_option maxRecDepth 100000
set_option linter.unusedSimpArgs false
set_option linter.unusedVariables false
set_option linter.unusedSectionVars false
namespace Go.Ai
variable {qt:Prop} {P:Program} {glob:Nat→Option (List AV)} {g:af} {s:St} {B:Nat} {w:World} {env:Env} {a:Act} {call:AV→List AV→St→Ctx→CO} {cx:Ctx} {env':Env} {s':St}
open Classical in
noncomputable def af.claimAll (g:af) (n n1:Nat) (w:World):af:={ g with
 m:=fun b o=>if ∃l,n≤l∧l<n1∧g.bl l b then w.cell? ⟨b,o,none⟩ else g.m b o
 mm:=fun b=>if ∃l,n≤l∧l<n1∧g.bl l b then (match w.heap[b]? with|some (.map ents clock)=>if Born ents clock then some (.inl (ents.toList.map fun e=>(e.key,e.val))) else g.mm b | _=>g.mm b) else g.mm b }
theorem vW {n:Nat} (h:Base P glob g s w):g.le s.length (g.claimAll n s.length w) s.length:=by
 refine ⟨fun b o v hm=>?_,fun b es hm=>?_,fun _ _=>rfl,fun _ _ _ _ h=>h,Nat.le_refl _⟩
 ·unfold af.claimAll;dsimp only
  split
  ·exact h.imm.m b o v hm
  ·exact hm
 ·unfold af.claimAll;dsimp only
  split
  ·have hh:=h.imm.mm b es hm
   cases es with
   | inl es=>
    obtain ⟨ents,clock,h1,h2,hb⟩:=hh
    rw [h1];simp only [h2,hb,if_true]
   | inr arr=>
    obtain ⟨t,f,h1⟩:=hh
    rw [h1];exact hm
  ·exact hm
theorem Qe {n:Nat} (h:Base P glob g s w) (hn:n≤s.length) (hb:Base P glob g (s.take n) w):Base P glob (g.claimAll n s.length w) (s.take n) w:=by
 have hlen:(s.take n).length=n:=by simp;omega
 have hle:=vW (n:=n) h
 have hno:∀b,g.taken (s.take n).length b→¬∃l,n≤l∧l<s.length∧g.bl l b:=by
  intro b hb'
  rw [hlen] at hb'
  obtain ⟨l,hl,hbl⟩:=hb'
  rintro ⟨l',h1,h2,h3⟩
  have:=h.heap.inj l' l b h2 (by omega) h3 hbl
  omega
 refine hb.fix ⟨hle.m,hle.mm,fun _ _=>rfl,fun _ _ _ _ h=>h,Nat.le_refl _⟩ ⟨fun b o v hm=>?_,fun b es hm=>?_⟩ rfl (fun b hb'=>⟨?_, ?_⟩)
 ·unfold af.claimAll at hm;dsimp only at hm
  split at hm
  ·exact hm
  ·exact h.imm.m b o v hm
 ·unfold af.claimAll at hm;dsimp only at hm
  split at hm
  ·split at hm
   ·rename_i ents clock hh
    split at hm
    ·rename_i hbn
     cases hm
     exact ⟨ents,clock,hh,rfl,hbn⟩
    ·exact h.imm.mm b es hm
   ·exact h.imm.mm b es hm
  ·exact h.imm.mm b es hm
 ·funext o
  unfold af.claimAll;dsimp only
  rw [if_neg (hno b hb')]
 ·unfold af.claimAll;dsimp only
  rw [if_neg (hno b hb')]
def J5 (s1 s:St):Prop:=∀l:Nat,(∀cs,s1[l]?=some (eH.cells cs)→s[l]?=some (eH.cells cs))∧(∀es,s1[l]?=some (eH.map es)→s[l]?=some (eH.map es))∧(∀es,s1[l]?=some (eH.mapo es)→s[l]?=some (eH.mapo es))∧∀t sz ver cs,s1[l]?=some (eH.buf t sz ver cs)→s[l]?=some (eH.buf t sz ver cs)
theorem SL {g':af} {N n:Nat} {F:AV→Option AV} (hF:∀(v:Value) (x y:AV),Rep g N v x→F x=some y→Rep g' n v y):∀(xs:List AV) (vs:List Value) {ys:List AV},aB g N vs xs→xs.mapM F=some ys→aB g' n vs ys
 | [],vs,ys,hr,hf=>by
  simp at hf;subst hf
  have:vs=[]:=List.eq_nil_of_length_eq_zero hr.1
  subst this;exact .nil _ _
 | x::xs,vs,ys,hr,hf=>by
  cases vs with
  | nil=>exact absurd hr.1 (by simp)
  | cons v vs=>
   simp only [List.mapM_cons,Option.bind_eq_bind,Option.pure_def] at hf
   cases h1:F x with
   | none=>simp [h1] at hf
   | some y=>
    cases h2:xs.mapM F with
    | none=>simp [h1,h2] at hf
    | some ys'=>
     simp [h1,h2] at hf
     subst hf
     exact .cons (hF v x y hr.head h1) (SL hF xs vs hr.tail h2)
theorem Ij {F:AV→Option AV}:∀(es:List (AV×AV)) {es':List (AV×AV)},es.mapM (Tj F)=some es'→(es.map (·.1)).mapM F=some (es'.map (·.1))∧(es.map (·.2)).mapM F=some (es'.map (·.2))
 | [],es',h=>by simp at h;subst h;simp
 | p::es,es',h=>by
  simp only [List.mapM_cons,Option.bind_eq_bind,Option.pure_def] at h
  cases h1:Tj F p with
  | none=>simp [h1] at h
  | some q=>
   cases h2:es.mapM (Tj F) with
   | none=>simp [h1,h2] at h
   | some r=>
    simp [h1,h2] at h
    subst h
    obtain ⟨q1,q2⟩:=Ij es h2
    unfold Tj at h1
    split at h1
    ·rename_i k v hk hv
     cases h1
     simp [hk,hv,q1,q2]
    ·cases h1
theorem DJ (sz:Nat):∀(n:Nat) (cs:List AV),(chunk sz n cs).length=n
 | 0,_=>rfl
 | n+1,cs=>by simp [chunk,DJ sz n]
theorem Vo {c:AV} (h:c.one=true):c.cells=[c]:=by cases c<;>first|rfl | (simp [AV.one] at h;done)
theorem Pj {sz:Nat} (hpos:0<sz):∀(n:Nat) (cs:List AV),cs.length=n * sz→cs.all AV.one=true→(chunk sz n cs).flatMap AV.cells=cs∧∀e∈chunk sz n cs,e.cells.length=sz
 | 0,cs,h,_=>by
  have:cs=[]:=List.eq_nil_of_length_eq_zero (by simpa using h)
  subst this;exact ⟨rfl,fun e he=>by simp [chunk] at he⟩
 | n+1,cs,h,hall=>by
  rw [Nat.succ_mul] at h
  obtain ⟨ih1,ih2⟩:=Pj hpos n (cs.drop sz) (by simp;omega) (List.all_eq_true.2 fun a ha=>List.all_eq_true.1 hall a (List.mem_of_mem_drop ha))
  simp only [chunk,List.flatMap_cons,List.mem_cons]
  rw [ih1]
  by_cases h1:sz=1
  ·subst h1
   cases cs with
   | nil=>simp at h
   | cons c cs=>
    have:=Vo (List.all_eq_true.1 hall c (by simp))
    simp only [if_true,List.headD_cons,this]
    refine ⟨rfl, ?_⟩
    rintro e (rfl|he)
    ·simp [this]
    ·exact ih2 e he
  ·simp only [if_neg h1,AV.cells]
   refine ⟨List.take_append_drop sz cs, ?_⟩
   rintro e (rfl|he)
   ·simp [AV.cells];omega
   ·exact ih2 e he
theorem FK (e:AV):e.plain.cells=e.cells.map AV.plain1:=by cases e<;>rfl
theorem Ua {N:Nat} {v:Value} {es:List AV} (h:Rep g N v (.sl es)):Rep g N v (.sl (es.map AV.plain)):=by
 cases h with
 | slNil=>exact .slNil
 | slE a=>exact .slE a
 | sl bk off cap sz _ c hc hsz hm hr=>
  have key:=Rep.sl (g:=g) (n:=N) bk off cap sz (es.map AV.plain) c (by simpa using hc) (fun i hi=>by
   have:=hsz i (by simpa using hi)
   simp only [List.getElem_map,FK,List.length_map];exact this) (fun i j hi hj=>hm i j (by simpa using hi) hj) (fun i hi j hj=>by
   have hi':i<es.length:=by simpa using hi
   simp only [List.getElem_map,FK,List.length_map] at hj
   have:=(hr i hi' j hj).plain1
   simp only [List.getElem_map,FK]
   exact this)
  rw [List.length_map] at key
  exact key
theorem Uy {n:Nat} (h:Base P glob g s w) {s1:St} (hs:J5 s1 s) (hn:n≤s.length):∀(f:Nat) (v:Value) (x y:AV),Rep g s.length v x→DC s1 n f x=some y→Rep (g.claimAll n s.length w) n v y:=by
 have hle:=vW (n:=n) h
 intro f
 induction f with
 | zero=>
  intro v x y hr hf
  simp only [DC] at hf
  split at hf
  ·rename_i hu;cases hf;exact (hr.mono hle).restrict hu
  ·cases hf
 | succ f ih=>
  intro v x y hr hf
  have hM:=fun xs vs ys=>SL (F:=DC s1 n f) (g:=g) (g':=g.claimAll n s.length w) (N:=s.length) (n:=n) ih xs vs (ys:=ys)
  simp only [DC] at hf
  split at hf
  ·rename_i hu;cases hf;exact (hr.mono hle).restrict hu
  ·rename_i hu
   split at hf
   ·rename_i l o
    split at hf
    ·rename_i cs hl
     cases hcs:cs.mapM (DC s1 n f) with
     | none=>simp [hcs] at hf
     | some cs'=>
      simp [hcs] at hf
      subst hf
      cases hr with
      | pt _ _ hlt=>
       have hln:n≤l:=by
        simp only [AV.under,decide_eq_true_eq] at hu
        omega
       obtain ⟨arr,ty,q1,q2,q3⟩:=h.heap.cells l cs ((hs l).1 cs hl)
       have q2':=hM cs arr.toList cs' q2 hcs
       have hsz:arr.size=cs'.length:=by have:=q2'.1;simpa using this
       refine .ip (g.L l) o _ (fun j=>arr.getD (o+j) undef) (fun j hj=>?_) (fun j hj=>?_)
       ·simp at hj
        have hlt2:o+j<arr.size:=by omega
        have e1:arr.getD (o+j) undef=arr[o+j]:=by simp [Array.getD_eq_getD_getElem?,hlt2]
        rw [e1]
        refine ⟨?_,q3 _ (by simp)⟩
        unfold af.claimAll;dsimp only
        rw [if_pos ⟨l,hln,hlt,.inl rfl⟩,cell_of_row w (g.L l) (o+j) arr ty (0,0) q1]
        simp [hlt2]
       ·simp at hj
        have hlt2:o+j<arr.size:=by omega
        have e1:arr.getD (o+j) undef=arr[o+j]:=by simp [Array.getD_eq_getD_getElem?,hlt2]
        rw [e1,List.getElem_drop]
        have:=q2'.2 (o+j) (by simpa using hlt2) (by omega)
        rwa [Array.getElem_toList] at this
    ·cases hf
   ·rename_i l
    split at hf
    ·rename_i es hl
     cases hes:es.mapM (Tj (DC s1 n f)) with
     | none=>simp [hes] at hf
     | some es'=>
      simp [hes] at hf
      subst hf
      cases hr with
      | mp _ hlt=>
       have hln:n≤l:=by
        simp only [AV.under,decide_eq_true_eq] at hu
        omega
       obtain ⟨_,ents,clock,q1,q2,q3,hbn⟩:=h.heap.obj l _ ((hs l).2.1 es hl)
       obtain ⟨m1,m2⟩:=Ij es hes
       have r1:=hM _ _ _ q2 m1
       have r2:=hM _ _ _ q3 m2
       have hlen:ents.toList.length=es'.length:=by have:=r1.1;simpa using this
       refine .im (g.L l) es' (ents.toList.map fun e=>(e.key,e.val)) ?_ (by simpa using hlen) (fun i hi hi'=>?_) (fun i hi hi'=>?_)
       ·unfold af.claimAll;dsimp only
        rw [if_pos ⟨l,hln,hlt,.inl rfl⟩,q1];simp only [hbn,if_true]
       ·have:=r1.2 i (by simpa using hi) (by simpa using hi');simpa using this
       ·have:=r2.2 i (by simpa using hi) (by simpa using hi');simpa using this
    ·rename_i es hl
     cases hes:es.mapM (Tj (DC s1 n f)) with
     | none=>simp [hes] at hf
     | some es'=>
      simp [hes] at hf
      subst hf
      cases hr with
      | mp _ hlt=>
       have hln:n≤l:=by
        simp only [AV.under,decide_eq_true_eq] at hu
        omega
       obtain ⟨_,ents,clock,q1,q2,q3,hbo⟩:=h.heap.obj l _ ((hs l).2.2.1 es hl)
       obtain ⟨m1,m2⟩:=Ij es hes
       have r1:=hM _ _ _ q2 m1
       have r2:=hM _ _ _ q3 m2
       have hlen:ents.toList.length=es'.length:=by have:=r1.1;simpa using this
       refine .im (g.L l) es' (ents.toList.map fun e=>(e.key,e.val)) ?_ (by simpa using hlen) (fun i hi hi'=>?_) (fun i hi hi'=>?_)
       ·unfold af.claimAll;dsimp only
        rw [if_pos ⟨l,hln,hlt,.inl rfl⟩,q1];simp only [hbo.born,if_true]
       ·have:=r1.2 i (by simpa using hi) (by simpa using hi');simpa using this
       ·have:=r2.2 i (by simpa using hi) (by simpa using hi');simpa using this
    ·cases hf
   ·rename_i l ver sz o m
    split at hf
    ·rename_i t2 sz2 ver2 cs hl
     split at hf
     ·rename_i hcond
      obtain ⟨rfl,rfl,hfit⟩:=hcond
      cases hcs:((cs.drop o).take (m * sz)).mapM (DC s1 n f) with
      | none=>simp [hcs] at hf
      | some cs'=>
       simp only [hcs,Option.bind_some] at hf
       split at hf
       ·rename_i hc2
        obtain ⟨hpos,hone⟩:=hc2
        cases hf
        obtain ⟨b,off,len,cap,cur,h1,h2,h3,h4,h5,h6,h7,h8,h9,h10,h11⟩:=h.heap.obj l _ ((hs l).2.2.2 _ _ _ _ hl)
        have hpart:=hM _ _ _ ((h10.drop o).take (m * sz)) hcs
        have hlc:=Nat.mul_le_mul_right sz h5
        have hlen':cs'.length=m * sz:=by rw [←hpart.1];simp;omega
        obtain ⟨c1,c2⟩:=Pj hpos m cs' hlen' hone
        cases hr with
        | skE _ _ _ _ ad hk=>simpa [chunk] using Rep.slE ad
        | sk _ _ _ _ _ b' off' len' cap' c hk hh ho hc hcc=>
         rw [h1] at hh
         cases hh
         have hln:n≤l:=by
          simp only [AV.under,decide_eq_true_eq] at hu
          omega
         have key:=EM (g:=g.claimAll n s.length w) (n:=n) (b:=b) (off:=off+o) (cap:=c) (sz:=sz) (es:=chunk sz m cs') (xs:=(((cur.toList.drop off).take cs.length).drop o).take (m * sz)) (by rw [DJ];exact hc) c2 (by rw [c1];exact hpart) ((h11.drop o).take _) (fun j hj=>?_)
         ·rw [DJ] at key;exact key
         ·have hj2:j<m * sz:=by simp at hj;omega
          unfold af.claimAll;dsimp only
          rw [if_pos ⟨l,hln,hk,.inr ⟨ver,_,h1,rfl⟩⟩,cell_of_row w b (off+o+j) cur t2 (0,0) h8]
          have hj3:off+o+j<cur.size:=by
           have:=Nat.mul_le_mul_right sz h5
           omega
          simp [hj3,Nat.add_assoc]
       ·cases hf
     ·cases hf
    ·cases hf
   ·rename_i cs
    cases hcs:cs.mapM (DC s1 n f) with
    | none=>simp [hcs] at hf
    | some cs'=>
     simp [hcs] at hf
     subst hf
     cases hr with
     | ag vs _ hl h1 hr1=>
      have q1:=hM cs vs.toList cs' ⟨by simpa using hl,fun i hi hi'=>by rw [Array.getElem_toList];exact hr1 i (by simpa using hi) hi'⟩ hcs
      refine .ag vs cs' (by have:=q1.1;simpa using this) h1 (fun i hi hi'=>?_)
      have:=q1.2 i (by simpa using hi) hi';rwa [Array.getElem_toList] at this
   ·rename_i cs
    cases hcs:cs.mapM (DC s1 n f) with
    | none=>simp [hcs] at hf
    | some cs'=>
     simp [hcs] at hf
     subst hf
     cases hr with
     | tu vs _ hl hr1=>
      have q1:=hM cs vs.toList cs' ⟨by simpa using hl,fun i hi hi'=>by rw [Array.getElem_toList];exact hr1 i (by simpa using hi) hi'⟩ hcs
      refine .tu vs cs' (by have:=q1.1;simpa using this) (fun i hi hi'=>?_)
      have:=q1.2 i (by simpa using hi) hi';rwa [Array.getElem_toList] at this
   ·rename_i l es
    split at hf
    ·rename_i hue
     cases hf
     cases hr with
     | st _ _ _ hl hh hr1=>exact (hr1.mono hle).restrict (by simpa [AV.under] using hue)
    ·cases hf
   ·rename_i es
    split at hf
    ·rename_i hue
     cases hf
     exact ((Ua hr).mono hle).restrict (by simpa [AV.under] using hue)
    ·cases hf
   ·rename_i fn as cs
    split at hf
    ·rename_i as' cs' h1 h2
     cases hf
     cases hr with
     | fn _ vs ws _ _ hl hl' hr1 hr2=>
      have q1:=hM as vs.toList as' ⟨by simpa using hl,fun i hi hi'=>by rw [Array.getElem_toList];exact hr1 i (by simpa using hi) hi'⟩ h1
      have q2:=hM cs ws.toList cs' ⟨by simpa using hl',fun i hi hi'=>by rw [Array.getElem_toList];exact hr2 i (by simpa using hi) hi'⟩ h2
      refine .fn fn vs ws as' cs' (by have:=q1.1;simpa using this) (by have:=q2.1;simpa using this) (fun i hi hi'=>?_) (fun i hi hi'=>?_)
      ·have:=q1.2 i (by simpa using hi) hi';rwa [Array.getElem_toList] at this
      ·have:=q2.2 i (by simpa using hi) hi';rwa [Array.getElem_toList] at this
    ·cases hf
   ·cases hf
theorem VX {n:Nat} (h:Base P glob g s w) {s1:St} (hs:J5 s1 s) (hn:n≤s.length) {v:Value} {x y:AV} (hr:Rep g s.length v x) (hf:frz s1 n x=some y):
  Rep (g.claimAll n s.length w) n v y:=by
 unfold frz at hf
 split at hf
 ·rename_i hu;cases hf;exact (hr.mono (vW (n:=n) h)).restrict hu
 ·exact Uy h hs hn 6 v x y hr hf
theorem CY:∀(args:List AV) (i k:Nat) {e:EV},lk (sH args i) k=some e→∃(h:k - i<args.length),i≤k∧e=.v args[k - i]
 | [],i,k,e,h=>by simp [sH,lk] at h
 | x::args,i,k,e,h=>by
  simp only [sH,dY] at h
  split at h
  ·rename_i hik;subst hik;cases h;exact ⟨by simp,Nat.le_refl _,by simp⟩
  ·obtain ⟨h1,h2,h3⟩:=CY args (i+1) k h
   refine ⟨by simp;omega,by omega, ?_⟩
   rw [h3]
   have:k - i=(k - (i+1))+1:=by omega
   simp only [this,List.getElem_cons_succ]
def aj (P:Program) (f:FuncId) (fn:aC):Prop:=
 ∃rf c,P.funcs[f]?=some rf∧(rf.name == "runtime.NumGoroutine")=false∧rf.body=some c∧sN P (.std rf.ntmps) c fn.code=true∧fn.np≤rf.ntmps∧wG P rf.results.toList fn.res=true
theorem sG {fn:aC} {r r0:AV} {g2:af} {s1:St} {w2:World} {ls:List Nat} {u:Value} (hb:Base P glob g s w) (he:Ext (fn.inner s cx) s s1) (hdf:∀l∈ls,s1[l]?=some eH.dfr) (hlo:∀l∈ls,(if fn.keep then s1.length else s.length)≤l)
  (q3:Base P glob g2 (kills ls s1) w2) (hst':Step qt g s.length w.heap.size w g2 s1.length w2) (hrep:Rep g2 s1.length u r0) (hh:finish fn.pure fn.keep s s1 r0=.ret r s'):
  ∃g',Step qt g s.length w.heap.size w g' s'.length w2∧Base P glob g' s' w2∧Rep g' s'.length u r:=by
 have hkl:(kills ls s1).length=s1.length:=CZ ls s1
 have hkq:∀(l:Nat) (ob:eH),ob≠.dfr→s1[l]?=some ob→(kills ls s1)[l]?=some ob:=by
  intro l ob hne hl
  rw [F8 ls s1 l (fun hm=>by rw [hdf l hm] at hl;cases hl;exact hne rfl)];exact hl
 have hsame:J5 s1 (kills ls s1):=fun l=>⟨fun _=>hkq l _ (by simp),fun _=>hkq l _ (by simp),fun _=>hkq l _ (by simp),fun _ _ _ _=>hkq l _ (by simp)⟩
 by_cases hkeep:fn.keep=true
 ·have hls:ls=[]:=by
   cases ls with
   | nil=>rfl
   | cons l ls=>
    have h1:=hlo l (by simp)
    have h2:=(List.getElem?_eq_some_iff.1 (hdf l (by simp))).1
    rw [if_pos hkeep] at h1;omega
  subst hls
  unfold finish at hh
  rw [if_pos hkeep] at hh
  cases hh
  exact ⟨g2,hst',q3,hrep⟩
 have hbase':(fn.inner s cx).base=s.length:=by simp only [aC.inner];rw [if_neg hkeep]
 have hn:s.length≤(kills ls s1).length:=by rw [hkl];exact he.len
 have hbelow:∀l,l<s.length→(kills ls s1)[l]?=s1[l]?:=fun l hl=>F8 ls s1 l (fun hm=>by have:=hlo l hm;rw [if_neg hkeep] at this;omega)
 have htake:(kills ls s1).take s.length=s1.take s.length:=by
  apply List.ext_getElem?
  intro l
  by_cases hl:l<s.length
  ·rw [List.getElem?_take_of_lt hl,List.getElem?_take_of_lt hl,hbelow l hl]
  ·rw [List.getElem?_eq_none (by simp;omega),List.getElem?_eq_none (by simp;omega)]
 have hbt:Base P glob g2 (s1.take s.length) w2:=by
  rw [←htake]
  refine q3.take hn (fun l hl=>?_)
  have h1:=hb.dB l
  have h2:=he.base s.length (by rw [hbase'];exact Nat.le_refl _) l hl h1
  unfold Ai.dB at h2 ⊢
  rw [hbelow l hl];exact h2
 have hpure:fn.pure=true→s1.take s.length=s:=by
  intro hp
  apply List.ext_getElem?
  intro l
  by_cases hl:l<s.length
  ·rw [List.getElem?_take_of_lt hl]
   exact he.lim l (by simp only [aC.inner,hp,if_true];exact hl)
  ·rw [List.getElem?_eq_none (by simp;omega),List.getElem?_eq_none (by omega)]
 have hstT:Step qt g s.length w.heap.size w g2 s.length w2:=by
  refine ⟨⟨hst'.le.m,hst'.le.mm,hst'.le.L,hst'.le.hist,Nat.le_refl _⟩,hst'.size,hst'.keep,hst'.m,hst'.mm,fun b hb'=>hst'.new b ?_,hst'.io⟩
  obtain ⟨l,hl,hbl⟩:=hb'
  exact ⟨l,Nat.lt_of_lt_of_le hl he.len,hbl⟩
 unfold finish at hh
 rw [if_neg hkeep] at hh
 split at hh
 ·rename_i hl1
  have hts:s1.take s.length=s1:=by rw [←hl1,List.take_length]
  cases hp:fn.pure with
  | true=>
   rw [hp] at hh;simp only [if_true] at hh
   cases hh
   rw [hpure hp] at hbt
   exact ⟨g2,hstT,hbt,by rw [hl1] at hrep;exact hrep⟩
  | false=>
   rw [hp] at hh;simp only [Bool.false_eq_true,if_false] at hh
   cases hh
   rw [hts] at hbt
   exact ⟨g2,hst',hbt,hrep⟩
 ·split at hh
  ·rename_i y hy
   have hrep':Rep g2 (kills ls s1).length u (r0):=by rw [hkl];exact hrep
   have hfz:=VX (n:=s.length) q3 hsame hn hrep' hy
   have hbt':=Qe q3 hn (by rw [htake];exact hbt)
   rw [htake] at hbt'
   have hnot:∀b,b<w.heap.size→¬∃l,s.length≤l∧l<(kills ls s1).length∧g2.bl l b:=by
    intro b hbl
    rintro ⟨l,h1,h2,h3⟩
    rcases hst'.new b ⟨l,by rw [←hkl];exact h2,h3⟩ with ⟨l0,hl0,hb0⟩|hb0
    ·have:=q3.heap.inj l l0 b h2 (by omega) h3 (hst'.le.bl hl0 hb0)
     omega
    ·omega
   have hnew:∀b,b<w.heap.size→(g2.claimAll s.length (kills ls s1).length w2).m b=g2.m b:=by
    intro b hbl
    funext j
    unfold af.claimAll;dsimp only
    rw [if_neg (hnot b hbl)]
   have hnewm:∀b,b<w.heap.size→(g2.claimAll s.length (kills ls s1).length w2).mm b=g2.mm b:=by
    intro b hbl
    unfold af.claimAll;dsimp only
    rw [if_neg (hnot b hbl)]
   have hstF:Step qt g s.length w.heap.size w (g2.claimAll s.length (kills ls s1).length w2) s.length w2:=by
    refine hstT.trans ⟨⟨(vW (n:=s.length) q3).m,(vW (n:=s.length) q3).mm,fun _ _=>rfl,fun _ _ _ _ h=>h,Nat.le_refl _⟩,Nat.le_refl _,fun _ _ _=>rfl,fun b hb' _=>hnew b hb',fun b hb'=>hnewm b hb',fun b hb'=>.inl hb',rfl,rfl,fun _=>⟨rfl,Nat.le_refl _⟩⟩
   cases hp:fn.pure with
   | true=>
    rw [hp] at hh;simp only [if_true] at hh
    cases hh
    rw [hpure hp] at hbt'
    exact ⟨_,hstF,hbt',hfz⟩
   | false=>
    rw [hp] at hh;simp only [Bool.false_eq_true,if_false] at hh
    cases hh
    have htl:(s1.take s.length).length=s.length:=by simp;have:=he.len;omega
    exact ⟨_,by rw [htl];exact hstF,hbt',by rw [htl];exact hfz⟩
  ·cases hh
theorem MH (hcall:l7 qt P glob call) (hext:dO call) (hdraw:FZ qt P glob call) (hM:P.follows .mixedOrders=true) {f:FuncId} {fn:aC} (hfn:aj P f fn) {N m:Nat} {args:List AV} {r:AV} (hcx:bQ cx s)
  (hb:Base P glob g s w) {vs:Array Value} (hv:aB g s.length vs.toList args):(qC glob call N fn args s cx=.ret r s'→CallsIn Fence.wide m P f vs w (Ret qt P glob g s w r s'))∧(qC glob call N fn args s cx=.pan r s'→CallsIn Fence.wide m P f vs w (Pan qt P glob g s w r s')):=by
 obtain ⟨rf,c,hf,hname,hbody,hchk,hnp,hres⟩:=hfn
 by_cases hlen:args.length=fn.np
 case neg=>unfold qC;rw [if_neg hlen];exact ⟨fun h=>(by cases h),fun h=>(by cases h)⟩
 ·rw [qC,if_pos hlen]
  have hvs:vs.size=fn.np:=by have:=hv.1;simp at this;omega
  have hcx':bQ (fn.inner s cx) s:=aC.cxOK hcx
  let a0:Act:={ tmps:=vs++Array.replicate (rf.ntmps - vs.size) undef,defers:=[] }
  have hsz:a0.tmps.size=rf.ntmps:=by simp [a0];omega
  have htm:∀k (hk:k<args.length) (hk':k<vs.size),Act.tm a0 k=vs[k]:=by
   intro k hk hk'
   simp only [Act.tm,a0,Array.getD_eq_getD_getElem?]
   rw [Array.getElem?_append_left hk']
   simp [hk']
  have hfr:∀b0,Fr P glob g s w.heap.size w a0 (sH args 0) (.std rf.ntmps) b0 []:=by
   intro b0
   have hown:∀k e,lk (sH args 0) k=some e→e.owns=false:=by
    intro k e hk;obtain ⟨_,_,rfl⟩:=CY args 0 k hk;rfl
   refine ⟨⟨hb,⟨fun k e hk=>?_,fun k k' e e' hk _ ho=>?_,fun k e hk ho=>?_,fun k e j hk hr=>?_⟩,Nat.le_refl _⟩,hsz,rfl,fun l hl=>by simp at hl,List.nodup_nil,fun l hl=>by simp at hl,fun p hp=>by simp at hp⟩
   ·obtain ⟨h1,_,rfl⟩:=CY args 0 k hk
    simp only [Nat.sub_zero] at h1
    have hk':k<vs.size:=by omega
    show Rep g s.length (Act.tm a0 k) args[k - 0]
    rw [htm k h1 hk']
    have:=hv.2 k (by simpa using hk') h1
    rwa [Array.getElem_toList] at this
   ·rw [hown k e hk] at ho;cases ho
   ·rw [hown k e hk] at ho;cases ho
   ·obtain ⟨_,_,rfl⟩:=CY args 0 k hk;simp [EV.refers] at hr
  -- how the call is left
  have leave:∀env1 s1,Ext (fn.inner s cx) s s1→(match iM glob env1 s1 fn.res with|some rs=>finish fn.pure fn.keep s s1 (lQ rs)|none=>.fail)=.ret r s'→
    ∀g1 ls w1 a1,Step qt g s.length w.heap.size w g1 s1.length w1→Fr P glob g1 s1 w.heap.size w1 a1 env1 (.std rf.ntmps) (if fn.keep then s1.length else s.length) ls→LeavesInM Fence.wide m P rf a1.tmps (Ret qt P glob g s w r s') a1.defers .returning w1:=by
   intro env1 s1 he hh g1 ls w1 a1 hst hf1
   rw [hf1.dl,Wd.std_dd,List.append_nil]
   refine Jo (qt:=qt) rfl ls hf1.sim hf1.df hf1.nd (fun w2 hs2 hst2=>?_)
   have hkq:∀(l:Nat) (ob:eH),ob≠.dfr→s1[l]?=some ob→(kills ls s1)[l]?=some ob:=by
    intro l ob hne hl
    rw [F8 ls s1 l (fun hm=>by rw [hf1.df l hm] at hl;cases hl;exact hne rfl)];exact hl
   have hsame:J5 s1 (kills ls s1):=fun l=>⟨fun _=>hkq l _ (by simp),fun _=>hkq l _ (by simp),fun _=>hkq l _ (by simp),fun _ _ _ _=>hkq l _ (by simp)⟩
   split at hh
   ·rename_i rs hrs
    obtain ⟨us,g2,q1,q2,q3,q4⟩:=F5 (a:=a1) hres hs2 (Hz (fun l=>⟨(hsame l).1,(hsame l).2.2.2⟩) fn.res hrs)
    refine ⟨Qw us,zy q1, ?_⟩
    have hkl:(kills ls s1).length=s1.length:=CZ ls s1
    rw [hkl] at q2 q4
    have hrep:=CG q4
    have hst':Step qt g s.length w.heap.size w g2 s1.length w2:=(hst.trans hst2).trans q2
    obtain ⟨g',f1,f2,f3⟩:=sG hb he hf1.df hf1.lo q3 hst' hrep hh
    exact ⟨_,g',rfl,f1,f2,f3⟩
   ·cases hh
  have leaveP:∀v s1,Ext (fn.inner s cx) s s1→finish fn.pure fn.keep s s1 v=.ret r s'→
    ∀u g1 ls w1 a1,Step qt g s.length w.heap.size w g1 s1.length w1→Fr P glob g1 s1 w.heap.size w1 a1 [] (.std rf.ntmps) (if fn.keep then s1.length else s.length) ls→Rep g1 s1.length u v→LeavesInM Fence.wide m P rf a1.tmps (Pan qt P glob g s w r s') a1.defers (.panicking [{ v:=u,recovered:=false }]) w1:=by
   intro v s1 he hh u g1 ls w1 a1 hst hf1 hrep
   rw [hf1.dl,Wd.std_dd,List.append_nil]
   refine Jp (qt:=qt) rfl ls hf1.sim hf1.df hf1.nd (fun w2 hs2 hst2=>?_)
   obtain ⟨g',f1,f2,f3⟩:=sG hb he hf1.df hf1.lo hs2.base (hst.trans hst2) hrep hh
   exact ⟨u,g',rfl,f1,f2,f3⟩
  have wp:=fun {out:Out} (hr1:aI glob call ⟨if fn.pure then s.length else cx.lim,if fn.keep then cx.base else s.length⟩ fn.keep N fn.code (sH args 0) s=out) {s1:St} (hst:out.st=some s1)=>
   bg (F:=Fence.wide) (n:=m) hcall hext hdraw (.inl rfl) (fun _=>rfl) hM fn.code c hchk hcx' (b0:=if fn.keep then s1.length else s.length) (fun hk=>by rw [hk];exact Nat.le_refl _) (hfr _) hr1 (by rw [hst];rfl)
  have hx:=fun {out:Out} (hr1:aI glob call ⟨if fn.pure then s.length else cx.lim,if fn.keep then cx.base else s.length⟩ fn.keep N fn.code (sH args 0) s=out) {s1:St} (hst:out.st=some s1)=>
   aW hext fn.code hcx' (ro:=fn.keep) (N:=N) (env:=sH args 0) (s':=s1) ((congrArg Out.st hr1).trans hst)
  refine ⟨fun h=>?_,fun h=>?_⟩
  ·refine callsIn_of_wp_marks hf hbody trivial ?_
   split at h
   ·rename_i env1 s1 hr1
    refine wpIn_mono (wp hr1 (s1:=s1) rfl) (fun e a1 w1 hq=>?_)
    obtain ⟨rfl,g1,ls,hst,hf1⟩:=hq
    exact leave env1 s1 (hx hr1 rfl) h g1 ls w1 a1 hst hf1
   ·rename_i env1 s1 hr1
    refine wpIn_mono (wp hr1 (s1:=s1) rfl) (fun e a1 w1 hq=>?_)
    obtain ⟨rfl,g1,ls,hst,hf1⟩:=hq
    exact leave env1 s1 (hx hr1 rfl) h g1 ls w1 a1 hst hf1
   ·exact (Si h).elim
   ·cases h
  ·refine callsIn_of_wp_marks hf hbody trivial ?_
   split at h
   ·exfalso;(repeat' split at h)<;>first | (cases h;done) | (unfold finish at h;(repeat' split at h)<;>cases h)
   ·exfalso;(repeat' split at h)<;>first | (cases h;done) | (unfold finish at h;(repeat' split at h)<;>cases h)
   ·rename_i v s1 hr1
    refine wpIn_mono (wp hr1 (s1:=s1) rfl) (fun e a1 w1 hq=>?_)
    obtain ⟨u,rfl,g1,ls,hst,hf1,hrp⟩:=hq
    exact leaveP v s1 (hx hr1 rfl) (Qm h) u g1 ls w1 a1 hst hf1 hrp
   ·cases h
theorem RH (hcall:l7 qt P glob call) (hext:dO call) (hdraw:FZ qt P glob call) (hM:P.follows .mixedOrders=true) {f:FuncId} {fn:aC} (hfn:aj P f fn) {N m:Nat} {args:List AV} {r:AV} (hcx:bQ cx s)
  (h:qC glob call N fn args s cx=.ret r s') (hb:Base P glob g s w) {vs:Array Value} (hv:aB g s.length vs.toList args):CallsIn Fence.wide m P f vs w (Ret qt P glob g s w r s'):=
 (MH hcall hext hdraw hM hfn hcx hb hv).1 h
theorem UG (hcall:l7 qt P glob call) (hext:dO call) (hdraw:FZ qt P glob call) (hM:P.follows .mixedOrders=true) {f:FuncId} {fn:aC} (hfn:aj P f fn) {N m:Nat} {args:List AV} {r:AV} (hcx:bQ cx s)
  (h:qC glob call N fn args s cx=.pan r s') (hb:Base P glob g s w) {vs:Array Value} (hv:aB g s.length vs.toList args):CallsIn Fence.wide m P f vs w (Pan qt P glob g s w r s'):=
 (MH hcall hext hdraw hM hfn hcx hb hv).2 h
end Go.Ai
