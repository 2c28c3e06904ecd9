/-
 What slices.SortFunc comes to on rows of structs, for the interpreter's heap.
-/
import Derived.Test.YtalbhlfigmlddaaGreatDoorAiRn5
import Derived.Shelf.SlSortCmp.NoneTotal
set_option maxRecDepth 100000
set_option linter.unusedSimpArgs false
set_option linter.unusedVariables false
set_option linter.unusedSectionVars false
namespace Go.Ai
open Go.Sort Go.Proofs Go.Shelf
variable {P:Program} {glob:Nat→Option (List AV)} {g:ah} {s:St} {w:World}
theorem C9 (off:Nat) (F cur:Array Value) (h:off+F.size≤cur.size):(putCells id off F cur).toList=cur.toList.take off++F.toList++cur.toList.drop (off+F.toList.length):=by
 apply List.ext_getElem?
 intro i
 have hl:(putCells id off F cur).toList[i]?=(putCells id off F cur)[i]?:=by simp
 rw [hl]
 simp only [putCells,Array.getElem?_mapIdx,List.getElem?_append,List.getElem?_take,List.getElem?_drop,List.length_append,List.length_take,Array.length_toList]
 have e1:min off cur.size=off:=by omega
 rw [e1]
 by_cases hi:i<off
 ·rw [if_pos (by omega),if_pos hi,if_pos hi]
  cases hc:cur[i]? with
  | none=>simp [hc]
  | some x=>simp [hc];intro h;omega
 ·by_cases hi2:i<off+F.size
  ·rw [if_pos hi2,if_neg hi]
   have hlt:i<cur.size:=by omega
   have hF:i - off<F.size:=by omega
   rw [Array.getElem?_eq_getElem hlt]
   simp only [Option.map_some]
   rw [if_pos ⟨by omega,hi2⟩]
   simp [hF]
  ·rw [if_neg hi2]
   have:off+F.size+(i - (off+F.size))=i:=by omega
   rw [this]
   cases hc:cur[i]? with
   | none=>simp [hc]
   | some x=>simp [hc];intro h h';omega
theorem Ci {α:Type} [Inhabited α] (enc:α→List Value) {k:Nat} (hk:∀x,(enc x).length=k) (d:Array α):(flatK enc k d).toList=d.toList.flatMap enc:=by
 have key:∀(l:List α) (i:Nat),(l.flatMap enc)[i]?=if i<l.length * k then (enc (l[i / k]?.getD default))[i % k]? else none:=by
  intro l
  induction l with
  | nil=>intro i;simp
  | cons x l ih=>
   intro i
   rw [List.flatMap_cons,List.getElem?_append,hk,ih]
   by_cases hi:i<k
   ·rw [if_pos hi,if_pos (by rw [List.length_cons,Nat.succ_mul];omega),Nat.div_eq_of_lt hi,Nat.mod_eq_of_lt hi];rfl
   ·have hk0:0<k∨k=0:=by omega
    rcases hk0 with hk0|hk0
    ·have e1:i / k=(i - k) / k+1:=by rw [Nat.div_eq_sub_div hk0 (by omega)]
     have e2:i % k=(i - k) % k:=Nat.mod_eq_sub_mod (by omega)
     rw [if_neg hi,e1,e2,List.getElem?_cons_succ]
     by_cases h2:i - k<l.length * k
     ·rw [if_pos h2,if_pos (by rw [List.length_cons,Nat.succ_mul];omega)]
     ·rw [if_neg h2,if_neg (by rw [List.length_cons,Nat.succ_mul];omega)]
    ·subst hk0;simp
 apply List.ext_getElem?
 intro i
 rw [key]
 by_cases hi:i<d.size * k
 ·have hk0:0<k:=by rcases Nat.eq_zero_or_pos k with h|h;· subst h;simp at hi
                   ·exact h
  have hdiv:i / k<d.size:=(Nat.div_lt_iff_lt_mul hk0).2 hi
  have hmod:i % k<k:=Nat.mod_lt _ hk0
  rw [if_pos (by simpa using hi)]
  have e1:(flatK enc k d).toList[i]?=some (flatK enc k d)[i]! := by
   rw [getElem!_pos (flatK enc k d) i (by simpa using hi)]
   simp [hi]
  rw [e1,get_flatK _ _ _ _ hi]
  have e2:d.toList[i / k]?.getD default=d[i / k]! := by simp [hdiv]
  rw [e2,List.getElem?_eq_getElem (by rw [hk];exact hmod),getElem!_pos _ _ (by rw [hk];exact hmod)]
 ·rw [if_neg (by simpa using hi)]
  simp only [Array.getElem?_toList]
  exact Array.getElem?_eq_none (by simp;omega)
section
variable {α:Type} [Inhabited α] {enc:α→List Value} {k blk off m:Nat} {dk:Array α} {os:Array Obj}
theorem wG {b:Nat} (hb:b<w.heap.size) (hne:b≠blk):(sortWorldK enc k w blk off m dk os).heap[b]?=w.heap[b]?:=by
 show ((w.heap.modify blk (onCells (putCells id off (flatK enc k dk))))++os)[b]?=w.heap[b]?
 rw [Array.getElem?_append_left (by simpa using hb),Array.getElem?_modify,if_neg (Ne.symm hne)]
theorem IQ {cur:Array Value} {t:TypeId} {fr:Nat×Nat} (hb:w.heap[blk]?=some (.cells cur t fr)):
  (sortWorldK enc k w blk off m dk os).heap[blk]?=some (.cells (putCells id off (flatK enc k dk) cur) t fr):=by
 have hlt:blk<w.heap.size:=(Array.getElem?_eq_some_iff.1 hb).1
 show ((w.heap.modify blk (onCells (putCells id off (flatK enc k dk))))++os)[blk]?=_
 rw [Array.getElem?_append_left (by simpa using hlt),Array.getElem?_modify,if_pos rfl,hb];rfl
theorem E5:w.heap.size≤(sortWorldK enc k w blk off m dk os).heap.size:=by
 show w.heap.size≤((w.heap.modify blk (onCells (putCells id off (flatK enc k dk))))++os).size
 simp
theorem X8 (h:Imm g w) (hn:kL g blk):Imm g (sortWorldK enc k w blk off m dk os):=by
 refine ⟨fun b o v hv=>?_,fun b es he=>?_⟩
 ·have hne:b≠blk:=fun e=>by subst e;rw [hn.m o] at hv;cases hv
  have hc:=h.m b o v hv
  rw [World.cell?_of_block (wG (World.block_lt_of_cell? w _ hc) hne)];exact hc
 ·have hne:b≠blk:=fun e=>by subst e;rw [hn.mm] at he;cases he
  exact (h.mm b es he).keep (wG (h.mm b es he).lt hne)
end
theorem ad3 {W w':World} (hs:W.heap.size≤w'.heap.size) (hk:∀b,b<W.heap.size→w'.heap[b]?=W.heap[b]?) (ho:w'.os=W.os) (hu:w'.output=W.output) (ht:TD W w'):
  ∃q os',w'=grow (W.drewN q) os':=by
 refine ⟨w'.drawn - W.drawn,w'.heap.extract W.heap.size w'.heap.size, ?_⟩
 have e1:w'.heap=W.heap++w'.heap.extract W.heap.size w'.heap.size:=by
  apply Array.ext_getElem?
  intro i
  by_cases hi:i<W.heap.size
  ·rw [Array.getElem?_append_left hi];exact hk i hi
  ·rw [Array.getElem?_append_right (by omega),Array.getElem?_extract]
   by_cases h2:i<w'.heap.size
   ·rw [if_pos (by omega)];congr 1;omega
   ·rw [if_neg (by omega)];exact Array.getElem?_eq_none (by omega)
 have e2:w'.drawn=W.drawn+(w'.drawn - W.drawn):=by have:=ht.drawn;omega
 have e3:=ht.tape
 obtain ⟨h1,t1,d1,o1,u1⟩:=w'
 obtain ⟨h2,t2,d2,o2,u2⟩:=W
 simp only at e1 e2 e3 ho hu
 simp only [grow,World.drewN]
 rw [←e1,←e2,e3,ho,hu]
theorem Qb {α β:Type} {f:α→Option β}:∀(l:List α) {r:List β},l.mapM f=some r→r.length=l.length∧∀i (h:i<l.length),∃y,f l[i]=some y∧r[i]?=some y
 | [],r,h=>by simp at h;subst h;exact ⟨rfl,fun i h=>by simp at h⟩
 | x::l,r,h=>by
  simp only [List.mapM_cons,Option.bind_eq_bind,Option.pure_def] at h
  cases hx:f x with
  | none=>simp [hx] at h
  | some y=>
   cases hl:l.mapM f with
   | none=>simp [hx,hl] at h
   | some ys=>
    simp [hx,hl] at h
    subst h
    obtain ⟨h1,h2⟩:=Qb l hl
    refine ⟨by simp [h1],fun i hi=>?_⟩
    cases i with
    | zero=>exact ⟨y,hx,rfl⟩
    | succ i=>obtain ⟨z,q1,q2⟩:=h2 i (by simpa using hi);exact ⟨z,by simpa using q1,by simpa using q2⟩
theorem Vm {q:AV→List AV→St→Ctx→CO} {f:Nat} {es:List AV} {tab:List (List Int)} (h:QI q f es=some tab) {i j:Nat} (hi:i<es.length) (hj:j<es.length):
  UX q f es[i] es[j]=some (SE tab i j):=by
 obtain ⟨h1,h2⟩:=Qb es h
 obtain ⟨row,q1,q2⟩:=h2 i hi
 obtain ⟨h3,h4⟩:=Qb es q1
 obtain ⟨y,q3,q4⟩:=h4 j hj
 rw [q3]
 simp [SE,q2,q4]
theorem afp {n:Nat} {lt:Nat→Nat→Bool} (h:ahQ n lt=true):SWO (fun (x y:Fin n)=>lt x.1 y.1):=by
 have h1:∀x y z,x<n→y<n→z<n→lt x x=false∧((lt x y=true→lt y z=true→lt x z=true)∧(lt x y=false→lt y z=false→lt x z=false)):=by
  intro x y z hx hy hz
  have a1:=List.all_eq_true.1 h x (by simpa using hx)
  simp only [Bool.and_eq_true] at a1
  have a2:=List.all_eq_true.1 (List.all_eq_true.1 a1.2 y (by simpa using hy)) z (by simpa using hz)
  refine ⟨by simpa using a1.1, ?_⟩
  cases hxy:lt x y<;>cases hyz:lt y z<;>cases hxz:lt x z<;>simp [hxy,hyz,hxz] at a2 ⊢
 exact ⟨fun x=>(h1 x x x x.2 x.2 x.2).1,fun x y z a b=>(h1 x y z x.2 y.2 z.2).2.1 a b,fun x y z a b=>(h1 x y z x.2 y.2 z.2).2.2 a b⟩
theorem TL {sz:Nat} (h2:2≤sz):∀(n:Nat) (cs:List AV) (i:Nat),i<n→(chunk sz n cs)[i]?=some (.ag ((cs.drop (i * sz)).take sz))
 | 0,cs,i,h=>by omega
 | n+1,cs,i,h=>by
  simp only [chunk,if_neg (show ¬sz=1 by omega)]
  cases i with
  | zero=>simp
  | succ i=>
   rw [List.getElem?_cons_succ,TL h2 n _ i (by omega),List.drop_drop]
   congr 4;rw [Nat.succ_mul];omega
theorem O8 {n m:Nat}:∀{vs:List Value} {avs:List AV},aK g n vs avs→bM m avs=true→aK g m vs avs
 | [],[],_,_=>.nil g m
 | [],_::_,h,_=>absurd h.1 (by simp)
 | _::_,[],h,_=>absurd h.1 (by simp)
 | v::vs,a::avs,h,hu=>by
  simp only [bM,Bool.and_eq_true] at hu
  exact .cons (h.head.restrict hu.1) (O8 h.tail hu.2)
theorem base_nil (hi:Imm g w) (hg:qA glob g):Base P glob g [] w:=
 ⟨hi,⟨fun l l' b hl=>by simp at hl,fun l b hl=>by simp at hl,fun l o hs=>by simp at hs⟩,hg⟩
theorem Kt {g:ah} {n:Nat} {vs:Array Value} {a b:AV} (h:aK g n vs.toList [a,b]):∃u v,vs=#[u,v]∧Rep g n u a∧Rep g n v b:=by
 obtain ⟨l⟩:=vs
 match l,h.1 with
 | [u,v],_=>exact ⟨u,v,rfl,h.head,h.tail.head⟩
theorem adI {g:ah} {n:Nat} {v:Value} {f:Fn} (h:Rep g n v (.fn f [] [])):v=.func f #[] #[]:=by
 cases h with
 | fn _ us ws _ _ h1 h2 _ _=>
  have e1:us=#[]:=Array.eq_empty_of_size_eq_zero (by simpa using h1)
  have e2:ws=#[]:=Array.eq_empty_of_size_eq_zero (by simpa using h2)
  subst e1 e2;rfl
theorem SQ {n:Nat} {α:Type} {f:α→List Value} {h:α→List AV}:∀(l:List α),(∀x∈l,aK g n (f x) (h x))→aK g n (l.flatMap f) (l.flatMap h)
 | [],_=>.nil g n
 | x::l,hx=>by
  simp only [List.flatMap_cons]
  exact (hx x (by simp)).append (SQ l (fun y hy=>hx y (by simp [hy])))
theorem QO {f:FuncId} {rf:Func} (hf:P.funcs[f]?=some rf) (hname:(rf.name == "runtime.NumGoroutine")=false) (hbody:rf.body.isNone=false) (args:Array Value) (w:World):
  (callFunc f args).run P w=.ok (.enter f args) w:=by
 have:=pW (w:=w) hf hname hbody #[] #[] args
 simpa [callOf,Deferred.ofValue,invoke,Sem.run_bind] using this
set_option maxHeartbeats 1000000 in
theorem acd {ρ:Ren} (L:SlLaysF0.n6 P ρ) (k:Nat) (aE:∀w,(isAgg (ρ.t 24)).run P w=.ok true w) (zE:∀w,(Go.sizeOf (ρ.t 24)).run P w=.ok k w)
  (hf:∃rf,P.funcs[ρ.f 6]?=some rf∧(rf.name == "runtime.NumGoroutine")=false∧rf.body.isNone=false):abb P glob (ρ.f 6) (.sortK k):=by
 refine ⟨hf,fun call qcall hcall hext hq hcf hqf args s cx r s' hcx h g w vs hb hv m=>callsIn_wide.2 ?_⟩
 have rnil:∀g',Rep g' s.length (.tuple #[]) (.tu []):=fun g'=>.tu #[] [] rfl (fun i hi=>by simp at hi)
 have same:∀(p:Option Addr) (cap:Nat) (fv:Value),vs=#[.slice p 0 cap,fv]→r=.tu []→s'=s→Calls P (ρ.f 6) vs w (Ret False P glob g s w r s'):=by
  rintro p cap fv rfl rfl rfl
  refine (AnyF.slices_SortFunc_none L p cap fv w).mono fun e w' he=>?_
  obtain ⟨rfl,rfl⟩:=he
  exact ⟨.tuple #[],g,rfl,.refl _ _ _ _,hb,rnil g⟩
 unfold iY at h
 split at h
 ·rename_i hk;cases hk
 ·cases h
  obtain ⟨u,v,rfl,ru,rv⟩:=Kt hv
  cases ru
  exact same _ _ _ rfl rfl rfl
 ·cases h
  obtain ⟨u,v,rfl,ru,rv⟩:=Kt hv
  cases ru
  exact same _ _ _ rfl rfl rfl
 ·rename_i k0 l ver sz o mm gg hk
  cases hk
  obtain ⟨u,v,rfl,ru,rv⟩:=Kt hv
  have:=adI rv
  subst this
  split at h
  ·cases h
   cases ru with
   | sk _ _ _ _ _ b off len cap c hl hh ho hc hcc=>exact same _ _ _ rfl rfl rfl
   | skE _ _ _ _ ad hl=>exact same _ _ _ rfl rfl rfl
  ·rename_i n t sz' ver' cs hl
   split at h
   case isFalse=>cases h
   rename_i hcond
   obtain ⟨rfl,rfl,rfl,h2,hoc,hmx,hlim,hbase,hund⟩:=hcond
   split at h
   case h_2=>cases h
   rename_i tab htab
   split at h
   case isFalse=>cases h
   rename_i hswo
   cases h
   have hlt:l<s.length:=(List.getElem?_eq_some_iff.1 hl).1
   obtain ⟨b,off,len,cap,cur,p1,p2,p3,p4,p5,p6,p7,p8,p9,p10,p11⟩:=hb.heap.obj l _ hl
   cases ru with
   | sk _ _ _ _ _ b' off' len' cap' c hl' hh ho hc hcc=>
    rw [p1] at hh;cases hh
    have hN:len * sz≤cap * sz:=Nat.mul_le_mul_right sz p5
    have hcur:off+cs.length≤cur.size:=by omega
    -- the row's elements
    let enc:Fin (n+1)→List Value:=fun i=>(cur.toList.drop (off+o+i.1 * sz)).take sz
    let ecs:Fin (n+1)→List AV:=fun i=>(cs.drop (o+i.1 * sz)).take sz
    have hix:∀i:Fin (n+1),(i.1+1) * sz≤(n+1) * sz:=fun i=>Nat.mul_le_mul_right sz (by omega)
    have hix':∀i:Fin (n+1),i.1 * sz+sz≤(n+1) * sz:=fun i=>by have:=hix i;rwa [Nat.succ_mul] at this
    have henc:∀x,(enc x).length=sz:=fun x=>by
     have:=hix' x
     simp only [enc,List.length_take,List.length_drop,Array.length_toList];omega
    have hsub:∀x,enc x=((((cur.toList.drop off).take cs.length).drop (o+x.1 * sz)).take sz):=fun x=>by
     have:=hix' x
     simp only [enc]
     rw [List.drop_take,List.take_take,List.drop_drop,Nat.min_eq_left (by omega),Nat.add_assoc]
    have hone:∀x,∀u∈enc x,u.oneCell'=true:=fun x u hu=>by
     rw [hsub x] at hu
     exact p11 u (List.mem_of_mem_drop (List.mem_of_mem_take hu))
    have hrep:∀x,aK g s.length (enc x) (ecs x):=fun x=>by rw [hsub x];exact (p10.drop _).take _
    have hrep0:∀x,aK g 0 (enc x) (ecs x):=fun x=>by
     refine O8 (hrep x) ?_
     rw [bK] at hund ⊢
     intro a ha
     refine hund a ?_
     have:=hix' x
     have e1:ecs x=(((cs.drop o).take ((n+1) * sz)).drop (x.1 * sz)).take sz:=by
      simp only [ecs]
      rw [List.drop_take,List.take_take,List.drop_drop,Nat.min_eq_left (by omega)]
     rw [e1] at ha
     exact List.mem_of_mem_drop (List.mem_of_mem_take ha)
    let cf:Fin (n+1)→Fin (n+1)→Int:=fun x y=>SE tab x.1 y.1
    have hO:SWO (ltOf cf):=afp hswo
    let d:Array (Fin (n+1)):=Array.ofFn fun i=>i
    have hd:d.size=n+1:=by simp [d]
    have hblk:b<w.heap.size:=(Array.getElem?_eq_some_iff.1 p8).1
    have hflat:(flatK enc sz d).toList=((cur.toList.drop (off+o)).take ((n+1) * sz)):=by
     rw [Ci enc henc]
     have key:∀(q:Nat) (hq:q≤n+1),(((List.finRange (n+1)).take q).flatMap enc)=(cur.toList.drop (off+o)).take (q * sz):=by
      intro q
      induction q with
      | zero=>intro _;simp
      | succ q ih=>
       intro hq
       have hql:q<(List.finRange (n+1)).length:=by rw [List.length_finRange];omega
       rw [List.take_succ_eq_append_getElem hql,List.flatMap_append,ih (by omega),Nat.succ_mul,List.take_add]
       congr 1
       simp only [List.getElem_finRange,List.flatMap_cons,List.flatMap_nil,List.append_nil,enc,List.drop_drop]
       rfl
     have h3:=key (n+1) (Nat.le_refl _)
     rw [List.take_of_length_le (by simp)] at h3
     rw [←h3]
     have h2:d.toList=List.finRange (n+1):=by
      apply List.ext_getElem
      ·rw [Array.length_toList,hd,List.length_finRange]
      ·intro i h1 h2
       simp only [d,Array.getElem_toList,Array.getElem_ofFn,List.getElem_finRange]
       rfl
     rw [h2]
    have hfs:(flatK enc sz d).size=(n+1) * sz:=by rw [size_flatK,hd]
    have hH:HoldsK enc sz w b (off+o) d:=by
     intro j hj
     rw [hfs] at hj
     have e1:(flatK enc sz d)[j]! = cur[off+o+j]! := by
      have hjj:j<(flatK enc sz d).size:=by rw [hfs];exact hj
      rw [getElem!_pos _ j hjj,getElem!_pos cur (off+o+j) (by omega)]
      have:(flatK enc sz d).toList[j]?=some cur[off+o+j]:=by
       rw [hflat,List.getElem?_take_of_lt hj,List.getElem?_drop];simp [show off+o+j<cur.size by omega]
      rw [Array.getElem?_toList,Array.getElem?_eq_getElem hjj] at this
      exact Option.some.inj this
     refine ⟨?_, ?_⟩
     ·rw [cell_of_row w b _ cur t (0,0) p8,e1];simp [show off+o+j<cur.size by omega]
     ·simp [World.frozen?,p8]
    have htl:∀x:Fin (n+1),(chunk sz (n+1) (cs.drop o))[x.1]?=some (.ag (ecs x)):=fun x=>by
     rw [TL h2 _ _ _ x.2,List.drop_drop]
    have hcmp:CmpLays P gg #[] enc sz cf b (off+o) d.size w:=by
     intro m os dk hs x y
     have hxl:x.1<(chunk sz (n+1) (cs.drop o)).length:=by rw [qx];exact x.2
     have hyl:y.1<(chunk sz (n+1) (cs.drop o)).length:=by rw [qx];exact y.2
     have hc2:=Vm htab hxl hyl
     have ex:(chunk sz (n+1) (cs.drop o))[x.1]=.ag (ecs x):=by have:=htl x;rw [List.getElem?_eq_getElem hxl] at this;exact Option.some.inj this
     have ey:(chunk sz (n+1) (cs.drop o))[y.1]=.ag (ecs y):=by have:=htl y;rw [List.getElem?_eq_getElem hyl] at this;exact Option.some.inj this
     rw [ex,ey] at hc2
     unfold UX at hc2
     split at hc2
     case h_2=>cases hc2
     rename_i rr s2 hcall2
     cases hc2
     obtain ⟨rf,q1,q2,q3⟩:=hqf _ _ _ _ _ _ _ _ (.inl hcall2)
     have hbW:Base P glob g [] (sortWorldK enc sz w b (off+o) m dk os):=base_nil (X8 hb.imm p3) hb.glob
     have rx:∀z:Fin (n+1),Rep g 0 (.agg (enc z).toArray) (.ag (ecs z)):=fun z=>DV (by simpa using hrep0 z) (by intro u hu;exact hone z u (by simpa using hu))
     obtain ⟨fid,args',r1,r2⟩:=hq.fn (.fn (.func gg) [] []) _ [] ⟨0,0⟩ _ s2 ⟨Nat.le_refl _,Nat.le_refl _⟩ (fun l=>by simp) hcall2 g _ (.func (.func gg) #[] #[]) #[.agg (enc x).toArray,.agg (enc y).toArray] hbW
      (.fn _ _ _ _ _ rfl rfl (fun i hi=>by simp at hi) (fun i hi=>by simp at hi)) (.cons (rx x) (.cons (rx y) (.nil _ _)))
     rw [pW q1 q2 q3] at r1
     cases r1
     refine (callsIn_wide.1 (r2 0)).mono fun e w' he=>?_
     obtain ⟨v,g',rfl,hst,_,hrv⟩:=he
     cases hrv
     exact ⟨rfl,ad3 hst.size (fun b hb'=>hst.keep b hb' (fun ⟨l,hl,_⟩=>by simp at hl)) hst.io.1 hst.io.2.1 (hst.io.2.2 trivial)⟩
    have eg:∀args w,(callFunc gg args).run P w=.ok (.enter gg args) w:=by
     have hc2:=Vm htab (i:=0) (j:=0) (by rw [qx];omega) (by rw [qx];omega)
     unfold UX at hc2
     split at hc2
     case h_2=>cases hc2
     rename_i hcall2
     obtain ⟨rf,q1,q2,q3⟩:=hqf _ _ _ _ _ _ _ _ (.inl hcall2)
     exact fun args w=>QO q1 q2 q3 args w
    have hmain:=AnyQ.slices_SortFunc_eq L sz aE zE enc henc hone cf hO gg #[] b (off+o) c d w eg hcmp hH hblk (by rw [hd];simp only [aU] at hmx;omega)
    rw [hd] at hmain
    refine hmain.mono fun e w' he=>?_
    obtain ⟨rfl,nn,os,rfl⟩:=he
    let d':=pdq (ltOf cf) d 0 (n+1) (Lib.bitLen (n+1)) true true
    have hperm:=pdq_sorts (ltOf cf) hO d 0 (n+1) (Lib.bitLen (n+1)) true true (Nat.zero_le _) (by rw [hd];exact Nat.le_refl _) (Or.inl rfl)
    have hd':d'.size=n+1:=hperm.1.1.trans hd
    have hfl':(flatK enc sz d').toList=d'.toList.flatMap enc:=Ci enc henc d'
    have hfs':(flatK enc sz d').size=(n+1) * sz:=by rw [size_flatK,hd']
    let new:List AV:=(XE n fun i j=>decide (SE tab i j<0)).flatMap fun i=>(cs.drop (o+i * sz)).take sz
    have hnew:new=d'.toList.flatMap ecs:=by
     simp only [new,XE,List.flatMap_map]
     rfl
    have rnew:aK g s.length (flatK enc sz d').toList new:=by rw [hfl',hnew];exact SQ _ (fun x _=>hrep x)
    have hnl:new.length=(n+1) * sz:=by rw [←rnew.1];simpa using hfs'
    have hsp:(splice cs o new).length=cs.length:=by simp only [splice,List.length_append,List.length_take,List.length_drop,hnl];omega
    have hrow:=IQ (enc:=enc) (k:=sz) (off:=off+o) (m:=nn) (dk:=d') (os:=os) p8
    have hcells:((putCells id (off+o) (flatK enc sz d') cur).toList.drop off).take cs.length=((cur.toList.drop off).take cs.length).take o++(flatK enc sz d').toList++((cur.toList.drop off).take cs.length).drop (o+(flatK enc sz d').toList.length):=by
     rw [C9 _ _ _ (by rw [hfs'];omega)]
     have:=Hz cur.toList (flatK enc sz d').toList off o cs.length (by rw [Array.length_toList,hfs'];omega) (by rw [Array.length_toList];omega)
     exact this
    have hone':dR (flatK enc sz d').toList:=by
     rw [hfl']
     intro u hu
     obtain ⟨x,_,hx⟩:=List.mem_flatMap.1 hu
     exact hone x u hx
    refine ⟨.tuple #[],g,rfl, ?_,⟨X8 hb.imm p3, ?_,hb.glob⟩,by simpa using rnil g⟩
    ·rw [List.length_set]
     exact ⟨.refl _ _,E5,fun b' hb' hnt=>wG hb' (fun e=>hnt (by subst e;exact ⟨l,hlt,.inr ⟨ver,_,p1,rfl⟩⟩)),fun _ _ _=>rfl,fun _ _=>rfl,fun b' hb'=>.inl hb',rfl,rfl,fun hF=>hF.elim⟩
    ·refine hb.heap.setAt hlt (.refl _ _) (fun _ _ _=>rfl) (fun b' hb'=>.inl hb') (fun b' hb'=>Nat.lt_of_lt_of_le (hb.heap.lt l b' hlt hb') E5) E5 (fun b' hb' hn=>⟨wG hb' (fun e=>hn (by subst e;exact .inr ⟨ver,_,p1,rfl⟩)),rfl,rfl⟩) ?_
     refine ⟨b,off,len,cap,putCells id (off+o) (flatK enc sz d') cur,p1,p2,p3,by rw [←p4];exact hsp,p5,p6,p7,hrow, ?_, ?_, ?_⟩
     ·have:(putCells id (off+o) (flatK enc sz d') cur).size=cur.size:=by simp [putCells]
      rw [this];exact p9
     ·show aK g s.length (((putCells id (off+o) (flatK enc sz d') cur).toList.drop off).take (splice cs o new).length) (splice cs o new)
      rw [hsp,hcells]
      have hdl:(flatK enc sz d').toList.length=new.length:=rnew.1
      rw [hdl]
      exact ((p10.take o).append rnew).append (p10.drop _)
     ·show dR (((putCells id (off+o) (flatK enc sz d') cur).toList.drop off).take (splice cs o new).length)
      rw [hsp,hcells]
      intro u hu
      rcases List.mem_append.1 hu with hu|hu
      ·rcases List.mem_append.1 hu with hu|hu
       ·exact p11 u (List.mem_of_mem_take hu)
       ·exact hone' u hu
      ·exact p11 u (List.mem_of_mem_drop hu)
  ·cases h
 ·rename_i hk;cases hk
 ·rename_i hk;cases hk
 ·rename_i hk;cases hk
 ·cases h
end Go.Ai
