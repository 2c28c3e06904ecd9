/-
 Stores.
-/
import Derived.Test.YtcofenimejmoeaaGreatDoorAiA1
import Derived.Laws.Concat
import Derived.Laws.Strings2
import Derived.Laws.BytesString
import Derived.Laws.StructEq
set_option maxRecDepth 100000
set_option linter.unusedSimpArgs false
set_option linter.unusedVariables false
set_option linter.unusedSectionVars false
namespace Go.Ai
theorem jE {w:World} {b:Nat} {p new:Array Value} {t:TypeId} {fr:Nat×Nat} (h:w.heap[b]?=some (.cells p t fr)):(w.setRow b new).heap[b]?=some (.cells new t fr):=setRow_heap w b p new t fr h
theorem aW {w:World} {b c:Nat} (new:Array Value) (h:c≠b):(w.setRow b new).heap[c]?=w.heap[c]?:=by
 simp [World.setRow,Array.getElem?_modify,Ne.symm h]
theorem yU {g:ai} {n:Nat} {u:Value} {v:AV} (h:Rep g n u v) (h1:v.cells.all AV.one=true):aX g n u.cells.toList v.cells∧fC u.cells.toList:=by
 have p:∀{u:Value} {v:AV},Rep g n u v→v.one=true→u.cells=#[u]∧u.oneCell'=true:=by
  intro u v h h1
  cases h<;>first | (simp [AV.one] at h1;done)|exact ⟨rfl,rfl⟩ | (rename_i hr;cases hr<;>exact ⟨rfl,rfl⟩)
 cases hv:v with
 | ag cs=>
  subst hv
  cases h with
  | ag vs _ hl ho hr=>
   show aX g n vs.toList cs∧fC vs.toList;refine ⟨⟨by simpa using hl,fun i hi A=>?_⟩,fun x hx=>?_⟩
   ·have:=hr i (by simpa using hi) A
    rwa [Array.getElem_toList]
   ·simp at hx;obtain ⟨i,hi,rfl⟩:=Array.mem_iff_getElem.1 hx;exact ho i hi
 | _=>
  all_goals
   subst hv;have hs:=p h (by simpa [AV.cells] using h1);rw [hs.1];exact ⟨by simpa [AV.cells] using aX.cons h (.nil g n),fun x hx=>by simp at hx;subst hx;exact hs.2⟩
theorem xI {g:ai} {n:Nat} {us new:List Value} {cs p:List AV} (h:aX g n us cs) (h':aX g n new p) (o:Nat):
  aX g n (us.take o++new++us.drop (o+new.length)) (splice cs o p):=by
 unfold splice;rw [h'.1];exact ((h.take o).append h').append (h.drop _)
theorem uj {us new:List Value} (h:fC us) (h':fC new) (o k:Nat):fC (us.take o++new++us.drop k):=by
 intro v hv;simp only [List.mem_append] at hv;rcases hv with (hv|hv)|hv
 ·exact h v (List.mem_of_mem_take hv)
 ·exact h' v hv
 ·exact h v (List.mem_of_mem_drop hv)
variable {P:Program} {glob:Nat→Option (List AV)} {g:ai} {s:St} {B:Nat} {w:World} {env:Env} {a:Act}
theorem BU {t:TypeId} {n:Nat} (I:qx P t n=true) {b o:Nat} {A:Array Value} {ty:TypeId} {v:Value} (hn:v.cells.size=n) (h1:fC v.cells.toList)
  (hg:w.heap[b]?=some (.cells A ty (0,0))) (x:o+n≤A.size):
  (Instr.storeAt t (.pointer (some ⟨b,o,none⟩)) v).run P w=.ok () (w.setRow b (A.toList.take o++v.cells.toList++A.toList.drop (o+v.cells.toList.length)).toArray):=by
 have p:=run_storeCells_at P b o ty v.cells.toList 0 A w hg (by simpa [hn] using x) h1;simp only [Nat.add_zero] at p;simp [Instr.storeAt,Instr.sureAddr,storeVar,Sem.run_bind,run_sizeOf I w,hn,p]
theorem Base.setRow (h:Base P glob g s w) {b:Nat} {x new:Array Value} {ty:TypeId} {fz:Nat×Nat} (hg:w.heap[b]?=some (.cells x ty fz)) (hb:¬g.taken s.length b)
  (hm:∀o v,g.m b o=some v→new[o]?=x[o]?) (A:g.mm b=none):Base P glob g s (w.setRow b new):=by
 refine ⟨⟨fun c o v hv=>?_,fun c es hc=>?_⟩,h.heap.next (.refl _ _) (fun _ _=>rfl) (by simp) (fun c hc=>⟨aW new (fun p=>by subst p;exact hb hc),rfl,rfl⟩),h.glob⟩
 ·by_cases p:c=b
  ·subst p;rw [cell_of_row _ c o new ty fz (jE hg),hm o v hv,←cell_of_row w c o x ty fz hg];exact h.imm.m c o v hv
  ·rw [World.cell?_of_block (aW new p)];exact h.imm.m c o v hv
 ·have p:c≠b:=fun p=>by subst p;rw [A] at hc;cases hc
  exact (h.imm.mm c es hc).keep (aW new p)
theorem OI {n b:Nat} {w:World} (new:Array Value) (hb:B≤b):Step True g n B w g n (w.setRow b new):=
 ⟨.refl _ _,by simp,fun c hc _=>aW new (by omega),fun _ _ _=>rfl,fun _ _=>rfl,fun b hb=>.inl hb,rfl,rfl,fun _=>⟨rfl,Nat.le_refl _⟩⟩
theorem XO {t:TypeId} {n:Nat} (S:qx P t n=true) {tm:Nat→Value} (h:Sim P glob g s B w tm env) {k o:Nat} {cs:List AV} (hk:lk env k=some (.bx cs)) {b:Nat} (hb:tm k=.pointer (some ⟨b,0,none⟩))
  {u:Value} {v:AV} (hr:Rep g s.length u v) (hn:v.cells.length=n) (h1:v.cells.all AV.one=true) (W:o+n≤cs.length):
  ∃w',(Instr.storeAt t (.pointer (some ⟨b,o,none⟩)) u).run P w=.ok () w'∧Step True g s.length B w g s.length w'∧Sim P glob g s B w' tm ((k,.bx (splice cs o v.cells))::env):=by
 obtain ⟨b',Q,ty,q1,q2,q3,q4,q5,q6⟩:=h.env.rel k _ hk;rw [hb] at q1;simp only [Value.pointer.injEq,Option.some.injEq,Addr.mk.injEq] at q1;obtain ⟨rfl,_⟩:=q1;obtain ⟨r1,r2⟩:=yU hr h1;have R:Q.size=cs.length:=by simpa using q3.1
 have O:u.cells.size=n:=by have:=r1.1;simp at this;omega
 have p:dn (tm k)=some b:=by rw [hb];rfl
 refine ⟨_,BU S O r2 q2 (by omega),OI _ q6,⟨h.base.setRow q2 (h.env.off k _ hk rfl b p) (fun o' v' A=>by rw [q5.m o'] at A;cases A) q5.mm, ?_,by simpa using h.B⟩⟩;refine h.env.turnNext k _ _ hk rfl rfl (.refl _ _) ⟨b,_,ty,hb,jE q2, ?_, ?_,q5,q6⟩ (fun k' x I hx J c hc=>⟨aW _ (fun K=>?_),rfl,rfl⟩) (fun k' x I hx c hc ht=>ht)
 ·simpa using xI q3 r1 o
 ·simpa using uj q4 r2 o _
 ·subst K;exact h.env.apart k' k x _ I hk hx rfl J c hc p
theorem Uu {e:AV} {o:Nat} {new:List AV} (p:o+new.length≤e.cells.length) (A:new≠[]) (h1:new.all AV.one=true):(ED e o new).cells=splice e.cells o new:=by
 cases he:e with
 | ag cs=>simp [ED,AV.cells]
 | _=>
  all_goals
   subst he;simp only [AV.cells,List.length_singleton] at p
   match new,A with
   | [x],_=>
    have:o=0:=by simp at p;omega
    subst this;simp only [ED,AV.cells,splice,List.headD_cons];simp only [List.all_cons,List.all_nil,Bool.and_true] at h1
    cases x<;>simp_all [AV.one]
   | x::y::r,_=>simp at p;omega
theorem afI {es:List AV} {sz:Nat} (h:∀a∈es,a.cells.length=sz) {e':AV} (he:e'.cells.length=sz):∀i (_:i<es.length),(es.set i e').flatMap AV.cells=splice (es.flatMap AV.cells) (i * sz) e'.cells:=by
 induction es with
 | nil=>intro i hi;simp at hi
 | cons e es ih=>
  intro i hi;have h0:e.cells.length=sz:=h e (by simp)
  cases i with
  | zero=>simp [splice,he,←h0]
  | succ i=>
   simp only [List.set_cons_succ,List.flatMap_cons];rw [ih (fun a ha=>h a (by simp [ha])) i (by simpa using hi)];unfold splice;have e1:(i+1) * sz=e.cells.length+i * sz:=by rw [h0,Nat.succ_mul];omega
   rw [e1,List.take_length_add_append,Nat.add_assoc,List.drop_length_add_append];simp [List.append_assoc]
theorem Ut {cs:List AV} {i sz o:Nat} {new:List AV} (p:o+new.length≤sz) (hi:i+sz≤cs.length):splice cs i (splice ((cs.drop i).take sz) o new)=splice cs (i+o) new:=by
 unfold splice;apply List.ext_getElem?;intro j;simp only [List.getElem?_append,List.length_append,List.length_take,List.length_drop,List.getElem?_take,List.getElem?_drop];by_cases h1:j<i
 ·simp only [show j<min i cs.length by omega,show j<min (i+o) cs.length by omega,show j<min i cs.length+(min o (min sz (cs.length - i))+new.length+(min sz (cs.length - i) - (o+new.length))) by omega,show j<min (i+o) cs.length+new.length by omega,show j<i+o by omega,h1,if_true]
 ·by_cases h2:j<i+o
  ·simp only [show ¬j<min i cs.length by omega,show j<min (i+o) cs.length by omega,show j<min i cs.length+(min o (min sz (cs.length - i))+new.length+(min sz (cs.length - i) - (o+new.length))) by omega,show j<min (i+o) cs.length+new.length by omega,h2,if_true,if_false,show j - min i cs.length<min o (min sz (cs.length - i))+new.length by omega,show j - min i cs.length<min o (min sz (cs.length - i)) by omega,show j - min i cs.length<o by omega,show j - min i cs.length<sz by omega]
   congr 1;omega
  ·by_cases h3:j<i+o+new.length
   ·simp only [show ¬j<min i cs.length by omega,show ¬j<min (i+o) cs.length by omega,show j<min i cs.length+(min o (min sz (cs.length - i))+new.length+(min sz (cs.length - i) - (o+new.length))) by omega,show j<min (i+o) cs.length+new.length by omega,if_true,if_false,show j - min i cs.length<min o (min sz (cs.length - i))+new.length by omega,show ¬j - min i cs.length<min o (min sz (cs.length - i)) by omega]
    congr 1;omega
   ·by_cases h4:j<i+sz
    ·simp only [show ¬j<min i cs.length by omega,show ¬j<min (i+o) cs.length by omega,show j<min i cs.length+(min o (min sz (cs.length - i))+new.length+(min sz (cs.length - i) - (o+new.length))) by omega,show ¬j<min (i+o) cs.length+new.length by omega,if_true,if_false,show ¬j - min i cs.length<min o (min sz (cs.length - i))+new.length by omega];rw [if_pos (by omega)]
     congr 1;omega
    ·simp only [show ¬j<min i cs.length+(min o (min sz (cs.length - i))+new.length+(min sz (cs.length - i) - (o+new.length))) by omega,show ¬j<min (i+o) cs.length+new.length by omega,if_false]
     congr 1;omega
theorem acg {t:TypeId} {n:Nat} (b3:qx P t n=true) {tm:Nat→Value} (h:Sim P glob g s B w tm env) {k i o:Nat} {ty sz:Nat} {es:List AV} (hk:lk env k=some (.own false ty sz es)) {b len cap:Nat}
  (hb:tm k=.slice (some ⟨b,0,none⟩) len cap) {e:AV} (he:es[i]?=some e)
  {u:Value} {v:AV} (hr:Rep g s.length u v) (hn:v.cells.length=n) (h1:v.cells.all AV.one=true) (b8:n≠0) (b7:o+n≤e.cells.length):
  ∃w',(Instr.storeAt t (.pointer (some ⟨b,i * sz+o,none⟩)) u).run P w=.ok () w'∧Step True g s.length B w g s.length w'∧
   Sim P glob g s B w' tm ((k,.own false ty sz (es.set i (ED e o v.cells)))::env):=by
 obtain ⟨xs,q1,q2,q3,q4,q5,q6⟩:=h.env.rel k _ hk;obtain ⟨r1,r2⟩:=yU hr h1;obtain ⟨hi,a1⟩:=List.getElem?_eq_some_iff.1 he;have b0:e.cells.length=sz:=by rw [←a1];exact q4 _ (List.getElem_mem hi)
 rcases q1.2 with ⟨K,_⟩|⟨gb,b1,Q,p,hB,a6,J,a0,W,R⟩
 ·rw [hb] at K;cases K
 ·have hg:=a6.z;have a8:=p;rw [hb] at p;simp only [Value.slice.injEq,Option.some.injEq,Addr.mk.injEq] at p;obtain ⟨⟨rfl,_⟩,_,rfl⟩:=p;have A:dn (tm k)=some b:=by rw [hb];rfl
  obtain ⟨p1,p2,p3⟩:=q6 b A
  have S:∀j,g.m b j=none:=fun j=>by
   by_cases hj:j<xs.length
   ·simpa using p3 j hj
   ·exact p2 j (by omega)
  have Y:u.cells.size=n:=by have:=r1.1;simp at this;omega
  have b2:xs.length=es.length * sz:=q1.1
  have b6:i * sz+sz≤es.length * sz:=by
   have:=Nat.mul_le_mul_right sz (show i+1≤es.length from hi)
   rw [Nat.succ_mul] at this;exact this
  have b5:es.length * sz≤Q.size:=by rw [W];exact Nat.mul_le_mul_right sz J
  have I:u.cells.toList.length=n:=by simpa using Y
  refine ⟨_,BU b3 Y r2 hg (by omega),OI _ hB,⟨h.base.setRow hg (h.env.off k _ hk rfl b A) (fun o' v' p=>by rw [S o'] at p;cases p) p1, ?_,by simpa using h.B⟩⟩;refine h.env.turnNext k _ _ hk rfl rfl (.refl _ _) ?_ (fun k' x Z hx a4 c hc=>⟨aW _ (fun a5=>?_),rfl,rfl⟩) (fun k' x Z hx c hc ht=>ht)
  ·have a2:=Uu (e:=e) (o:=o) (new:=v.cells) (by omega) (fun hx=>by rw [hx] at hn;simp at hn;omega) h1;have O:(ED e o v.cells).cells.length=sz:=by rw [a2];simp [splice];omega
   have b4:(es.flatMap AV.cells).length=es.length * sz:=yu q4
   have a7:((es.flatMap AV.cells).drop (i * sz)).take sz=e.cells:=by
    apply List.ext_getElem?;intro j;by_cases hj:j<sz
    ·rw [List.getElem?_take_of_lt hj,List.getElem?_drop,←a1];exact flat_get q4 i hi j hj
    ·rw [List.getElem?_eq_none (by simp;omega),List.getElem?_eq_none (by omega)]
   have a9:(es.set i (ED e o v.cells)).flatMap AV.cells=splice (es.flatMap AV.cells) (i * sz+o) v.cells:=by
    rw [afI q4 O i hi,a2,←a7,Ut (by omega) (by omega)]
   have a3:(Q.toList.take (i * sz+o)++u.cells.toList++Q.toList.drop (i * sz+o+u.cells.toList.length)).take (es.length * sz)=xs.take (i * sz+o)++u.cells.toList++xs.drop (i * sz+o+u.cells.toList.length):=by
    rw [←R,I];rw [List.take_append,List.take_append,List.take_take,List.take_take];simp only [List.length_append,List.length_take,Array.length_toList,I];rw [show min (es.length * sz) (i * sz+o)=min (i * sz+o) (es.length * sz) by omega]
    congr 1
    ·congr 1
     rw [List.take_of_length_le (by omega)]
    ·rw [List.drop_take]
     congr 1
     omega
   refine ⟨xs.take (i * sz+o)++u.cells.toList++xs.drop (i * sz+o+u.cells.toList.length),⟨?_,.inr ⟨b,cap,_, ?_,hB,.of (jE hg), ?_,a0, ?_, ?_⟩⟩, ?_,uj q3 r2 _ _, ?_,q5,fun c hc=>?_⟩
   ·simp [I];omega
   ·simp;exact a8
   ·simpa using J
   ·simp [I];omega
   ·simpa using a3
   ·rw [a9];exact xI q2 r1 _
   ·intro x hx;rcases List.mem_or_eq_of_mem_set hx with hx|rfl
    ·exact q4 x hx
    ·exact O
   ·rw [A] at hc;cases hc;exact ⟨p1,fun j _=>S j,fun j _=>by simpa using S j⟩
  ·subst a5;exact h.env.apart k' k x _ Z hk hx rfl a4 c hc A
theorem ad6 {t:TypeId} {n:Nat} (S:qx P t n=true) {tm:Nat→Value} (h:Sim P glob g s B w tm env) {l o:Nat} {cs:List AV} (hl:s[l]?=some (.cells cs))
  {u:Value} {v:AV} (hr:Rep g s.length u v) (hn:v.cells.length=n) (h1:v.cells.all AV.one=true) (W:o+n≤cs.length):
  ∃w',(Instr.storeAt t (.pointer (some ⟨g.L l,o,none⟩)) u).run P w=.ok () w'∧Step True g s.length B w g s.length w'∧Sim P glob g (s.set l (.cells (splice cs o v.cells))) B w' tm env:=by
 have A:l<s.length:=(List.getElem?_eq_some_iff.1 hl).1;obtain ⟨Q,ty,q2,q3,q4⟩:=h.base.heap.cells l cs hl;obtain ⟨r1,r2⟩:=yU hr h1;have R:Q.size=cs.length:=by simpa using q3.1
 have J:u.cells.size=n:=by have:=r1.1;simp at this;omega
 have x:nX g (g.L l):=(h.base.heap.obj l _ hl).1;refine ⟨_,BU S J r2 q2 (by omega),⟨.refl _ _,by simp,fun c hc K=>aW _ (fun p=>K (by subst p;exact .L A)),fun _ _ _=>rfl,fun _ _=>rfl,fun b hb=>.inl hb,rfl,rfl,fun _=>⟨rfl,Nat.le_refl _⟩⟩,⟨⟨?_, ?_,h.base.glob⟩, ?_,by simpa using h.B⟩⟩
 ·refine ⟨fun c o' v' I=>?_,fun c es hc=>?_⟩
  ·have p:c≠g.L l:=fun p=>by subst p;rw [x.m o'] at I;cases I
   rw [World.cell?_of_block (aW _ p)];exact h.base.imm.m c o' v' I
  ·have p:c≠g.L l:=fun p=>by subst p;rw [x.mm] at hc;cases hc
   exact (h.base.imm.mm c es hc).keep (aW _ p)
 ·refine h.base.heap.setAt A (.refl _ _) (fun _ _ _=>rfl) (fun b hb=>.inl hb) (fun b hb=>by simpa using h.base.heap.lt l b A hb) (by simp) (fun b _ hb=>⟨aW _ (fun p=>hb (.inl p.symm)),rfl,rfl⟩) ⟨x,_,ty,jE q2, ?_, ?_⟩
  ·simpa using xI q3 r1 o
  ·simpa using uj q4 r2 o _
 ·simp only [List.length_set];refine h.env.next (.refl _ _) (fun k e hk ho b hb=>⟨aW _ (fun O=>?_),rfl,rfl,fun ht=>ht⟩);exact h.env.off k e hk ho b hb (by subst O;exact .L A)
theorem ad5 {t:TypeId} {n:Nat} (a3:qx P t n=true) {tm:Nat→Value} (h:Sim P glob g s B w tm env) {l o ty sz ver:Nat} {cs:List AV} (hl:s[l]?=some (.buf ty sz ver cs))
  {b off len cap:Nat} (hh:g.hist l ver=some (.slice (some ⟨b,off,none⟩) len cap)) {u:Value} {v:AV} (hr:Rep g s.length u v) (hn:v.cells.length=n) (h1:v.cells.all AV.one=true) (a4:o+n≤cs.length):
  ∃w',(Instr.storeAt t (.pointer (some ⟨b,off+o,none⟩)) u).run P w=.ok () w'∧Step True g s.length B w g s.length w'∧Sim P glob g (s.set l (.buf ty sz ver (splice cs o v.cells))) B w' tm env:=by
 have I:l<s.length:=(List.getElem?_eq_some_iff.1 hl).1;obtain ⟨b',a0,Z,a1,p,q1,q2,q3,q4,q5,q6,q7,q8,q9,W,Y⟩:=h.base.heap.obj l _ hl;rw [hh] at q1;cases q1;obtain ⟨r1,r2⟩:=yU hr h1;have O:u.cells.size=n:=by have:=r1.1;simp at this;omega
 have a2:cs.length≤cap * sz:=by rw [q4];exact Nat.mul_le_mul_right sz q5
 have J:g.bl l b:=.inr ⟨ver,_,hh,rfl⟩;have Q:u.cells.toList.length=n:=by simpa using O
 refine ⟨_,BU a3 O r2 q8 (by omega),⟨.refl _ _,by simp,fun c hc S=>aW _ (fun x=>S (by subst x;exact ⟨l,I,J⟩)),fun _ _ _=>rfl,fun _ _=>rfl,fun b hb=>.inl hb,rfl,rfl,fun _=>⟨rfl,Nat.le_refl _⟩⟩,⟨⟨?_, ?_,h.base.glob⟩, ?_,by simpa using h.B⟩⟩
 ·refine ⟨fun c o' v' K=>?_,fun c es hc=>?_⟩
  ·have x:c≠b:=fun x=>by subst x;rw [q3.m o'] at K;cases K
   rw [World.cell?_of_block (aW _ x)];exact h.base.imm.m c o' v' K
  ·have x:c≠b:=fun x=>by subst x;rw [q3.mm] at hc;cases hc
   exact (h.base.imm.mm c es hc).keep (aW _ x)
 ·refine h.base.heap.setAt I (.refl _ _) (fun _ _ _=>rfl) (fun b hb=>.inl hb) (fun b hb=>by simpa using h.base.heap.lt l b I hb) (by simp) (fun c _ hc=>⟨aW _ (fun x=>hc (by subst x;exact J)),rfl,rfl⟩) ?_;have R:(splice cs o v.cells).length=cs.length:=by simp [splice];omega
  have A:((p.toList.take (off+o)++u.cells.toList++p.toList.drop (off+o+u.cells.toList.length)).drop off).take cs.length=
    ((p.toList.drop off).take cs.length).take o++u.cells.toList++((p.toList.drop off).take cs.length).drop (o+u.cells.toList.length):=by
   apply List.ext_getElem?;intro j;simp only [List.getElem?_take,List.getElem?_drop,List.getElem?_append,List.length_append,List.length_take,List.length_drop,Array.length_toList,Q];by_cases c1:j<cs.length
   ·by_cases c2:j<o
    ·simp [c1,c2,show off+j<min (off+o) p.size+n by omega,show off+j<min (off+o) p.size by omega,show off+j<off+o by omega,show j<min o (min cs.length (p.size - off))+n by omega,show j<min o (min cs.length (p.size - off)) by omega]
    ·by_cases c3:j<o+n
     ·simp [c1,show off+j<min (off+o) p.size+n by omega,show ¬off+j<min (off+o) p.size by omega,show j<min o (min cs.length (p.size - off))+n by omega,show ¬j<min o (min cs.length (p.size - off)) by omega]
      congr 1;omega
     ·simp [c1,show ¬off+j<min (off+o) p.size+n by omega,show ¬j<min o (min cs.length (p.size - off))+n by omega];rw [if_pos (by omega)]
      congr 1;omega
   ·have e1:¬j<min o (min cs.length (p.size - off))+n:=by omega
    simp [c1,e1];intro hx;omega
  refine ⟨b,off,len,cap,_,hh,q2,q3,by omega,q5,q6,q7,jE q8,by simp [Q];omega, ?_, ?_⟩
  ·rw [R];simp only [List.toList_toArray];rw [A];exact xI W r1 o
  ·rw [R];simp only [List.toList_toArray];rw [A];exact uj Y r2 o _
 ·simp only [List.length_set];refine h.env.next (.refl _ _) (fun k e hk ho c hc=>⟨aW _ (fun x=>?_),rfl,rfl,fun ht=>ht⟩);exact h.env.off k e hk ho c hc (by subst x;exact ⟨l,I,J⟩)
theorem Wp {cx:Ctx} {t:TypeId} {n:Nat} (K:qx P t n=true) {x:Operand} {ix:IX} (hc:dR x ix=true) (h:Sim P glob g s B w (Act.tm a) env) {u:Value} {v:AV} (hr:Rep g s.length u v)
  {Z:Env} {s':St} (p:uo glob cx env s n ix v=some (Z,s')):
  ∃w',(Instr.storeAt t (a.eval x) u).run P w=.ok () w'∧Step True g s.length B w g s'.length w'∧Sim P glob g s' B w' (Act.tm a) Z:=by
 unfold uo at p
 split at p
 ·rename_i O;obtain ⟨hn,Q,h1⟩:=O
  split at p
  ·rename_i cs k hv
   split at p
   ·rename_i A;cases p;rcases iQ (n:=s.length) hc h.base.glob hv with ⟨k',R,hk,hx⟩|⟨v',I,_,_⟩
    ·cases R;obtain ⟨b,Y,ty,e1,_⟩:=h.env.rel k _ hk;rw [hx,e1];exact XO K h hk e1 hr hn h1 (by omega)
    ·cases I
   ·cases p
  ·rename_i k o hv
   split at p
   ·rename_i cs hk
    split at p
    ·rename_i A;cases p;rcases iQ (n:=s.length) hc h.base.glob hv with ⟨j,_,hj,hx⟩|⟨v',I,_,_⟩
     ·obtain ⟨b,e1,e2⟩:=h.env.rel j _ hj;rw [hx,e2];exact XO K h hk e1 hr hn h1 A
     ·cases I
    ·cases p
   ·cases p
  ·rename_i k sz i o hv
   split at p
   ·rename_i t' sz' es hk
    split at p
    ·rename_i e he
     split at p
     ·rename_i A;obtain ⟨rfl,A⟩:=A;cases p;rcases iQ (n:=s.length) hc h.base.glob hv with ⟨j,_,hj,hx⟩|⟨v',I,_,_⟩
      ·obtain ⟨b,len,cap,e1,e2⟩:=h.env.rel j _ hj;rw [hx,e2];exact acg K h hk e1 he hr hn h1 Q A
      ·cases I
     ·cases p
    ·cases p
   ·cases p
  ·rename_i l o hv
   split at p
   ·rename_i cs hs
    split at p
    ·rename_i A;cases p;have J:=aK (a:=a) hc h.env h.base.glob (v:=.pt l o) (by simp [rd,hv]);generalize a.eval x=ax at J
     cases J with
     | pt _ _ hlt=>simpa using ad6 K h hs hr hn h1 A.2.2
    ·cases p
   ·cases p
  ·rename_i l ver o hv
   split at p
   ·rename_i t2 W S cs hs
    split at p
    ·rename_i A;cases p;have J:=aK (a:=a) hc h.env h.base.glob (v:=.sp l ver o) (by simp [rd,hv]);generalize a.eval x=ax at J;obtain ⟨rfl,A⟩:=A
     cases J with
     | sp _ _ _ b off len cap hlt hh=>simpa using ad5 K h hs hh hr hn h1 A.2.2
    ·cases p
   ·cases p
  ·cases p
 ·cases p
theorem Un {off:Nat} {x:Operand} {ix:IX} (hc:dR x ix=true) (h:Sim P glob g s B w (Act.tm a) env) {e:EV} (ha:addr glob env off ix=some e):
  ∃b o,a.eval x=.pointer (some ⟨b,o,none⟩)∧New g s.length B w (Act.tm a) env e (.pointer (some ⟨b,o+off,none⟩)):=by
 unfold addr at ha
 split at ha
 ·rename_i cs k hv;cases ha;rcases iQ (n:=s.length) hc h.base.glob hv with ⟨k',I,hk,hx⟩|⟨v',A,_,_⟩
  ·cases I;obtain ⟨b,J,ty,e1,_⟩:=h.env.rel k _ hk;refine ⟨b,0,by rw [hx,e1],⟨fun d hd=>⟨b, ?_,by simp [upd_same]⟩,fun j hj=>?_,fun ho=>by simp [EV.owns] at ho⟩⟩
   ·have:k≠d:=fun p=>by subst p;simp [EV.refers] at hd
    rw [upd_ne _ _ this,e1]
   ·simp [EV.refers] at hj;subst hj;exact ⟨_,hk,rfl⟩
  ·cases A
 ·rename_i k o hv;cases ha;rcases iQ (n:=s.length) hc h.base.glob hv with ⟨j,_,hj,hx⟩|⟨v',A,_,_⟩
  ·obtain ⟨b,e1,e2⟩:=h.env.rel j _ hj;refine ⟨b,o,by rw [hx,e2],⟨fun d hd=>⟨b, ?_,by simp [upd_same]⟩,fun i hi=>?_,fun ho=>by simp [EV.owns] at ho⟩⟩
   ·have:k≠d:=fun p=>by subst p;simp [EV.refers] at hd
    rw [upd_ne _ _ this,e1]
   ·exact h.env.refs j _ i hj (by simpa [EV.refers] using hi)
  ·cases A
 ·rename_i k sz i o hv;cases ha;rcases iQ (n:=s.length) hc h.base.glob hv with ⟨j,_,hj,hx⟩|⟨v',A,_,_⟩
  ·obtain ⟨b,len,cap,e1,e2⟩:=h.env.rel j _ hj;refine ⟨b,i * sz+o,by rw [hx,e2],⟨fun d hd=>⟨b,len,cap, ?_,by simp [upd_same,Nat.add_assoc]⟩,fun i hi=>?_,fun ho=>by simp [EV.owns] at ho⟩⟩
   ·have:k≠d:=fun p=>by subst p;simp [EV.refers] at hd
    rw [upd_ne _ _ this,e1]
   ·exact h.env.refs j _ i hj (by simpa [EV.refers] using hi)
  ·cases A
 ·rename_i cs hv;cases ha;have hr:=aK (a:=a) hc h.env h.base.glob (v:=.ip cs) (by simp [rd,hv]);generalize a.eval x=ax at hr
  cases hr with
  | ip b o _ c hm hrr=>
   refine ⟨b,o,rfl,.v (.ip b (o+off) _ (fun j=>c (off+j)) (fun j hj=>?_) (fun j hj=>?_))⟩
   ·simp at hj;rw [Nat.add_assoc];exact hm (off+j) (by omega)
   ·simp at hj;rw [List.getElem_drop];exact hrr (off+j) (by omega)
 ·rename_i l o hv;cases ha;have hr:=aK (a:=a) hc h.env h.base.glob (v:=.pt l o) (by simp [rd,hv]);generalize a.eval x=ax at hr
  cases hr with
  | pt _ _ hlt=>exact ⟨g.L l,o,rfl,.v (.pt l (o+off) hlt)⟩
 ·rename_i l ver o hv;cases ha;have hr:=aK (a:=a) hc h.env h.base.glob (v:=.sp l ver o) (by simp [rd,hv]);generalize a.eval x=ax at hr
  cases hr with
  | sp _ _ _ b off2 len cap hlt hh=>exact ⟨b,off2+o,rfl,.v (by rw [Nat.add_assoc];exact .sp l ver (o+off) b off2 len cap hlt hh)⟩
 ·cases ha
end Go.Ai
namespace Go.Ai
variable {P:Program} {glob:Nat→Option (List AV)} {g:ai} {s:St} {B:Nat} {w:World} {env:Env} {a:Act}
def Good (P:Program) (glob:Nat→Option (List AV)) (g:ai) (s:St) (B:Nat) (w:World) (a:Act) (x:Sem Next) (e:EV) (env':Env) (s':St):Prop:=
 ∃v w' g',(x.run P w=.ok (.value v) w'∨(x.run P w=.ok .skip w'∧v=undef))∧Step True g s.length B w g' s'.length w'∧
  Sim P glob g' s' B w' (Act.tm a) env'∧New g' s'.length B w' (Act.tm a) env' e v
theorem Good.same (h:Sim P glob g s B w (Act.tm a) env) {x:Sem Next} {v:Value} {e:EV} (hx:x.run P w=.ok (.value v) w) (hn:New g s.length B w (Act.tm a) env e v):
  Good P glob g s B w a x e env s:=⟨v,w,g,.inl hx,.refl _ _ _ _,h,hn⟩
theorem Good.val (h:Sim P glob g s B w (Act.tm a) env) {x:Sem Next} {v:Value} {r:AV} (hx:x.run P w=.ok (.value v) w) (hn:Rep g s.length v r):
  Good P glob g s B w a x (.v r) env s:=.same h hx (.v hn)
theorem Good.after {g':ai} {env1:Env} (hs:Step True g s.length B w g' s.length w) {x:Sem Next} {e:EV} {A:Env} {s':St} (h:Good P glob g' s B w a x e A s') (_:env1=env1):
  Good P glob g s B w a x e A s':=by
 obtain ⟨v,w',p,h1,h2,h3⟩:=h;exact ⟨v,w',p,h1,hs.trans h2,h3⟩
theorem yX {o:Option AV} {e:EV} {p:Env} {s':St} (h:okv env s o=.ok e p s'):∃r,o=some r∧e=.v r∧p=env∧s'=s:=by
 cases o with
 | none=>simp [okv] at h
 | some r=>simp [okv] at h;exact ⟨r,rfl,h.1.symm,h.2.1.symm,h.2.2.symm⟩
theorem Ym {x:Operand} {ix:IX} (hc:dR x ix=true) (h:Sim P glob g s B w (Act.tm a) env) {e:EV} (hm:LH glob env ix=some e):New g s.length B w (Act.tm a) env e (a.eval x):=by
 unfold LH at hm
 split at hm
 ·rename_i v hv;cases hm;exact .v (oh hc h.env h.base.glob hv)
 ·rename_i cs k hv;cases hm;rcases iQ (n:=s.length) hc h.base.glob hv with ⟨k',I,hk,hx⟩|⟨v',A,_,_⟩
  ·cases I;obtain ⟨b,J,ty,e1,_⟩:=h.env.rel k _ hk;refine ⟨fun d hd=>⟨b, ?_,by rw [upd_same,hx,e1]⟩,fun j hj=>?_,fun ho=>by simp [EV.owns] at ho⟩
   ·have:k≠d:=fun p=>by subst p;simp [EV.refers] at hd
    rw [upd_ne _ _ this,e1]
   ·simp [EV.refers] at hj;subst hj;exact ⟨_,hk,rfl⟩
  ·cases A
 ·rename_i k o hv;cases hm;rcases iQ (n:=s.length) hc h.base.glob hv with ⟨j,_,hj,hx⟩|⟨v',A,_,_⟩
  ·obtain ⟨b,e1,e2⟩:=h.env.rel j _ hj;refine ⟨fun d hd=>⟨b, ?_,by rw [upd_same,hx,e2]⟩,fun i hi=>?_,fun ho=>by simp [EV.owns] at ho⟩
   ·have:k≠d:=fun p=>by subst p;simp [EV.refers] at hd
    rw [upd_ne _ _ this,e1]
   ·exact h.env.refs j _ i hj hi
  ·cases A
 ·rename_i tip t sz es k hv;cases hm;rcases iQ (n:=s.length) hc h.base.glob hv with ⟨k',I,hk,hx⟩|⟨v',A,_,_⟩
  ·cases I;refine ⟨fun d hd=>?_,fun j hj=>?_,fun ho=>by simp [EV.owns] at ho⟩
   ·have:k≠d:=fun p=>by subst p;simp [EV.refers] at hd
    show upd _ d _ d=upd _ d _ k;rw [upd_same,upd_ne _ _ this,hx]
   ·simp [EV.refers] at hj;subst hj;exact ⟨_,hk,rfl⟩
  ·cases A
 ·rename_i k hv;cases hm;rcases iQ (n:=s.length) hc h.base.glob hv with ⟨j,_,hj,hx⟩|⟨v',A,_,_⟩
  ·have e1:Act.tm a j=Act.tm a k:=h.env.rel j _ hj;refine ⟨fun d hd=>?_,fun i hi=>h.env.refs j _ i hj hi,fun ho=>by simp [EV.owns] at ho⟩
   have:k≠d:=fun p=>by subst p;simp [EV.refers] at hd
   show upd _ d _ d=upd _ d _ k;rw [upd_same,upd_ne _ _ this,hx,e1]
  ·cases A
 ·rename_i k sz i o hv;cases hm;rcases iQ (n:=s.length) hc h.base.glob hv with ⟨j,_,hj,hx⟩|⟨v',A,_,_⟩
  ·obtain ⟨b,len,cap,e1,e2⟩:=h.env.rel j _ hj;refine ⟨fun d hd=>⟨b,len,cap, ?_,by rw [upd_same,hx,e2]⟩,fun i hi=>h.env.refs j _ i hj hi,fun ho=>by simp [EV.owns] at ho⟩
   have:k≠d:=fun p=>by subst p;simp [EV.refers] at hd
   rw [upd_ne _ _ this,e1]
  ·cases A
 ·cases hm
theorem ZO {op:BinOp} {t:TypeId} {x y:Operand} {k:IntKind} {m n:Int} {r:AV} (h:Xb op k m n=some r):
  ∃u,(do eqGuard op t x y (.int k m) (.int k n);binOp op t (.int k m) (.int k n):Sem Value).run P w=.ok u w∧∀g n,Rep g n u r:=by
 cases op<;>simp [Xb] at h<;>first
  | (subst h;refine ⟨_, ?_,fun _ _=>.i _ _⟩;simp [eqGuard,binOp,Op.intArith];done)
  | (subst h;refine ⟨_, ?_,fun _ _=>.b _⟩;simp [eqGuard,binOp,Op.intCmp];done)
  | (subst h;refine ⟨_, ?_,fun _ _=>.i _ _⟩;simp [eqGuard,binOp,Op.intBits];done)
  | (obtain ⟨h0,rfl⟩:=h;refine ⟨_, ?_,fun _ _=>.i _ _⟩;simp [eqGuard,binOp,Op.intDiv,h0];done)
  | (obtain ⟨h0,rfl⟩:=h;have h1:¬n<0:=by omega
     refine ⟨_, ?_,fun _ _=>.i _ _⟩;simp [eqGuard,binOp,Op.shift,h1];done)
theorem ZN {op:BinOp} {t:TypeId} {x y:Operand} {l m:Rl} {r:AV} (h:Wn op l m=some r):
  ∃u,(do eqGuard op t x y (.string ⟨l.toArray⟩) (.string ⟨m.toArray⟩);binOp op t (.string ⟨l.toArray⟩) (.string ⟨m.toArray⟩):Sem Value).run P w=.ok u w∧∀g n,Rep g n u r:=by
 cases op<;>simp [Wn] at h<;>first
  | (obtain ⟨h0,rfl⟩:=h
     refine ⟨.string ⟨(l++m).toArray⟩, ?_,fun _ _=>.s _⟩;have p:=run_string_add_sum (P:=P) (w:=w) ⟨l.toArray⟩ ⟨m.toArray⟩ (by simp [ByteArray.size_mk'];omega);simp only [binOp]
     simp [eqGuard,p,ByteArray.mk_append_mk])
  | (subst h;refine ⟨_, ?_,fun _ _=>.b _⟩;simp [eqGuard,binOp,Op.stringOp];done)
theorem run_equalIn_bool {t:TypeId} (d:Nat) (h:P.underlying t=some .bool) (x y:Bool):(Op.equalIn (d+1) t (.bool x) (.bool y)).run P w=.ok (x == y) w:=by
 simp [Op.equalIn,run_underlying h]
theorem PW {t:TypeId} (d:Nat) {k:Nat} {y:Operand} (h:aaK P k t y=true) {v:AV} {r:Bool} (hk:UD k v=some r) {N:Nat} {u:Value} (hr:Rep g N u v):
  ∃c,y=.const c∧(Op.equalIn (d+1) t u c).run P w=.ok r w∧(∀op x,(eqGuard op t x y u c).run P w=.ok () w)∧(∀op,op=.eql∨op=.neq→binOp op t u c=(match op with | .eql=>do pure (.bool (←Op.equal t u c)) | _=>do pure (.bool (!(←Op.equal t u c))))):=by
 unfold aaK at h
 split at h
 ·rename_i hu;refine ⟨_,rfl, ?_⟩;unfold UD at hk
  split at hk<;>cases hk<;>(try (rename_i hh;cases hh))<;>cases hr<;>refine ⟨by simp [Op.equalIn,run_underlying hu],fun op x=>by cases op<;>simp [eqGuard],fun op ho=>by rcases ho with rfl|rfl<;>simp [binOp]⟩
 ·rename_i hu;refine ⟨_,rfl, ?_⟩;unfold UD at hk
  split at hk<;>cases hk<;>(try (rename_i hh;cases hh))<;>cases hr<;>refine ⟨by simp [Op.equalIn,run_underlying hu],fun op x=>by cases op<;>simp [eqGuard],fun op ho=>by rcases ho with rfl|rfl<;>simp [binOp]⟩
 ·rename_i hu;refine ⟨_,rfl, ?_⟩;unfold UD at hk
  split at hk<;>cases hk<;>(try (rename_i hh;cases hh))<;>cases hr<;>refine ⟨by simp [Op.equalIn,run_underlying hu],fun op x=>by cases op<;>simp [eqGuard],fun op ho=>by rcases ho with rfl|rfl<;>simp [binOp]⟩
 ·rename_i hu;refine ⟨_,rfl, ?_⟩;unfold UD at hk
  split at hk<;>cases hk<;>(try (rename_i hh;cases hh))<;>cases hr<;>refine ⟨by simp [Op.equalIn,run_underlying hu],fun op x=>by cases op<;>simp [eqGuard],fun op ho=>by rcases ho with rfl|rfl<;>simp [binOp]⟩
 ·rename_i hu;refine ⟨_,rfl, ?_⟩;unfold UD at hk
  split at hk<;>cases hk<;>(try (rename_i hh;cases hh))<;>cases hr<;>refine ⟨by simp [Op.equalIn,run_underlying hu],fun op x=>by cases op<;>simp [eqGuard],fun op ho=>by rcases ho with rfl|rfl<;>simp [binOp]⟩
 ·cases h
end Go.Ai
namespace Go.Ai
variable {P:Program} {glob:Nat→Option (List AV)} {g:ai} {s:St} {B:Nat} {w:World} {env:Env} {a:Act} {o:Oper} {call:AV→List AV→St→Ctx→CO} {cx:Ctx} {e:EV} {env':Env} {s':St}
theorem aU {x:Sem Value} {u:Value} {w w':World} (h:x.run P w=.ok u w'):(do pure (Next.value (←x)):Sem Next).run P w=.ok (.value u) w':=by
 simp [Sem.run_bind,h]
theorem XV {x:Sem Unit} {w w':World} (h:x.run P w=.ok () w'):(do x;pure Next.skip:Sem Next).run P w=.ok .skip w':=by
 simp [Sem.run_bind,h]
theorem AX {x:Operand} (ho:o.op=.move x∨o.op=.assign x):(execOp a.eval o).run P w=.ok (.value (a.eval x)) w:=by
 rcases ho with ho|ho<;>simp [execOp,ho]
theorem TW {ix:IX} (hc:(match o.op with | .move x | .assign x=>dR x ix | _=>false)=true):∃x,(o.op=.move x∨o.op=.assign x)∧dR x ix=true:=by
 split at hc
 ·rename_i x hx;exact ⟨x,.inl hx,hc⟩
 ·rename_i x hx;exact ⟨x,.inr hx,hc⟩
 ·cases hc
theorem aho (h:Sim P glob g s B w (Act.tm a) env) {x:Operand} {k:Nat} (hc:dR x (.t k)=true) {es:List (AV×AV)} (hv:lk env k=some (.om es)) (ho:(execOp a.eval o).run P w=.ok (.value (a.eval x)) w):
  Good P glob g s B w a (execOp a.eval o) (.v (.im es)) ((k,.v (.im es))::(k,.v .u)::tC env k) s:=by
 obtain ⟨g',h1,h2,h3⟩:=Zc h hv;refine ⟨a.eval x,w,g',.inl ho,h1,h2,.v ?_⟩;rcases iQ (n:=s.length) hc h.base.glob (e:=.om es) hv with ⟨k',A,_,hx⟩|⟨v',p,_,_⟩
 ·cases A;rw [hx];exact h3
 ·cases p
theorem afp {ix:IX} (h:Sim P glob g s B w (Act.tm a) env) (hc:aO P o.op (.mov ix)=true) (hr:aop glob call cx env s (.mov ix)=.ok e env' s'):Good P glob g s B w a (execOp a.eval o) e env' s':=by
 obtain ⟨x,ho,hx⟩:=TW hc;simp only [aop] at hr
 split at hr
 ·rename_i es k hv;cases hr;exact aho h hx hv (AX ho)
 ·split at hr
  ·rename_i e1 hm;cases hr;exact .same h (AX ho) (Ym hx h hm)
  ·cases hr
theorem afu {ix:IX} (h:Sim P glob g s B w (Act.tm a) env) {x:Operand} (hx:dR x ix=true) {v:AV} (he:esc glob env ix=some (v,env')) (ho:(execOp a.eval o).run P w=.ok (.value (a.eval x)) w):
  Good P glob g s B w a (execOp a.eval o) (.v v) env' s:=by
 obtain ⟨g',h1,h2,h3⟩:=pq hx h he;exact ⟨_,w,g',.inl ho,h1,h2,.v h3⟩
theorem adi {ix:IX} (h:Sim P glob g s B w (Act.tm a) env) {x:Operand} (hx:dR x ix=true) {v:AV} (he:MK glob env ix=some (v,env')) (ho:(execOp a.eval o).run P w=.ok (.value (a.eval x)) w):
  Good P glob g s B w a (execOp a.eval o) (.v v) env' s:=by
 obtain ⟨g',h1,h2,h3⟩:=Ku hx h he;exact ⟨_,w,g',.inl ho,h1,h2,.v h3⟩
theorem afv {ix:IX} (h:Sim P glob g s B w (Act.tm a) env) (hc:aO P o.op (.cpy ix)=true) (hr:aop glob call cx env s (.cpy ix)=.ok e env' s'):Good P glob g s B w a (execOp a.eval o) e env' s':=by
 obtain ⟨x,ho,hx⟩:=TW hc;simp only [aop] at hr
 split at hr
 ·rename_i v env1 he;cases hr;exact afu h hx he (AX ho)
 ·cases hr
theorem afA {ix:IX} (h:Sim P glob g s B w (Act.tm a) env) (hc:aO P o.op (.asg ix)=true) (hr:aop glob call cx env s (.asg ix)=.ok e env' s'):Good P glob g s B w a (execOp a.eval o) e env' s':=by
 obtain ⟨x,ho,hx⟩:=TW hc;simp only [aop] at hr
 split at hr
 ·rename_i tip t sz es k hv;cases hr;rcases iQ (n:=s.length) hx h.base.glob hv with ⟨k',p,hk,I⟩|⟨v',R,_,_⟩
  ·cases p;have O:=h.env.rel k _ hk;have J:=h.env.dropNext k (.refl _ _) (g':=g) (n':=s.length) (w':=w) (fun k' x p hx A b hb=>⟨rfl,rfl,rfl,fun ht=>ht⟩);refine ⟨_,w,g,.inl (AX ho),.refl _ _ _ _,⟨h.base,J,h.B⟩,⟨fun d _=>?_,fun j hj=>by simp [EV.refers] at hj,fun _ b hb=>⟨fun k' e' p K Q=>?_, ?_⟩⟩⟩
   ·show vZ g s.length B w (upd (Act.tm a) d (a.eval x)) d (.own tip t sz es);rw [I];simp only [vZ,upd_same];exact O
   ·rw [I] at hb
    have A:k'≠k:=fun S=>by
     subst S;rw [kY] at p;cases p;simp [EV.owns] at K
    rw [gJ _ _ (Ne.symm A),wG] at p
    cases hy:lk env k' with
    | none=>rw [hy] at p;simp at p
    | some y=>
     rw [hy] at p;simp only [Option.map_some,Option.some.injEq] at p
     split at p
     ·subst p;simp [EV.owns] at K
     ·subst p;exact h.env.apart k' k y _ hy hk K rfl A b Q hb
   ·rw [I] at hb;exact h.env.off k _ hk rfl b hb
  ·cases R
 ·split at hr
  ·rename_i v env1 he;cases hr;exact adi h hx he (AX ho)
  ·split at hr
   ·rename_i e1 hm;cases hr;exact .same h (AX ho) (Ym hx h hm)
   ·cases hr
theorem ac3 {t sz:Nat} (h:Sim P glob g s B w (Act.tm a) env) (hc:aO P o.op (.nbuf t sz)=true) (hr:aop glob call cx env s (.nbuf t sz)=.ok e env' s'):Good P glob g s B w a (execOp a.eval o) e env' s':=by
 simp only [aop] at hr
 split at hr
 ·rename_i p;cases hr
  have ho:(execOp a.eval o).run P w=.ok (.value (.slice none 0 0)) w:=by
   simp only [aO] at hc
   split at hc
   ·rename_i hx;simp [execOp,hx,Act.eval]
   ·rename_i hx;simp [execOp,hx,Act.eval]
   ·cases hc
  refine .same h ho ⟨fun d _=>⟨[], ?_,.nil _ _,fun x hx=>by simp at hx,fun x hx=>by simp at hx,p,fun b hb=>?_⟩,fun j hj=>by simp [EV.refers] at hj,fun _ b hb=>by simp [dn] at hb⟩
  ·rw [upd_same];exact Rz (World.ownsRow_nil w B t sz)
  ·rw [upd_same] at hb;simp [dn] at hb
 ·cases hr
theorem ac2 {c x y:IX} (h:Sim P glob g s B w (Act.tm a) env) (hc:aO P o.op (.pick c x y)=true) (hr:aop glob call cx env s (.pick c x y)=.ok e env' s'):Good P glob g s B w a (execOp a.eval o) e env' s':=by
 simp only [aO] at hc
 split at hc
 ·rename_i c' x' y' p;simp only [Bool.and_eq_true] at hc;simp only [aop] at hr
  split at hr
  ·rename_i bb hb;obtain ⟨r,h1,rfl,rfl,rfl⟩:=yX hr;have A:=aK (a:=a) hc.1.1 h.env h.base.glob hb;have I:a.eval c'=.bool bb:=by generalize a.eval c'=z at A;cases A;rfl
   cases bb with
   | true=>exact .val h (by simp [execOp,p,I,asBool]) (aK hc.1.2 h.env h.base.glob (by simpa using h1))
   | false=>exact .val h (by simp [execOp,p,I,asBool]) (aK hc.2 h.env h.base.glob (by simpa using h1))
  ·cases hr
 ·cases hc
theorem Ea {n:Option Nat} {x:IX} (h:Sim P glob g s B w (Act.tm a) env) (hc:aO P o.op (.load n x)=true) (hr:aop glob call cx env s (.load n x)=.ok e env' s'):Good P glob g s B w a (execOp a.eval o) e env' s':=by
 simp only [aO] at hc
 split at hc
 ·rename_i t x' p;simp only [Bool.and_eq_true] at hc;simp only [aop] at hr;obtain ⟨r,h1,rfl,rfl,rfl⟩:=yX hr;obtain ⟨u,q1,q2⟩:=OZ hc.2 hc.1 h h1;exact .val h (by simp only [execOp,p];exact aU q1) q2
 ·cases hc
theorem JV {n:Nat} {x y:IX} (h:Sim P glob g s B w (Act.tm a) env) (hc:aO P o.op (.store n x y)=true) (hr:aop glob call cx env s (.store n x y)=.ok e env' s'):Good P glob g s B w a (execOp a.eval o) e env' s':=by
 simp only [aO] at hc
 split at hc
 ·rename_i t x' y' p;simp only [Bool.and_eq_true] at hc;simp only [aop] at hr
  split at hr
  ·rename_i v env1 he
   split at hr
   ·rename_i env2 s2 A;cases hr;obtain ⟨g1,s1,h1,r1⟩:=Ku hc.1.2 h he;obtain ⟨w',q1,q2,q3⟩:=Wp hc.2 hc.1.1 h1 r1 A;exact ⟨undef,w',g1,.inr ⟨by simp only [execOp,p];exact XV q1,rfl⟩,s1.trans q2,q3,.v (.tu #[] [] rfl (fun i hi=>by simp at hi))⟩
   ·cases hr
  ·cases hr
 ·cases hc
theorem afs {off:Nat} {x:IX} (h:Sim P glob g s B w (Act.tm a) env) (hc:aO P o.op (.fld off x)=true) (hr:aop glob call cx env s (.fld off x)=.ok e env' s'):Good P glob g s B w a (execOp a.eval o) e env' s':=by
 simp only [aO] at hc
 split at hc
 ·rename_i st x' f I;simp only [Bool.and_eq_true] at hc;obtain ⟨hx,hf⟩:=hc
  split at hf
  ·rename_i fd p;simp only [Bool.and_eq_true,beq_iff_eq] at hf;obtain ⟨rfl,A⟩:=hf;simp only [aop] at hr
   split at hr
   ·rename_i e1 ha;cases hr;obtain ⟨b,J,q1,q2⟩:=Un hx h ha;refine .same h ?_ q2;unfold QC at p
    split at p
    ·rename_i fs hu
     cases hi:P.info? fd.type with
     | none=>simp [hi] at A
     | some i=>
      simp [hi] at A;simp only [execOp,I];refine aU ?_;simp [Instr.fieldAt,Sem.run_bind,run_underlying hu,p,q1,Instr.sureAddr,fieldPlace,sizeOf,typeInfo,hi,A,Addr.add_lit]
    ·cases p
   ·cases hr
  ·cases hf
 ·cases hc
theorem uz {g:ai} {N:Nat} {u:Value} {k:IntKind} {n:Int} (h:Rep g N u (.i k n)):u=.int k n:=by cases h;rfl
theorem ada {len sz:Nat} {x i:IX} (h:Sim P glob g s B w (Act.tm a) env) (hc:aO P o.op (.idxa len sz x i)=true) (hr:aop glob call cx env s (.idxa len sz x i)=.ok e env' s'):Good P glob g s B w a (execOp a.eval o) e env' s':=by
 simp only [aO] at hc
 split at hc
 ·rename_i t x' i' A;simp only [Bool.and_eq_true] at hc;obtain ⟨⟨hx,hi⟩,hty⟩:=hc;simp only [aop] at hr
  split at hr
  ·rename_i k n hn
   split at hr
   ·rename_i J
    split at hr
    ·rename_i e1 ha;cases hr;obtain ⟨b,K,q1,q2⟩:=Un hx h ha;refine .same h ?_ q2;have I:=uz (aK (a:=a) hi h.env h.base.glob hn);unfold arrayOf at hty
     split at hty
     ·rename_i m el hu
      split at hty
      ·rename_i hm;simp only [Bool.and_eq_true,beq_iff_eq] at hm;obtain ⟨rfl,p⟩:=hm;simp only [execOp,A];refine aU ?_;have h2:n<(m:Int):=by omega
       simp [Instr.indexAt,I,asIntOf,Sem.run_bind,run_underlying hu,q1,Instr.sureAddr,J.1,h2,run_sizeOf p,Addr.add_lit]
      ·simp at hty
     ·simp at hty
    ·cases hr
   ·cases hr
  ·cases hr
 ·cases hc
end Go.Ai
namespace Go.Ai
variable {P:Program} {glob:Nat→Option (List AV)} {g:ai} {s:St} {B:Nat} {w:World} {env:Env} {a:Act} {o:Oper} {call:AV→List AV→St→Ctx→CO} {cx:Ctx} {e:EV} {env':Env} {s':St}
theorem Du {t:TypeId} {sz:Nat} (h:Et P t sz=true):∃el,P.underlying t=some (.slice el)∧qx P el sz=true:=by
 unfold Et at h
 split at h
 ·rename_i el hu;exact ⟨el,hu,h⟩
 ·cases h
theorem WB {t:TypeId} {sz:Nat} (h:Et P t sz=true) {b off len cap:Nat} {k:IntKind} {n:Int} (h0:0≤n) (x:n.toNat<len):
  (Instr.indexAt t (.slice (some ⟨b,off,none⟩) len cap) (.int k n)).run P w=.ok (.pointer (some ⟨b,off+n.toNat * sz,none⟩)) w:=by
 obtain ⟨el,hu,p⟩:=Du h;have h2:n<(len:Int):=by omega
 simp [Instr.indexAt,asIntOf,Sem.run_bind,run_underlying hu,h0,h2,run_sizeOf p,Addr.add_lit]
theorem OU {x:Operand} {ix:IX} (hc:dR x ix=true) (h:Sim P glob g s B w (Act.tm a) env) {k:Nat} (hk:wz env ix=some k):a.eval x=Act.tm a k∧∃ow,lk env k=some ow∧ow.owns=true:=by
 unfold wz at hk
 split at hk
 ·rename_i j
  have hx:a.eval x=Act.tm a j:=by
   unfold dR at hc
   split at hc
   ·simp at hc;subst hc;rename_i p;cases p;rfl
   ·rename_i p;cases p
   ·rename_i p;cases p
   ·rename_i p;cases p
   ·cases hc
  split at hk
  ·rename_i hj;cases hk;exact ⟨hx,_,hj,rfl⟩
  ·rename_i i hj;cases hk;have e1:Act.tm a j=Act.tm a k:=h.env.rel j _ hj;exact ⟨hx.trans e1,h.env.refs j _ k hj (by simp [EV.refers])⟩
  ·cases hk
 ·cases hk
theorem afr {sz:Nat} {x i:IX} (h:Sim P glob g s B w (Act.tm a) env) (hc:aO P o.op (.idx sz x i)=true) (hr:aop glob call cx env s (.idx sz x i)=.ok e env' s'):Good P glob g s B w a (execOp a.eval o) e env' s':=by
 simp only [aO] at hc
 split at hc
 ·rename_i t x' i' K;simp only [Bool.and_eq_true] at hc;obtain ⟨⟨hx,hi⟩,hty⟩:=hc;simp only [aop] at hr
  split at hr
  ·rename_i kk n hn;have Q:=uz (aK (a:=a) hi h.env h.base.glob hn)
   split at hr
   ·rename_i k hk;obtain ⟨Z,_⟩:=OU hx h hk
    split at hr
    ·rename_i tip t' sz' es J
     split at hr
     ·rename_i p;obtain ⟨rfl,h0,A⟩:=p;cases hr;obtain ⟨xs,q1,q2,q3,q4,q5,q6⟩:=h.env.rel k _ J;rcases q1.2 with ⟨_,a5⟩|⟨gb,Y,a3,W,_⟩
      ·omega
      ·refine .same h (v:=.pointer (some ⟨gb,0+n.toNat * sz,none⟩)) ?_ ⟨fun d hd=>⟨gb,es.length,Y, ?_,by simp [upd_same]⟩,fun j hj=>?_,fun ho=>by simp [EV.owns] at ho⟩
       ·simp only [execOp,K];refine aU ?_;rw [Q,Z,W];exact WB hty h0 A
       ·have:k≠d:=fun a1=>by subst a1;simp [EV.refers] at hd
        rw [upd_ne _ _ this,W]
       ·simp [EV.refers] at hj;subst hj;exact ⟨_,J,rfl⟩
     ·cases hr
    ·cases hr
   ·split at hr
    ·rename_i es R
     split at hr
     ·rename_i el a2
      split at hr
      ·rename_i p;obtain ⟨h0,a0⟩:=p;cases hr;obtain ⟨A,rfl⟩:=List.getElem?_eq_some_iff.1 a2;have I:=aK (a:=a) hx h.env h.base.glob R
       have O:(execOp a.eval o)=(do pure (Next.value (←Instr.indexAt t (a.eval x') (a.eval i')))):=by simp only [execOp,K]
       rw [O,Q];generalize a.eval x'=ax at I
       cases I with
       | slNil=>simp at A
       | slE=>simp at A
       | sl bk off cap sz' _ c hcap hsz' hm hr'=>
        have S:sz'=sz:=by rw [←a0];exact (hsz' _ A).symm
        subst S;refine .val h (aU (WB hty h0 A)) (.ip bk _ _ (fun j=>c n.toNat j) (fun j hj=>?_) (fun j hj=>hr' _ A j hj));exact hm n.toNat j A (by omega)
      ·cases hr
     ·cases hr
    ·rename_i l ver a4 o2 m R
     split at hr
     ·rename_i p;obtain ⟨rfl,h0,A⟩:=p;cases hr;have I:=aK (a:=a) hx h.env h.base.glob R
      have O:(execOp a.eval o)=(do pure (Next.value (←Instr.indexAt t (a.eval x') (a.eval i')))):=by simp only [execOp,K]
      rw [O,Q];generalize a.eval x'=ax at I
      cases I with
      | skE=>omega
      | sk _ _ _ _ _ b off len cap c hl hh ho hc hcc=>
       refine .val h (aU (WB hty h0 A)) ?_;rw [Nat.add_assoc];exact .sp l ver (o2+n.toNat * sz) b off len cap hl hh
     ·cases hr
    ·cases hr
  ·cases hr
 ·cases hc
theorem WA {t:TypeId} {n:Option Nat} (h:IU P t n=true) {vs:Array Value} {cs:List AV} {off N:Nat} {v:AV} (hr:Rep g N (.agg vs) (.ag cs)) (hp:part cs off n=some v):
  ∃u,(Go.part t vs off).run P w=.ok u w∧Rep g N u v:=by
 cases hr with
 | ag _ _ hl h1 hrr=>
  cases n with
  | none=>
   simp only [part] at hp;obtain ⟨x,rfl⟩:=List.getElem?_eq_some_iff.1 hp;have p:off<vs.size:=by rw [hl];exact x
   exact ⟨vs[off],by simp [Go.part,Sem.run_bind,VW h w,p],hrr off p x⟩
  | some n=>
   simp only [part] at hp
   split at hp
   ·rename_i I;cases hp;refine ⟨.agg (vs.extract off (off+n)),by simp [Go.part,Sem.run_bind,(Ih h w).1,(Ih h w).2],.ag _ _ (by simp;omega) (fun i hi=>?_) (fun i hi A=>?_)⟩
    ·simp at hi;rw [Array.getElem_extract];exact h1 _ (by omega)
    ·simp at hi A;rw [Array.getElem_extract,List.getElem_take,List.getElem_drop];exact hrr _ (by omega) (by omega)
   ·cases hp
theorem aiU {g:ai} {N:Nat} {u:Value} {cs:List AV} (h:Rep g N u (.ag cs)):∃vs,u=.agg vs:=by cases h;exact ⟨_,rfl⟩
theorem adh {off:Nat} {n:Option Nat} {x:IX} (h:Sim P glob g s B w (Act.tm a) env) (hc:aO P o.op (.getf off n x)=true) (hr:aop glob call cx env s (.getf off n x)=.ok e env' s'):Good P glob g s B w a (execOp a.eval o) e env' s':=by
 simp only [aO] at hc
 split at hc
 ·rename_i t x' f K;simp only [Bool.and_eq_true] at hc;obtain ⟨hx,hf⟩:=hc
  split at hf
  ·rename_i fd A;simp only [Bool.and_eq_true,beq_iff_eq] at hf;obtain ⟨rfl,hN⟩:=hf;simp only [aop] at hr
   split at hr
   ·rename_i cs J;obtain ⟨r,h1,rfl,rfl,rfl⟩:=yX hr;have p:=aK (a:=a) hx h.env h.base.glob J;obtain ⟨vs,I⟩:=aiU p;rw [I] at p;obtain ⟨u,q1,q2⟩:=WA (w:=w) hN p h1;refine .val h ?_ q2;unfold QC at A
    split at A
    ·rename_i fs hu;simp only [execOp,K];refine aU ?_;simp [Instr.field,Sem.run_bind,run_underlying hu,A,I,asAgg,q1]
    ·cases A
   ·cases hr
  ·cases hf
 ·cases hc
theorem rZ {g:ai} {N:Nat} {u:Value} {l:Rl} (h:Rep g N u (.s l)):u=.string ⟨l.toArray⟩:=by cases h;rfl
theorem xu {t:TypeId} (h:isStr P t=true):P.underlying t=some .string:=by
 unfold isStr at h
 split at h
 ·rename_i hu;exact hu
 ·cases h
theorem ac9 {x i:IX} (h:Sim P glob g s B w (Act.tm a) env) (hc:aO P o.op (.idxs x i)=true) (hr:aop glob call cx env s (.idxs x i)=.ok e env' s'):Good P glob g s B w a (execOp a.eval o) e env' s':=by
 simp only [aO] at hc
 split at hc
 ·rename_i t x' i' I;simp only [Bool.and_eq_true] at hc;obtain ⟨⟨hx,hi⟩,hty⟩:=hc;simp only [aop] at hr
  split at hr
  ·rename_i l k j hl hj
   split at hr
   ·rename_i c K
    split at hr
    ·rename_i h0;cases hr;have A:=rZ (aK (a:=a) hx h.env h.base.glob hl);have O:=uz (aK (a:=a) hi h.env h.base.glob hj);obtain ⟨J,rfl⟩:=List.getElem?_eq_some_iff.1 K
     have p:(⟨l.toArray⟩:ByteArray)[j.toNat]?=some l[j.toNat]:=by
      rw [ByteArray.getElem?_lt' _ _ (by simpa [ByteArray.size_mk'] using J)];rfl
     refine .val h ?_ (.i .u8 _);simp only [execOp,I];refine aU ?_;simp [Instr.index,O,A,asIntOf,Sem.run_bind,run_underlying (xu hty),h0,p]
    ·cases hr
   ·cases hr
  ·cases hr
 ·cases hc
theorem afx {op:BinOp} {x y:IX} (h:Sim P glob g s B w (Act.tm a) env) (hc:aO P o.op (.bin op x y)=true) (hr:aop glob call cx env s (.bin op x y)=.ok e env' s'):Good P glob g s B w a (execOp a.eval o) e env' s':=by
 simp only [aO] at hc
 split at hc
 ·rename_i b' t x' y' t' A;simp only [Bool.and_eq_true,beq_iff_eq] at hc;obtain ⟨⟨rfl,hx⟩,hy⟩:=hc;simp only [aop] at hr
  split at hr
  ·rename_i p q hp hq;obtain ⟨r,h1,rfl,rfl,rfl⟩:=yX hr;have rx:=aK (a:=a) hx h.env h.base.glob hp;have ry:=aK (a:=a) hy h.env h.base.glob hq;unfold abU at h1
   split at h1
   ·rename_i k m k' n
    split at h1
    ·rename_i hk;subst hk;obtain ⟨u,q1,q2⟩:=ZO (P:=P) (w:=w) (t:=t) (x:=x') (y:=y') h1;refine .val h ?_ (q2 _ _);simp only [execOp,A];rw [uz rx,uz ry];exact aU q1
    ·cases h1
   ·rename_i l m;obtain ⟨u,q1,q2⟩:=ZN (P:=P) (w:=w) (t:=t) (x:=x') (y:=y') h1;refine .val h ?_ (q2 _ _);simp only [execOp,A];rw [rZ rx,rZ ry];exact aU q1
   ·cases h1
  ·cases hr
 ·cases hc
theorem wF {g:ai} {N:Nat} {u:Value} {x:Bool} (h:Rep g N u (.b x)):u=.bool x:=by cases h;rfl
theorem YD {t:TypeId} (h:isBool P t=true):P.underlying t=some .bool:=by
 unfold isBool at h
 split at h
 ·rename_i hu;exact hu
 ·cases h
theorem afy {neg:Bool} {x y:IX} (h:Sim P glob g s B w (Act.tm a) env) (hc:aO P o.op (.beq neg x y)=true) (hr:aop glob call cx env s (.beq neg x y)=.ok e env' s'):Good P glob g s B w a (execOp a.eval o) e env' s':=by
 simp only [aO] at hc
 split at hc
 ·rename_i b' t x' y' t' A;simp only [Bool.and_eq_true] at hc;obtain ⟨⟨⟨hb,hx⟩,hy⟩,hty⟩:=hc;simp only [aop] at hr
  split at hr
  ·rename_i p q hp hq;cases hr;have rx:=wF (aK (a:=a) hx h.env h.base.glob hp);have ry:=wF (aK (a:=a) hy h.env h.base.glob hq);refine .val h ?_ (.b _);have he:=run_equalIn_bool (P:=P) (w:=w) 9999 (YD hty) p q;simp only [execOp,A];rw [rx,ry];refine aU ?_
   cases neg with
   | true=>
    simp only [if_true,beq_iff_eq] at hb;subst hb;simp [eqGuard,binOp,Op.equal,Op.maxDepth,he]
   | false=>
    simp only [Bool.false_eq_true,if_false,beq_iff_eq] at hb;subst hb;simp [eqGuard,binOp,Op.equal,Op.maxDepth,he]
  ·cases hr
 ·cases hc
theorem aav {neg:Bool} {k:Nat} {x:IX} (h:Sim P glob g s B w (Act.tm a) env) (hc:aO P o.op (.nileq neg k x)=true) (hr:aop glob call cx env s (.nileq neg k x)=.ok e env' s'):Good P glob g s B w a (execOp a.eval o) e env' s':=by
 simp only [aO] at hc
 split at hc
 ·rename_i b' t x' y' t' A;simp only [Bool.and_eq_true] at hc;obtain ⟨⟨hb,hx⟩,hnil⟩:=hc;simp only [aop] at hr
  split at hr
  ·rename_i p hp
   split at hr
   ·rename_i r hk;cases hr;have rx:=aK (a:=a) hx h.env h.base.glob hp;obtain ⟨c,rfl,q1,q2,q3⟩:=PW (P:=P) (w:=w) 9999 hnil hk rx;refine .val h ?_ (.b _);simp only [execOp,A];refine aU ?_;have I:a.eval (.const c)=c:=rfl;rw [I]
    cases neg with
    | true=>
     simp only [if_true,beq_iff_eq] at hb;subst hb;simp [q2,q3,Op.equal,Op.maxDepth,q1]
    | false=>
     simp only [Bool.false_eq_true,if_false,beq_iff_eq] at hb;subst hb;simp [q2,q3,Op.equal,Op.maxDepth,q1]
   ·cases hr
  ·cases hr
 ·cases hc
theorem ahm {op:UnOp} {x:IX} (h:Sim P glob g s B w (Act.tm a) env) (hc:aO P o.op (.un op x)=true) (hr:aop glob call cx env s (.un op x)=.ok e env' s'):Good P glob g s B w a (execOp a.eval o) e env' s':=by
 simp only [aO] at hc
 split at hc
 ·rename_i u' t x' A;simp only [Bool.and_eq_true,beq_iff_eq] at hc;obtain ⟨rfl,hx⟩:=hc;simp only [aop] at hr
  split at hr
  ·rename_i p hp;obtain ⟨r,h1,rfl,rfl,rfl⟩:=yX hr;have rx:=aK (a:=a) hx h.env h.base.glob hp;unfold agN at h1
   split at h1
   ·split at h1
    ·cases h1;refine .val h ?_ (.b _);simp only [execOp,A];rw [wF rx];exact aU (by simp [Op.unary])
    ·cases h1
   ·split at h1
    ·cases h1;refine .val h ?_ (.i _ _);simp only [execOp,A];rw [uz rx];exact aU (by simp [Op.unary,Op.intArith])
    ·cases h1
   ·cases h1
  ·cases hr
 ·cases hc
end Go.Ai
namespace Go.Ai
variable {P:Program} {glob:Nat→Option (List AV)} {g:ai} {s:St} {B:Nat} {w:World} {env:Env} {a:Act} {o:Oper} {call:AV→List AV→St→Ctx→CO} {cx:Ctx} {e:EV} {env':Env} {s':St}
theorem aaq {t:TypeId} {k:IntKind} (h:isInt P t k=true):P.underlying t=some (.int k):=by
 unfold isInt at h
 split at h
 ·rename_i k' hu;simp at h;subst h;exact hu
 ·cases h
theorem aat {k:IntKind} {x:IX} (h:Sim P glob g s B w (Act.tm a) env) (hc:aO P o.op (.toInt k x)=true) (hr:aop glob call cx env s (.toInt k x)=.ok e env' s'):Good P glob g s B w a (execOp a.eval o) e env' s':=by
 simp only [aO] at hc
 split at hc
 ·rename_i src dst x' A;simp only [Bool.and_eq_true] at hc;obtain ⟨⟨hx,hd⟩,hsrc⟩:=hc;simp only [aop] at hr
  split at hr
  ·rename_i k' n hn;cases hr;have p:=uz (aK (a:=a) hx h.env h.base.glob hn)
   cases hu:P.underlying src with
   | none=>simp [hu] at hsrc
   | some d=>
    refine .val h ?_ (.i _ _);simp only [execOp,A];refine aU ?_;rw [p]
    cases d<;>simp [convert,Sem.run_bind,run_underlying hu,run_underlying (aaq hd),Conv.intToInt]
  ·cases hr
 ·cases hc
theorem VQ {x:Operand} {ix:IX} (hc:dR x ix=true) (h:Sim P glob g s B w (Act.tm a) env) {es:List AV} (he:elems glob env ix=some es):∃ad cap,a.eval x=.slice ad es.length cap:=by
 have A:∀k tip t sz es,lk env k=some (.own tip t sz es)→∃ad cap,Act.tm a k=.slice ad es.length cap:=by
  intro k tip t sz es hk;obtain ⟨xs,q1,_⟩:=h.env.rel k _ hk;rcases q1.2 with ⟨hv,hn⟩|⟨gb,J,K,p,_⟩
  ·exact ⟨_,_,by rw [hv,hn]⟩
  ·exact ⟨_,_,p⟩
 unfold elems at he
 split at he
 ·rename_i I hv;cases he;have hr:=aK (a:=a) hc h.env h.base.glob (v:=.sl es) (by simp [rd,hv]);generalize a.eval x=ax at hr
  cases hr with
  | slNil=>exact ⟨_,_,rfl⟩
  | slE=>exact ⟨_,_,rfl⟩
  | sl=>exact ⟨_,_,rfl⟩
 ·rename_i I hv;cases he;have hr:=aK (a:=a) hc h.env h.base.glob (v:=.sl es) (by simp [rd,hv]);generalize a.eval x=ax at hr
  cases hr with
  | slNil=>exact ⟨_,_,rfl⟩
  | slE=>exact ⟨_,_,rfl⟩
  | sl=>exact ⟨_,_,rfl⟩
 ·rename_i hv;cases he;have hr:=aK (a:=a) hc h.env h.base.glob (v:=.ns) (by simp [rd,hv]);generalize a.eval x=ax at hr;cases hr;exact ⟨_,_,rfl⟩
 ·rename_i hv;cases he;have hr:=aK (a:=a) hc h.env h.base.glob (v:=.se) (by simp [rd,hv]);generalize a.eval x=ax at hr;cases hr;exact ⟨_,_,rfl⟩
 ·rename_i hv;cases he;have hr:=aK (a:=a) hc h.env h.base.glob (v:=.sz) (by simp [rd,hv]);generalize a.eval x=ax at hr;cases hr;exact ⟨_,_,rfl⟩
 ·rename_i tip t sz I hv;cases he;rcases iQ (n:=s.length) hc h.base.glob hv with ⟨k,_,hk,hx⟩|⟨v',p,_,_⟩
  ·rw [hx];exact A k _ _ _ _ hk
  ·cases p
 ·rename_i j hv
  split at he
  ·rename_i tip t sz I hj;cases he;rcases iQ (n:=s.length) hc h.base.glob hv with ⟨k,_,hk,hx⟩|⟨v',p,_,_⟩
   ·have e1:Act.tm a k=Act.tm a j:=h.env.rel k _ hk;rw [hx,e1];exact A j _ _ _ _ hj
   ·cases p
  ·cases he
 ·cases he
theorem yx {c:Call} (x:o.op=.call c) {b:Builtin} (p:c.callee=.builtin b):
  execOp a.eval o=builtin b c.argTypes o.type (c.args.map fun | .const _=>true | _=>false) (c.args.map a.eval):=by
 simp only [execOp,x,resolve,p];rfl
theorem afq {k:Nat} {x:IX} (h:Sim P glob g s B w (Act.tm a) env) (hc:aO P o.op (.len k x)=true) (hr:aop glob call cx env s (.len k x)=.ok e env' s'):Good P glob g s B w a (execOp a.eval o) e env' s':=by
 simp only [aO] at hc
 split at hc
 ·rename_i c Y
  split at hc
  ·rename_i x' t S Q R;simp only [Bool.and_eq_true] at hc;obtain ⟨hx,hk⟩:=hc;have W:=yx (a:=a) Y S
   have ha:c.args.map a.eval=#[a.eval x']:=by
    apply Array.toList_inj.1;simp [Q]
   have ht:c.argTypes=#[t]:=by apply Array.toList_inj.1;simp [R]
   rw [ha,ht] at W;rw [W]
   have hb:∀{u:Value},(Builtin.len_ #[t] o.type #[a.eval x']).run P w=.ok u w→(builtin .len #[t] o.type (c.args.map fun | .const _=>true | _=>false) #[a.eval x']).run P w=.ok (.value u) w:=by
    intro u hu;simp only [builtin];exact aU hu
   split at hk
   ·rename_i el hu;simp only [aop] at hr
    split at hr
    ·rename_i es A;cases hr;obtain ⟨ad,cap,I⟩:=VQ hx h A;exact .val h (hb (by rw [I];simp [Builtin.len_,Sem.run_bind,run_underlying hu,goInt])) (.i _ _)
    ·split at hr
     ·rename_i l ver a1 o2 m A;cases hr;have p:=aK (a:=a) hx h.env h.base.glob A
      have I:∃ad cap,a.eval x'=.slice ad m cap:=by
       generalize a.eval x'=ax at p
       cases p<;>exact ⟨_,_,rfl⟩
      obtain ⟨ad,cap,I⟩:=I;exact .val h (hb (by rw [I];simp [Builtin.len_,Sem.run_bind,run_underlying hu,goInt])) (.i _ _)
     ·cases hr
   ·rename_i hu;simp only [aop] at hr
    split at hr
    ·rename_i l hl;cases hr;have I:=rZ (aK (a:=a) hx h.env h.base.glob hl);exact .val h (hb (by rw [I];simp [Builtin.len_,Sem.run_bind,run_underlying hu,goInt,ByteArray.size_mk'])) (.i _ _)
    ·cases hr
   ·rename_i kt et hu;simp only [aop] at hr
    split at hr
    ·rename_i es A;cases hr;have p:=aK (a:=a) hx h.env h.base.glob A;generalize a.eval x'=ax at p hb
     cases p with
     | im bk _ vs hm hl hk hv=>
      obtain ⟨J,K,q1,q2,_⟩:=h.base.imm.mm bk _ hm
      have O:J.size=es.length:=by
       rw [←hl,←q2];simp
      exact .val h (hb (by simp [Builtin.len_,Sem.run_bind,run_underlying hu,goInt,getObj,Sem.run,q1,O])) (.i _ _)
    ·rename_i l A
     split at hr
     ·rename_i es Z;cases hr;have p:=aK (a:=a) hx h.env h.base.glob A;generalize a.eval x'=ax at p hb
      cases p with
      | mp _ hlt=>
       obtain ⟨_,J,K,q1,q2,_⟩:=h.base.heap.obj l _ Z;have O:J.size=es.length:=by have:=q2.1;simpa using this
       exact .val h (hb (by simp [Builtin.len_,Sem.run_bind,run_underlying hu,goInt,getObj,Sem.run,q1,O])) (.i _ _)
     ·cases hr
    ·rename_i a0;cases hr;have p:=aK (a:=a) hx h.env h.base.glob a0;generalize a.eval x'=ax at p hb;cases p;exact .val h (hb (by simp [Builtin.len_,Sem.run_bind,run_underlying hu,goInt])) (.i _ _)
    ·cases hr
   ·cases hk
  ·cases hc
 ·cases hc
theorem aft {x:IX} {i:Nat} (h:Sim P glob g s B w (Act.tm a) env) (hc:aO P o.op (.ext x i)=true) (hr:aop glob call cx env s (.ext x i)=.ok e env' s'):Good P glob g s B w a (execOp a.eval o) e env' s':=by
 simp only [aO] at hc
 split at hc
 ·rename_i x' j O;simp only [Bool.and_eq_true,beq_iff_eq] at hc;obtain ⟨rfl,hx⟩:=hc;simp only [aop] at hr
  split at hr
  ·rename_i cs K;obtain ⟨r,h1,rfl,rfl,rfl⟩:=yX hr;have p:=aK (a:=a) hx h.env h.base.glob K
   have I:(execOp a.eval o)=(do pure (Next.value (←Instr.extract (a.eval x') i))):=by simp only [execOp,O]
   rw [I];generalize a.eval x'=ax at p
   cases p with
   | tu vs _ hl hrr=>
    obtain ⟨J,rfl⟩:=List.getElem?_eq_some_iff.1 h1;have A:i<vs.size:=by omega
    exact .val h (aU (u:=vs[i]) (by simp [Instr.extract,A])) (hrr i A J)
  ·cases hr
 ·cases hc
theorem ac5 {f:Fn} {as cs:List IX} (h:Sim P glob g s B w (Act.tm a) env) (hc:aO P o.op (.mkfn f as cs)=true) (hr:aop glob call cx env s (.mkfn f as cs)=.ok e env' s'):Good P glob g s B w a (execOp a.eval o) e env' s':=by
 simp only [aO] at hc
 split at hc
 ·rename_i f' vs ws A;simp only [Bool.and_eq_true,beq_iff_eq] at hc;obtain ⟨⟨⟨rfl,hf⟩,h1⟩,h2⟩:=hc;simp only [aop] at hr
  split at hr
  ·rename_i K env1 I
   split at hr
   ·rename_i cs' env2 J;cases hr;obtain ⟨g1,s1,m1,r1⟩:=xB h1 h I;obtain ⟨g2,s2,m2,r2⟩:=xB h2 m1 J;refine ⟨.func f (vs.map a.eval) (ws.map a.eval),w,g2,.inl ?_,s1.trans s2,m2,.v ?_⟩
    ·simp only [execOp,A];exact aU (by simp [Instr.makeFunc])
    ·have x:=r1.mono s2.le;refine .fn f _ _ _ _ (by have:=x.1;simpa using this) (by have:=r2.1;simpa using this) (fun i hi p=>?_) (fun i hi p=>?_)
     ·have:=x.2 i (by simpa using hi) p;simpa using this
     ·have:=r2.2 i (by simpa using hi) p;simpa using this
   ·cases hr
  ·cases hr
 ·cases hc
theorem ac4 {t:Nat} {x:IX} (h:Sim P glob g s B w (Act.tm a) env) (hc:aO P o.op (.mkif t x)=true) (hr:aop glob call cx env s (.mkif t x)=.ok e env' s'):Good P glob g s B w a (execOp a.eval o) e env' s':=by
 simp only [aO] at hc
 split at hc
 ·rename_i t' x' A;simp only [Bool.and_eq_true,beq_iff_eq] at hc;obtain ⟨⟨rfl,hx⟩,hty⟩:=hc;simp only [aop] at hr
  split at hr
  ·rename_i v env1 he;cases hr;obtain ⟨g1,s1,m1,r1⟩:=pq hx h he;refine ⟨.iface t (a.eval x'),w,g1,.inl ?_,s1,m1,.v (.ifc t _ _ r1)⟩;simp only [execOp,A];refine aU ?_
   split at hty
   ·cases hty
   ·cases hty
   ·rename_i d hu p
    cases hd:P.underlying t with
    | none=>exact absurd hd (by simpa using p)
    | some d=>cases d<;>simp_all [Instr.makeInterface,Sem.run_bind,run_underlying hd]
  ·cases hr
 ·cases hc
theorem YL {x:IX} (h:Sim P glob g s B w (Act.tm a) env) (hc:aO P o.op (.nilchk x)=true) (hr:aop glob call cx env s (.nilchk x)=.ok e env' s'):Good P glob g s B w a (execOp a.eval o) e env' s':=by
 simp only [aO] at hc
 split at hc
 ·rename_i x' I;simp only [aop] at hr
  split at hr
  ·rename_i cs A;cases hr;have p:=aK (a:=a) hc h.env h.base.glob A;refine .val h (v:=a.eval x') ?_ p;simp only [execOp,I];generalize a.eval x'=ax at p;cases p;rfl
  ·rename_i l off A;cases hr;have p:=aK (a:=a) hc h.env h.base.glob A;refine .val h (v:=a.eval x') ?_ p;simp only [execOp,I];generalize a.eval x'=ax at p;cases p;rfl
  ·cases hr
 ·cases hc
end Go.Ai
namespace Go.Ai
variable {P:Program} {glob:Nat→Option (List AV)} {g:ai} {s:St} {B:Nat} {w:World} {env:Env} {a:Act} {o:Oper} {call:AV→List AV→St→Ctx→CO} {cx:Ctx} {e:EV} {env':Env} {s':St}
def Aq (kk:Nat):TypeDesc→Bool
 | .int _=>kk == 0
 | .string=>kk == 1
 | .bool=>kk == 2
 | _=>false
theorem Hf {kk:Nat} {t:TypeId} (h:Om P kk t=true):∃kt et,P.underlying t=some (.map kt et)∧LX P kk kt=true:=by
 unfold Om at h
 split at h
 ·rename_i kt et hu;exact ⟨kt,et,hu,h⟩
 ·cases h
theorem CB {kk:Nat} {d:TypeDesc} (hd:Aq kk d=true) {x y:AV} {r:Bool} (h:jH kk x y=some r) {N:Nat} {u v:Value} (hu:Rep g N u x) (hv:Rep g N v y):Instr.sameNow d u v=some r:=by
 unfold jH at h
 split at h
 ·split at h
  ·rename_i hk;subst hk;cases h;rw [uz hu,uz hv]
   cases d<;>simp [Aq] at hd<;>simp [Instr.sameNow]
  ·cases h
 ·cases h;rw [rZ hu,rZ hv];rename_i p q
  have e1:((⟨p.toArray⟩:ByteArray) == ⟨q.toArray⟩)=(p == q):=by
   rw [Bool.eq_iff_iff]
   change (p.toArray == q.toArray)=true ↔ (p == q)=true
   simp
  cases d<;>simp [Aq] at hd<;>simp [Instr.sameNow,e1]
 ·cases h;rw [wF hu,wF hv]
  cases d<;>simp [Aq] at hd<;>simp [Instr.sameNow]
 ·split at h
  ·rename_i n _ _ _;exfalso
   cases d<;>simp [Aq] at hd
  ·cases h
 ·cases h
theorem aaA {kk:Nat} {d:TypeDesc} (hd:Aq kk d=true) {x:AV} {N:Nat} {u:Value} (hu:Rep g N u x):∀(es:List (AV×AV)) (A:List MapEntry) (i:Nat) {r:Option AV},find kk x es=some r→
  aX g N (A.map (·.key)) (es.map (·.1))→aX g N (A.map (·.val)) (es.map (·.2))→
  (r=none∧Instr.findNow d u A i=some none)∨(∃a j v,r=some a∧Instr.findNow d u A i=some (some (j,v))∧Rep g N v a):=by
 intro es
 induction es with
 | nil=>
  intro A i r h hk hv
  cases A with
  | nil=>simp [find] at h;subst h;exact .inl ⟨rfl,rfl⟩
  | cons e es=>exact absurd hk.1 (by simp)
 | cons p es ih=>
  intro A i r h hk hv;obtain ⟨k',v'⟩:=p
  cases A with
  | nil=>exact absurd hk.1 (by simp)
  | cons e A=>
   simp only [List.map_cons] at hk hv;simp only [find] at h
   split at h
   ·rename_i hq;cases h
    have:=CB hd hq hu hk.head
    exact .inr ⟨v',i,e.val,rfl,by simp [Instr.findNow,this],hv.head⟩
   ·rename_i hq
    have:=CB hd hq hu hk.head
    rcases ih A (i+1) h hk.tail hv.tail with ⟨h1,h2⟩|⟨a,j,v,h1,h2,h3⟩
    ·exact .inl ⟨h1,by simp [Instr.findNow,this,h2]⟩
    ·exact .inr ⟨a,j,v,h1,by simp [Instr.findNow,this,h2],h3⟩
   ·cases h
theorem run_checkKey {kk:Nat} {kt:TypeId} {d:TypeDesc} (hk:P.underlying kt=some d) (hd:Aq kk d=true) (b:Bool) (u:Value):(Instr.checkKey b 10000 kt u).run P w=.ok () w:=by
 have:∀n,(Instr.checkKey b (n+1) kt u).run P w=.ok () w:=by
  intro n
  cases d<;>simp [Aq] at hd<;>cases u<;>simp [Instr.checkKey,Sem.run_bind,run_underlying hk]
 exact this 9999
theorem zL {kk:Nat} {kt:TypeId} (h:LX P kk kt=true):(∃d,P.underlying kt=some d∧Aq kk d=true)∨(∃n fs,kk=n+3∧P.underlying kt=some (.struct fs)∧fs.size=n∧vK P 0 fs.toList=true∧P.stoodInHeld kt=false):=by
 unfold LX at h
 split at h
 ·rename_i hk;exact .inl ⟨_,hk,rfl⟩
 ·rename_i hk;exact .inl ⟨_,hk,rfl⟩
 ·rename_i hk;exact .inl ⟨_,hk,rfl⟩
 ·rename_i n fs hk;simp only [Bool.and_eq_true,beq_iff_eq,Bool.not_eq_true'] at h;exact .inr ⟨n,fs,rfl,hk,h.1.1,h.1.2,h.2⟩
 ·cases h
theorem EG {w:World} {t:TypeId} (h:isStr P t=true) {us:Array Value} {i:Nat} {v:Value} (hv:us[i]?=some v):(Go.part t us i).run P w=.ok v w:=by
 have hu:=xu h;obtain ⟨hi,rfl⟩:=Array.getElem?_eq_some_iff.1 hv;simp [Go.part,isAgg,Sem.run_bind,run_underlying hu,hi]
theorem QW:∀(xs ys:List AV) {r:Bool},oC xs ys=some r→xs.length=ys.length
 | [],[],_,_=>rfl
 | [],_::_,_,h=>by simp [oC] at h
 | x::xs,[],_,h=>by cases x<;>simp [oC] at h
 | x::xs,y::ys,r,h=>by
  cases x<;>(try (simp [oC] at h;done))
  cases y<;>(try (simp [oC] at h;done))
  simp only [oC] at h
  split at h
  ·rename_i q h1;simp [QW xs ys h1]
  ·cases h
theorem KT {w:World} {d:Nat} {us vs:Array Value} {N:Nat}:∀(fs:List Field) (i:Nat) (xs ys:List AV) {r:Bool},vK P i fs=true→oC xs ys=some r→xs.length=fs.length→
  aX g N (us.toList.drop i) xs→aX g N (vs.toList.drop i) ys→(Op.eqFields (d+1) us vs fs).run P w=.ok r w
 | [],i,xs,ys,r,_,h,hl,_,_=>by
  have:xs=[]:=List.eq_nil_of_length_eq_zero hl
  subst this
  cases ys with
  | nil=>simp [oC] at h;subst h;simp [Op.eqFields]
  | cons y ys=>simp [oC] at h
 | f::fs,i,xs,ys,r,hf,h,hl,hu,hv=>by
  simp only [vK,Bool.and_eq_true,beq_iff_eq,bne_iff_ne] at hf;obtain ⟨⟨⟨rfl,hn⟩,hs⟩,hf⟩:=hf
  cases xs with
  | nil=>simp at hl
  | cons x xs=>
   cases ys with
   | nil=>cases x<;>simp [oC] at h
   | cons y ys=>
    cases x<;>(try (simp [oC] at h;done))
    cases y<;>(try (simp [oC] at h;done))
    rename_i p q;simp only [oC] at h
    cases h1:oC xs ys with
    | none=>rw [h1] at h;cases h
    | some r'=>
    rw [h1] at h;simp only [Option.some.injEq] at h;have h2:=h
    have tail:∀{us:Array Value} {x:AV} {xs:List AV},aX g N (us.toList.drop f.offset) (x::xs)→∃v,us[f.offset]?=some v∧Rep g N v x∧aX g N (us.toList.drop (f.offset+1)) xs:=by
     intro us x xs hr;have A:f.offset<us.toList.length:=by have:=hr.1;simp at this ⊢;omega
     rw [List.drop_eq_getElem_cons A] at hr;exact ⟨us[f.offset]'(by simpa using A),by simp at A;simp [A],by simpa using hr.head,hr.tail⟩
    obtain ⟨u1,e1,r1,t1⟩:=tail hu;obtain ⟨v1,e2,r2,t2⟩:=tail hv;rw [rZ r1] at e1;rw [rZ r2] at e2;have ih:=KT (w:=w) (d:=d) fs (f.offset+1) xs ys hf h1 (by simpa using hl) t1 t2
    have I:(Op.equalIn (d+1) f.type (.string ⟨p.toArray⟩) (.string ⟨q.toArray⟩)).run P w=.ok (p == q) w:=by
     have e3:((⟨p.toArray⟩:ByteArray) == ⟨q.toArray⟩)=(p == q):=by
      rw [Bool.eq_iff_iff]
      change (p.toArray == q.toArray)=true ↔ (p == q)=true
      simp
     simp [Op.equalIn,run_underlying (xu hs),e3]
    simp only [Op.eqFields,Sem.run_ite,Sem.run_bind,EG hs e1,EG hs e2,Result.andThen_ok,I];rw [if_pos hn]
    cases hpq:(p == q) with
    | true=>
     have:p=q:=by simpa using hpq
     simp [this] at h2;subst h2
     simpa [hpq] using ih
    | false=>
     have:p≠q:=by simpa using hpq
     rw [hpq] at h2;simp at h2;subst h2;simp
theorem Au {w:World} {n:Nat} {kt:TypeId} {fs:Array Field} (hu:P.underlying kt=some (.struct fs)) (hn:fs.size=n) (hf:vK P 0 fs.toList=true) (hp:P.stoodInHeld kt=false) {x y:AV} {r:Bool} (h:jH (n+3) x y=some r)
  {N:Nat} {u v:Value} (hx:Rep g N u x) (hy:Rep g N v y):(Op.equal kt u v).run P w=.ok r w:=by
 unfold jH at h
 split at h<;>(try (rename_i hk;omega))<;>(try (rename_i hk _ _;omega))<;>(try (rename_i hk _;omega))
 ·rename_i xs m ys zs hk
  have:m=n:=by omega
  subst this
  split at h
  ·rename_i hl;have A:P.fieldsOf kt=fs:=by simp [Program.fieldsOf,hu]
   cases hx with
   | ag us _ hl1 _ hr1=>
    cases hy with
    | ag vs _ hl2 _ hr2=>
     have:=run_equalIn_struct (P:=P) w 9999 kt us vs (by rw [A];exact hu) hp
     show (Op.equalIn 10000 kt (.agg us) (.agg vs)).run P w=_;rw [this,A];refine KT (g:=g) (N:=N) (d:=9998) fs.toList 0 ys zs hf h (by simp;omega) ⟨by simpa using hl1,fun i hi p=>?_⟩ ⟨by simpa using hl2,fun i hi p=>?_⟩
     ·simp only [List.drop_zero];rw [Array.getElem_toList];exact hr1 i (by simpa using hi) p
     ·simp only [List.drop_zero];rw [Array.getElem_toList];exact hr2 i (by simpa using hi) p
  ·cases h
 ·cases h
theorem UK {w:World} {n:Nat} {kt:TypeId} {fs:Array Field} (hu:P.underlying kt=some (.struct fs)) (hn:fs.size=n) (hf:vK P 0 fs.toList=true) (hp:P.stoodInHeld kt=false) {x:AV} {N:Nat} {u:Value} (hx:Rep g N u x):
  ∀(es:List (AV×AV)) (A:List MapEntry) (i:Nat) {r:Option AV},find (n+3) x es=some r→
  aX g N (A.map (·.key)) (es.map (·.1))→aX g N (A.map (·.val)) (es.map (·.2))→
  (r=none∧(Instr.findAsking kt u A i).run P w=.ok none w)∨(∃a j v,r=some a∧(Instr.findAsking kt u A i).run P w=.ok (some (j,v)) w∧Rep g N v a):=by
 intro es
 induction es with
 | nil=>
  intro A i r h hk hv
  cases A with
  | nil=>simp [find] at h;subst h;exact .inl ⟨rfl,rfl⟩
  | cons e es=>exact absurd hk.1 (by simp)
 | cons p es ih=>
  intro A i r h hk hv;obtain ⟨k',v'⟩:=p
  cases A with
  | nil=>exact absurd hk.1 (by simp)
  | cons e A=>
   simp only [List.map_cons] at hk hv;simp only [find] at h
   split at h
   ·rename_i hq;cases h
    have:=Au (w:=w) hu hn hf hp hq hx hk.head
    exact .inr ⟨v',i,e.val,rfl,by simp [Instr.findAsking,Sem.run_bind,this],hv.head⟩
   ·rename_i hq
    have:=Au (w:=w) hu hn hf hp hq hx hk.head
    rcases ih A (i+1) h hk.tail hv.tail with ⟨h1,h2⟩|⟨a,j,v,h1,h2,h3⟩
    ·exact .inl ⟨h1,by simp [Instr.findAsking,Sem.run_bind,this,h2]⟩
    ·exact .inr ⟨a,j,v,h1,by simp [Instr.findAsking,Sem.run_bind,this,h2],h3⟩
   ·cases h
theorem zT {kt:TypeId} {fs:Array Field} (hu:P.underlying kt=some (.struct fs)) (u:Value) (p:List MapEntry):(Instr.findKey kt u p).run P w=(Instr.findAsking kt u p).run P w:=by
 cases p with
 | nil=>simp [Instr.findKey,run_underlying hu,Instr.findNow,Instr.findAsking]
 | cons e es=>simp [Instr.findKey,run_underlying hu,Instr.findNow,Instr.sameNow]
theorem PV {kk:Nat} {kt:TypeId} (h:LX P kk kt=true) (u:Value):(Instr.findKey kt u []).run P w=.ok none w:=by
 rcases zL h with ⟨d,hd,_⟩|⟨n,fs,_,hd,_⟩<;>simp [Instr.findKey,run_underlying hd,Instr.findNow]
theorem Jg {kk:Nat} {kt:TypeId} (hk:LX P kk kt=true) {x:AV} {N:Nat} {u:Value} (hx:Rep g N u x) (_:3≤kk→uN kk x=true) {es:List (AV×AV)} {p:List MapEntry} {r:Option AV} (h:find kk x es=some r)
  (h1:aX g N (p.map (·.key)) (es.map (·.1))) (h2:aX g N (p.map (·.val)) (es.map (·.2))):
  (r=none∧(Instr.findKey kt u p).run P w=.ok none w)∨(∃a j v,r=some a∧(Instr.findKey kt u p).run P w=.ok (some (j,v)) w∧Rep g N v a):=by
 rcases zL hk with ⟨d,hd,A⟩|⟨n,fs,rfl,hu,hn,hf,hp⟩
 ·rcases aaA A hx es p 0 h h1 h2 with ⟨a1,a2⟩|⟨a,j,v,a1,a2,a3⟩
  ·exact .inl ⟨a1,by simp [Instr.findKey,run_underlying hd,a2]⟩
  ·exact .inr ⟨a,j,v,a1,by simp [Instr.findKey,run_underlying hd,a2],a3⟩
 ·rw [zT hu];exact UK hu hn hf hp hx es p 0 h h1 h2
theorem FD {w:World} {b:Bool} {m N:Nat} {us:Array Value}:∀(fs:List Field) (i:Nat) (xs:List AV),vK P i fs=true→fs.length=xs.length→aX g N (us.toList.drop i) xs→
  (forIn (m:=Sem) fs PUnit.unit (fun f _=>
   if f.name≠ "_" then do
    let x ←Go.part f.type us f.offset
    Instr.checkKey b (m+1) f.type x
    pure (ForInStep.yield PUnit.unit)
   else pure (ForInStep.yield PUnit.unit))).run P w=.ok PUnit.unit w
 | [],_,_,_,_,_=>by simp
 | f::fs,i,xs,hf,hl,hr=>by
  simp only [vK,Bool.and_eq_true,beq_iff_eq,bne_iff_ne] at hf;obtain ⟨⟨⟨rfl,hn⟩,hs⟩,hf⟩:=hf
  cases xs with
  | nil=>simp at hl
  | cons x xs=>
   have p:f.offset<us.toList.length:=by have:=hr.1;simp at this ⊢;omega
   rw [List.drop_eq_getElem_cons p] at hr;have hv:us[f.offset]?=some (us[f.offset]'(by simpa using p)):=by simp at p;simp [p]
   have ih:=FD (w:=w) (b:=b) (m:=m) fs (f.offset+1) xs hf (by simpa using hl) hr.tail
   have hc:∀v,(Instr.checkKey b (m+1) f.type v).run P w=.ok () w:=by
    intro v
    cases v<;>simp [Instr.checkKey,Sem.run_bind,run_underlying (xu hs)]
   simp only [List.forIn_cons,Sem.run_bind,Sem.run_ite];rw [if_pos hn];simp only [EG hs hv,Sem.run_bind,Result.andThen_ok,hc,Sem.run_pure];exact ih
theorem mr {kk:Nat} {kt:TypeId} (hk:LX P kk kt=true) {x:AV} {N:Nat} {u:Value} (hx:Rep g N u x) (h3:3≤kk→uN kk x=true) (b:Bool):(Instr.checkKey b 10000 kt u).run P w=.ok () w:=by
 rcases zL hk with ⟨d,hd,A⟩|⟨n,fs,rfl,hu,hn,hf,hp⟩
 ·exact run_checkKey hd A b u
 ·have p:=h3 (by omega);unfold uN at p
  split at p<;>(try (rename_i hk;omega))<;>(try (rename_i hk _;omega))
  ·rename_i m cs hk
   have:m=n:=by omega
   subst this;simp only [Bool.and_eq_true,beq_iff_eq] at p
   cases hx with
   | ag us _ hl h1 hr=>
    have e0:=FD (P:=P) (g:=g) (w:=w) (b:=b) (m:=9998) (N:=N) (us:=us) fs.toList 0 cs hf (by simp;omega) ⟨by simpa using hl,fun i hi I=>by simp only [List.drop_zero];rw [Array.getElem_toList];exact hr i (by simpa using hi) I⟩;rw [show (10000:Nat)=9999+1 from rfl,Instr.checkKey];simp only [Sem.run_bind,run_underlying hu,Result.andThen_ok];rw [←Array.forIn_toList];exact (congrArg (fun r=>Result.andThen r _) e0).trans rfl
  ·cases p
end Go.Ai
namespace Go.Ai
variable {P:Program} {glob:Nat→Option (List AV)} {g:ai} {s:St} {B:Nat} {w:World} {env:Env} {a:Act} {o:Oper} {call:AV→List AV→St→Ctx→CO} {cx:Ctx} {e:EV} {env':Env} {s':St}
theorem iW {x:Option Operand} {ix:Option IX} (hc:Zd x ix=true) (h:Sim P glob g s B w (Act.tm a) env) {d r:Nat} (hb:bound glob env d ix=some r):
  (x=none∧r=d)∨(∃y k n,x=some y∧a.eval y=.int k n∧0≤n∧r=n.toNat):=by
 unfold Zd at hc
 split at hc
 ·simp [bound] at hb;exact .inl ⟨rfl,hb.symm⟩
 ·rename_i y iy;right;simp only [bound] at hb
  split at hb
  ·rename_i k n hn
   split at hb
   ·rename_i h0;cases hb;exact ⟨y,k,n,rfl,uz (aK (a:=a) hc h.env h.base.glob hn),h0,rfl⟩
   ·cases hb
  ·cases hb
 ·cases hc
theorem ny {isSlice:Bool} {len cap:Nat} {lo hi:Option Operand} {l hh:Nat}
  (I:(lo=none∧l=0)∨(∃y k n,lo=some y∧a.eval y=.int k n∧0≤n∧l=n.toNat))
  (J:(hi=none∧hh=len)∨(∃y k n,hi=some y∧a.eval y=.int k n∧0≤n∧hh=n.toNat)) (h1:l≤hh) (h2:hh≤cap):
  (Instr.sliceBounds isSlice len cap (lo.map a.eval) (hi.map a.eval) none).run P w=.ok (l,hh,cap) w:=by
 rcases J with ⟨rfl,rfl⟩|⟨y,k,n,rfl,hy,x,rfl⟩
 ·rcases I with ⟨rfl,rfl⟩|⟨z,k',m,rfl,hz,p,rfl⟩
  ·simp [Instr.sliceBounds,Sem.run_bind]
  ·have:m≤(hh:Int):=by omega
   simp [Instr.sliceBounds,Sem.run_bind,Instr.sliceBound,hz,asIntOf,p,this]
 ·have A:n≤(cap:Int):=by omega
  rcases I with ⟨rfl,rfl⟩|⟨z,k',m,rfl,hz,p,rfl⟩
  ·simp [Instr.sliceBounds,Sem.run_bind,Instr.sliceBound,hy,asIntOf,x,A]
  ·have:m≤n:=by omega
   simp [Instr.sliceBounds,Sem.run_bind,Instr.sliceBound,hy,hz,asIntOf,x,A,p,this,Int.max_eq_left x]
theorem ac0 {x:IX} {lo hi:Option IX} (h:Sim P glob g s B w (Act.tm a) env) (hc:aO P o.op (.slcs x lo hi)=true) (hr:aop glob call cx env s (.slcs x lo hi)=.ok e env' s'):Good P glob g s B w a (execOp a.eval o) e env' s':=by
 simp only [aO] at hc
 split at hc
 ·rename_i t x' R Q J;simp only [Bool.and_eq_true] at hc;obtain ⟨⟨⟨hx,O⟩,hhi⟩,hty⟩:=hc;simp only [aop] at hr
  split at hr
  ·rename_i cs I
   split at hr
   ·rename_i l hh hl K
    split at hr
    ·rename_i p;cases hr;have A:=rZ (aK (a:=a) hx h.env h.base.glob I);have hb:=ny (P:=P) (w:=w) (isSlice:=false) (len:=cs.length) (cap:=cs.length) (iW O h hl) (iW hhi h K) p.1 p.2;refine .val h ?_ (.s _);simp only [execOp,J];refine aU ?_;simp [Instr.sliceAt,Instr.slice,Sem.run_bind,run_underlying (xu hty),A,hb,ByteArray.size_mk',ByteArray.extract_mk]
    ·cases hr
   ·cases hr
  ·cases hr
 ·cases hc
theorem F8 {g:ai} {n:Nat} {b off cap sz:Nat} {es:List AV} {l h:Nat} {sz':Nat} {c:Nat→Nat→Value} (hc:es.length≤cap)
   (K:∀i (h:i<es.length),(AV.cells es[i]).length=sz')
   (hm:∀i j,i<es.length→j<sz'→g.m b (off+i * sz'+j)=some (c i j)∧(c i j).oneCell'=true)
   (P:∀i (h:i<es.length) j (h':j<(AV.cells es[i]).length),Rep g n (c i j) (AV.cells es[i])[j]) (R:l≤h) (hh:h≤es.length)
  (J:∀a∈es,a.cells.length=sz):Rep g n (.slice (if cap=l then some ⟨b,off,none⟩ else some ⟨b,off+l * sz,none⟩) (h - l) (cap - l)) (.sl ((es.drop l).take (h - l))):=by
 have p:((es.drop l).take (h - l)).length=h - l:=by simp;omega
 by_cases hz:es=[]
 ·subst hz;simp at hh;subst hh
  have:l=0:=by omega
  subst this;simp;exact .sl b off cap sz [] (fun _ _=>undef) (by simp) (fun i hi=>by simp at hi) (fun i j hi=>by simp at hi) (fun i hi=>by simp at hi)
 ·have A:sz'=sz:=by
   have h0:0<es.length:=List.length_pos_iff.2 hz;rw [←K 0 h0];exact J _ (List.getElem_mem h0)
  subst A
  have mk:∀x,(l<h→x=off+l * sz')→Rep g n (.slice (some ⟨b,x,none⟩) (h - l) (cap - l)) (.sl ((es.drop l).take (h - l))):=by
   intro x ho
   have key:=Rep.sl (g:=g) (n:=n) b x (cap - l) sz' ((es.drop l).take (h - l)) (fun i j=>c (l+i) j) (by rw [p];omega)
    (fun i hi=>J _ (List.mem_of_mem_drop (List.mem_of_mem_take (List.getElem_mem hi))))
    (fun i j hi hj=>by
     rw [p] at hi
     have:=hm (l+i) j (by omega) hj
     rw [ho (by omega)];rw [Nat.add_mul] at this
     rw [show off+l * sz'+i * sz'+j=off+(l * sz'+i * sz')+j by omega];exact this)
    (fun i hi j hj=>by
     have I:=hi;rw [p] at I;have e1:((es.drop l).take (h - l))[i]=es[l+i]'(by omega):=by rw [List.getElem_take,List.getElem_drop]
     simp only [e1] at hj ⊢
     exact P (l+i) (by omega) j hj)
   rw [p] at key;exact key
  split
  ·rename_i O;exact mk off (fun Q=>by omega)
  ·exact mk _ (fun _=>rfl)
theorem afl {sz:Nat} {x:IX} {lo hi:Option IX} (h:Sim P glob g s B w (Act.tm a) env) (hc:aO P o.op (.slc sz x lo hi)=true) (hr:aop glob call cx env s (.slc sz x lo hi)=.ok e env' s'):Good P glob g s B w a (execOp a.eval o) e env' s':=by
 simp only [aO] at hc
 split at hc
 ·rename_i t x' W Y S;simp only [Bool.and_eq_true] at hc;obtain ⟨⟨⟨hx,J⟩,hhi⟩,hty⟩:=hc;obtain ⟨el,hu,I⟩:=Du hty;simp only [aop] at hr
  split at hr
  ·rename_i es env1 he;obtain ⟨g1,s1,m1,r1⟩:=pq hx h he
   split at hr
   ·rename_i l hh hl p
    split at hr
    ·rename_i A;obtain ⟨Q,K,Z⟩:=A;cases hr;have R:∀a∈es,a.cells.length=sz:=fun a ha=>by simpa using List.all_eq_true.1 Z a ha
     have O:(execOp a.eval o)=(do pure (Next.value (←Instr.sliceAt t (a.eval x') (W.map a.eval) (Y.map a.eval) none))):=by simp only [execOp,S];rfl
     rw [O];have a2:=s1;generalize a.eval x'=ax at r1
     cases r1 with
     | slNil=>
      simp at K;subst K
      have:l=0:=by omega
      subst this;have hb:=ny (P:=P) (w:=w) (isSlice:=true) (len:=0) (cap:=0) (iW J m1 hl) (iW hhi m1 p) (Nat.le_refl _) (Nat.le_refl _);refine ⟨.slice none 0 0,w,g1,.inl (aU ?_),s1,m1,.v (by simpa using Rep.slNil)⟩;simp [Instr.sliceAt,Instr.slice,Sem.run_bind,run_underlying hu,hb,run_sizeOf I]
     | slE ad=>
      simp at K;subst K
      have:l=0:=by omega
      subst this;have hb:=ny (P:=P) (w:=w) (isSlice:=true) (len:=0) (cap:=0) (iW J m1 hl) (iW hhi m1 p) (Nat.le_refl _) (Nat.le_refl _);refine ⟨.slice (some ad) 0 0,w,g1,.inl (aU ?_),s1,m1,.v (by simpa using Rep.slE ad)⟩;simp [Instr.sliceAt,Instr.slice,Sem.run_bind,run_underlying hu,hb,run_sizeOf I]
     | sl bk off cap sz' _ c hcap hsz' hm hrr=>
      have hb:=ny (P:=P) (w:=w) (isSlice:=true) (len:=es.length) (cap:=cap) (iW J m1 hl) (iW hhi m1 p) Q (by omega);refine ⟨.slice (if cap=l then some ⟨bk,off,none⟩ else some ⟨bk,off+l * sz,none⟩) (hh - l) (cap - l),w,g1,.inl (aU ?_),s1,m1,.v (F8 hcap hsz' hm hrr Q K R)⟩;simp [Instr.sliceAt,Instr.slice,Sem.run_bind,run_underlying hu,hb,run_sizeOf I,Addr.add_lit]
    ·cases hr
   ·cases hr
  ·rename_i env1 he;obtain ⟨g1,s1,m1,r1⟩:=pq hx h he
   split at hr
   ·rename_i hl p;cases hr
    have O:(execOp a.eval o)=(do pure (Next.value (←Instr.sliceAt t (a.eval x') (W.map a.eval) (Y.map a.eval) none))):=by simp only [execOp,S];rfl
    rw [O];generalize a.eval x'=ax at r1;cases r1;have hb:=ny (P:=P) (w:=w) (isSlice:=true) (len:=0) (cap:=0) (iW J m1 hl) (iW hhi m1 p) (Nat.le_refl _) (Nat.le_refl _);refine ⟨.slice none 0 0,w,g1,.inl (aU ?_),s1,m1,.v .ns⟩;simp [Instr.sliceAt,Instr.slice,Sem.run_bind,run_underlying hu,hb,run_sizeOf I]
   ·cases hr
  ·rename_i k ver a1 o2 m env1 he;obtain ⟨g1,s1,m1,r1⟩:=pq hx h he
   split at hr
   ·rename_i l hh hl p
    split at hr
    ·rename_i A;obtain ⟨rfl,Q,a0⟩:=A;cases hr
     have O:(execOp a.eval o)=(do pure (Next.value (←Instr.sliceAt t (a.eval x') (W.map a.eval) (Y.map a.eval) none))):=by simp only [execOp,S];rfl
     rw [O];generalize a.eval x'=ax at r1
     cases r1 with
     | skE _ _ _ _ ad hk=>
      have h0:hh=0:=by omega
      have:l=0:=by omega
      subst this h0;have hb:=ny (P:=P) (w:=w) (isSlice:=true) (len:=0) (cap:=0) (iW J m1 hl) (iW hhi m1 p) (Nat.le_refl _) (Nat.le_refl _);refine ⟨.slice (some ad) 0 0,w,g1,.inl (aU ?_),s1,m1,.v (by simpa using Rep.skE k ver sz o2 ad hk)⟩;simp [Instr.sliceAt,Instr.slice,Sem.run_bind,run_underlying hu,hb,run_sizeOf I]
     | sk _ _ _ _ _ b off len cap c hk hhi2 ho hc hcc=>
      have hb:=ny (P:=P) (w:=w) (isSlice:=true) (len:=m) (cap:=c) (iW J m1 hl) (iW hhi m1 p) Q (by omega);refine ⟨.slice (if c=l then some ⟨b,off+o2,none⟩ else some ⟨b,off+o2+l * sz,none⟩) (hh - l) (c - l),w,g1,.inl (aU ?_),s1,m1,.v ?_⟩
      ·simp [Instr.sliceAt,Instr.slice,Sem.run_bind,run_underlying hu,hb,run_sizeOf I,Addr.add_lit]
      ·by_cases hcl:c=l
       ·rw [if_pos hcl,show hh - l=0 by omega,show c - l=0 by omega];exact .skE _ _ _ _ _ hk
       ·rw [if_neg hcl,Nat.add_assoc];have e1:l * sz+(hh - l) * sz=hh * sz:=by rw [←Nat.add_mul];congr 1;omega
        have e2:hh * sz≤m * sz:=Nat.mul_le_mul_right sz a0;have e3:l * sz+(c - l) * sz=c * sz:=by rw [←Nat.add_mul];congr 1;omega
        exact .sk k ver sz (o2+l * sz) (hh - l) b off len cap (c - l) hk hhi2 (by omega) (by omega) (by omega)
    ·cases hr
   ·cases hr
  ·cases hr
 ·cases hc
theorem yR {len cap:Nat} {hi mx:Operand} {hh m:Nat} (I:∃k n,a.eval hi=.int k n∧0≤n∧hh=n.toNat) (A:∃k n,a.eval mx=.int k n∧0≤n∧m=n.toNat) (h1:hh≤m) (h2:m≤cap):
  (Instr.sliceBounds true len cap none (some (a.eval hi)) (some (a.eval mx))).run P w=.ok (0,hh,m) w:=by
 obtain ⟨k,n,hy,x,rfl⟩:=I;obtain ⟨k',n',hz,p,rfl⟩:=A;have e1:n'≤(cap:Int):=by omega
 have e2:n≤n':=by omega
 have e3:n≤max n' 0:=by omega
 simp [Instr.sliceBounds,Sem.run_bind,Instr.sliceBound,hy,hz,asIntOf,x,p,e1,e2,e3]
theorem ac1 {sz:Nat} {x hi mx:IX} (h:Sim P glob g s B w (Act.tm a) env) (hc:aO P o.op (.slc3 sz x hi mx)=true) (hr:aop glob call cx env s (.slc3 sz x hi mx)=.ok e env' s'):Good P glob g s B w a (execOp a.eval o) e env' s':=by
 simp only [aO] at hc
 split at hc
 ·rename_i t x' O J S;simp only [Bool.and_eq_true] at hc;obtain ⟨⟨⟨hx,Z⟩,hmx⟩,hty⟩:=hc;obtain ⟨el,hu,K⟩:=Du hty;simp only [aop] at hr
  split at hr
  ·rename_i es env1 he;obtain ⟨g1,s1,m1,r1⟩:=pq hx h he
   split at hr
   ·rename_i hh mm Y a0
    split at hr
    ·rename_i I;obtain ⟨Q,p,R⟩:=I;cases hr;have A:∀a∈es,a.cells.length=sz:=fun a ha=>by simpa using List.all_eq_true.1 R a ha
     have W:(execOp a.eval o)=(do pure (Next.value (←Instr.sliceAt t (a.eval x') none (some (a.eval O)) (some (a.eval J))))):=by simp only [execOp,S];rfl
     rw [W];have b1:=iW (x:=some O) (ix:=some hi) (by simpa [Zd] using Z) m1 Y;have b2:=iW (x:=some J) (ix:=some mx) (by simpa [Zd] using hmx) m1 a0
     have c1:∃k n,a.eval O=.int k n∧0≤n∧hh=n.toNat:=by
      rcases b1 with ⟨h0,_⟩|⟨y,k,n,h0,h2⟩
      ·cases h0
      ·cases h0;exact ⟨k,n,h2⟩
     have c2:∃k n,a.eval J=.int k n∧0≤n∧mm=n.toNat:=by
      rcases b2 with ⟨h0,_⟩|⟨y,k,n,h0,h2⟩
      ·cases h0
      ·cases h0;exact ⟨k,n,h2⟩
     generalize a.eval x'=ax at r1
     cases r1 with
     | slNil=>
      simp at p;subst p
      have:hh=0:=by omega
      subst this;have hb:=yR (P:=P) (w:=w) (len:=0) (cap:=0) c1 c2 (Nat.le_refl _) (Nat.le_refl _);refine ⟨.slice none 0 0,w,g1,.inl (aU ?_),s1,m1,.v (by simpa using Rep.slNil)⟩;simp [Instr.sliceAt,Instr.slice,Sem.run_bind,run_underlying hu,hb,run_sizeOf K]
     | slE ad=>
      simp at p;subst p
      have:hh=0:=by omega
      subst this;have hb:=yR (P:=P) (w:=w) (len:=0) (cap:=0) c1 c2 (Nat.le_refl _) (Nat.le_refl _);refine ⟨.slice (some ad) 0 0,w,g1,.inl (aU ?_),s1,m1,.v (by simpa using Rep.slE ad)⟩;simp [Instr.sliceAt,Instr.slice,Sem.run_bind,run_underlying hu,hb,run_sizeOf K]
     | sl bk off cap sz' _ c hcap hsz' hm hrr=>
      have hb:=yR (P:=P) (w:=w) (len:=es.length) (cap:=cap) c1 c2 Q (by omega);have a1:(es.take mm).length=mm:=by simp;omega
      have key:=F8 (g:=g1) (n:=s.length) (b:=bk) (off:=off) (cap:=mm) (sz:=sz) (es:=es.take mm) (l:=0) (h:=hh) (sz':=sz') (c:=c) (by omega)
       (fun i hi=>by simpa using hsz' i (by simp at hi;omega))
       (fun i j hi hj=>hm i j (by simp at hi;omega) hj)
       (fun i hi j hj=>by
        have e1:(es.take mm)[i]=es[i]'(by simp at hi;omega):=by rw [List.getElem_take]
        simp only [e1] at hj ⊢
        exact hrr i (by simp at hi;omega) j hj) (Nat.zero_le _) (by omega) (fun a ha=>A a (List.mem_of_mem_take ha))
      have e2:((es.take mm).drop 0).take (hh - 0)=es.take hh:=by
       rw [List.drop_zero,Nat.sub_zero,List.take_take,Nat.min_eq_left Q]
      rw [e2] at key;refine ⟨.slice (if mm=0 then some ⟨bk,off,none⟩ else some ⟨bk,off+0 * sz,none⟩) (hh - 0) (mm - 0),w,g1,.inl (aU ?_),s1,m1,.v key⟩;simp [Instr.sliceAt,Instr.slice,Sem.run_bind,run_underlying hu,hb,run_sizeOf K,Addr.add_lit]
    ·cases hr
   ·cases hr
  ·cases hr
 ·cases hc
theorem ac7 {kk:Nat} {z:AV} {ok:Bool} {m k:IX} (h:Sim P glob g s B w (Act.tm a) env) (hc:aO P o.op (.look kk z ok m k)=true) (hr:aop glob call cx env s (.look kk z ok m k)=.ok e env' s'):Good P glob g s B w a (execOp a.eval o) e env' s':=by
 simp only [aO] at hc
 split at hc
 ·rename_i t m' k' a6 a2;simp only [Bool.and_eq_true,beq_iff_eq] at hc;obtain ⟨⟨⟨⟨rfl,hm⟩,hk⟩,hkey⟩,hz⟩:=hc;obtain ⟨kt,et,hu,I⟩:=Hf hkey;rw [hu] at hz;simp only [] at hz;unfold ah6 at hz
  cases hi:P.info? et with
  | none=>simp [hi] at hz
  | some info=>
   cases hzz:info.zero with
   | none=>simp [hi,hzz] at hz
   | some zv=>
    simp [hi,hzz] at hz;have J:=TP g s.length zv z hz;simp only [aop] at hr
    split at hr
    ·rename_i key a5
     split at hr
     ·cases hr
     rename_i a0
     have K:3≤kk→uN kk key=true:=fun h3=>by
      cases hkk:uN kk key with
      | true=>rfl
      | false=>exact absurd ⟨h3,hkk⟩ a0
     split at hr
     ·rename_i r p;have A:=aK (a:=a) hk h.env h.base.glob a5
      -- the looked-up value
      have a1:∃v Z,(Instr.lookup t (a.eval m') (a.eval k') ok).run P w=.ok (if ok then .tuple #[v,.bool Z] else v) w∧Rep g s.length v (r.getD z)∧Z=r.isSome:=by
       split at p
       ·rename_i es R;have x:=aK (a:=a) hm h.env h.base.glob R;generalize a.eval m'=am at x
        cases x with
        | im bk _ vs hmm hl hkk hvv=>
         obtain ⟨O,Y,q1,q2,_⟩:=h.base.imm.mm bk _ hmm;have W:O.toList.length=es.length:=by rw [←hl,←q2];simp
         have rk:aX g s.length (O.toList.map (·.key)) (es.map (·.1)):=⟨by simpa using W,fun i Q S=>by
          subst q2
          have:=hkk i (by simpa using Q) (by simpa using S)
          simpa using this⟩
         have rv:aX g s.length (O.toList.map (·.val)) (es.map (·.2)):=⟨by simpa using W,fun i Q S=>by
          subst q2
          have:=hvv i (by simpa using Q) (by simpa using S)
          simpa using this⟩
         rcases Jg (w:=w) I A K p rk rv with ⟨rfl,h2⟩|⟨v0,j,v,rfl,h2,h3⟩
         ·refine ⟨zv,false, ?_,by simpa using J,rfl⟩;simp [Instr.lookup,Sem.run_bind,run_underlying hu,getObj,Sem.run,q1,mr I A K,h2,zeroValue,typeInfo,hi,hzz]
         ·refine ⟨v,true, ?_,by simpa using h3,rfl⟩;simp [Instr.lookup,Sem.run_bind,run_underlying hu,getObj,Sem.run,q1,mr I A K,h2]
       ·rename_i R;have x:=aK (a:=a) hm h.env h.base.glob R;generalize a.eval m'=am at x;cases x
        split at p
        ·cases p;refine ⟨zv,false, ?_,by simpa using J,rfl⟩;simp [Instr.lookup,Sem.run_bind,run_underlying hu,mr I A K,PV I,zeroValue,typeInfo,hi,hzz]
        ·cases p
       ·rename_i l R;have x:=aK (a:=a) hm h.env h.base.glob R;generalize a.eval m'=am at x
        split at p
        ·rename_i es a4
         cases x with
         | mp _ hlt=>
          obtain ⟨_,O,Y,q1,rk,rv,_⟩:=h.base.heap.obj l _ a4;rcases Jg (w:=w) I A K p rk rv with ⟨rfl,h2⟩|⟨v0,j,v,rfl,h2,h3⟩
          ·refine ⟨zv,false, ?_,by simpa using J,rfl⟩;simp [Instr.lookup,Sem.run_bind,run_underlying hu,getObj,Sem.run,q1,mr I A K,h2,zeroValue,typeInfo,hi,hzz]
          ·refine ⟨v,true, ?_,by simpa using h3,rfl⟩;simp [Instr.lookup,Sem.run_bind,run_underlying hu,getObj,Sem.run,q1,mr I A K,h2]
        ·cases p
       ·cases p
      obtain ⟨v,Z,q1,q2,rfl⟩:=a1
      have a3:(execOp a.eval o)=(do pure (Next.value (←Instr.lookup t (a.eval m') (a.eval k') ok))):=by simp only [execOp,a2]
      rw [a3]
      cases ok with
      | true=>
       simp only [if_true] at hr q1;cases hr;refine .val h (aU q1) (.tu _ _ rfl (fun i Q S=>?_))
       match i,Q with
       | 0,_=>exact q2
       | 1,_=>exact .b _
      | false=>
       simp only [Bool.false_eq_true,if_false] at hr q1;cases hr;exact .val h (aU q1) q2
     ·cases hr
    ·cases hr
 ·cases hc
end Go.Ai
namespace Go.Ai
variable {P:Program} {glob:Nat→Option (List AV)} {g:ai} {s:St} {B:Nat} {w:World} {env:Env} {a:Act} {o:Oper} {call:AV→List AV→St→Ctx→CO} {cx:Ctx} {e:EV} {env':Env} {s':St}
theorem cell_lt {w:World} {b o:Nat} {v:Value} (h:w.cell? ⟨b,o,none⟩=some v):b<w.heap.size:=World.block_lt_of_cell? w ⟨b,o,none⟩ h
theorem Imm.fresh (h:Imm g w) {b:Nat} (hb:w.heap.size≤b):nX g b:=by
 refine ⟨fun o=>?_, ?_⟩
 ·cases hm:g.m b o with
  | none=>rfl
  | some v=>have:=cell_lt (h.m b o v hm);omega
 ·cases hm:g.mm b with
  | none=>rfl
  | some es=>
   have:=(h.mm b es hm).lt;omega
theorem Bl {tm:Nat→Value} (h:iT g s.length B w tm env) {k:Nat} {e:EV} (hk:lk env k=some e) (ho:e.owns=true) {b:Nat} (hb:dn (tm k)=some b):b<w.heap.size:=by
 have hr:=h.rel k e hk
 cases e with
 | bx cs=>obtain ⟨b',I,ty,h1,h2,_⟩:=hr;rw [h1] at hb;simp [dn] at hb;subst hb;exact (Array.getElem?_eq_some_iff.1 h2).1
 | own tip t sz es=>
  obtain ⟨xs,h1,_⟩:=hr;rcases h1.2 with ⟨hv,_⟩|⟨gb,cap,A,hv,_,hg,_⟩
  ·rw [hv] at hb;simp [dn] at hb
  ·rw [hv] at hb;simp [dn] at hb;subst hb;exact hg.lt
 | om es=>obtain ⟨b',x,p,h1,h2,_⟩:=hr;rw [h1] at hb;simp [dn] at hb;subst hb;exact (Array.getElem?_eq_some_iff.1 h2).1
 | _=>simp [EV.owns] at ho
structure Grew (qt:Prop) (w w':World):Prop where
 size:w.heap.size≤w'.heap.size
 old:∀b,b<w.heap.size→w'.heap[b]?=w.heap[b]?
 io:w'.os=w.os∧w'.output=w.output∧(qt→TD w w')
theorem Grew.alloc {qt:Prop} (w:World) (o:Obj):Grew qt w (w.alloc o):=⟨by simp,fun b hb=>heap_alloc_old w o b hb,rfl,rfl,fun _=>⟨rfl,Nat.le_refl _⟩⟩
theorem Imm.grew {qt:Prop} {w':World} (h:Imm g w) (hg:Grew qt w w'):Imm g w':=
 ⟨fun b o v hv=>by rw [World.cell?_of_block (hg.old b (cell_lt (h.m b o v hv)))];exact h.m b o v hv,
  fun b es he=>(h.mm b es he).keep (hg.old b (h.mm b es he).lt)⟩
theorem Base.grew {qt:Prop} {w':World} (h:Base P glob g s w) (hg:Grew qt w w'):Base P glob g s w':=
 ⟨h.imm.grew hg,h.heap.next (.refl _ _) (fun _ _=>rfl) hg.size (fun b hb=>⟨hg.old b (h.heap.taken_lt hb),rfl,rfl⟩),h.glob⟩
theorem Sim.grew {w':World} {tm:Nat→Value} (h:Sim P glob g s B w tm env) (hg:Grew True w w'):Sim P glob g s B w' tm env∧Step True g s.length B w g s.length w':=by
 refine ⟨⟨h.base.grew hg,h.env.next (.refl _ _) (fun k e hk ho b hb=>⟨hg.old b (Bl h.env hk ho hb),rfl,rfl,fun ht=>ht⟩),Nat.le_trans h.B hg.size⟩,
  ⟨.refl _ _,hg.size,fun b hb _=>hg.old b (by have:=h.B;omega),fun _ _ _=>rfl,fun _ _=>rfl,fun b hb=>.inl hb,hg.io⟩⟩
theorem Ef {tm:Nat→Value} (h:Sim P glob g s B w tm env) {b:Nat} (hb:w.heap.size≤b):(∀k e',lk env k=some e'→e'.owns=true→dn (tm k)≠some b)∧¬g.taken s.length b:=
 ⟨fun k e' hk ho p=>by have:=Bl h.env hk ho p;omega,fun ht=>by have:=h.base.heap.taken_lt ht;omega⟩
theorem Sim.push {g':ai} {w':World} {tm:Nat→Value} {ob:gq} (h:Sim P glob g s B w tm env) (hg:Grew True w w') (A:g.le s.length g' (s.length+1)) (hh:∀l,l<s.length→g'.hist l=g.hist l)
  (hm:∀b,b<w.heap.size→g'.m b=g.m b∧g'.mm b=g.mm b) (K:∀b,g'.bl s.length b→w.heap.size≤b∧b<w'.heap.size) (S:Imm g' w') (ho:OC P g' (s.length+1) w' s.length ob):
  Step True g s.length B w g' (s++[ob]).length w'∧Sim P glob g' (s++[ob]) B w' tm env:=by
 have hB:=h.B;have x:(s++[ob]).length=s.length+1:=by simp
 have p:∀l,l<s.length→∀b,g'.bl l b→g.bl l b:=by
  intro l hl b J;rcases J with J | ⟨k,v,hk,hv⟩
  ·exact .inl ((A.L l hl).symm.trans J)
  ·rw [hh l hl] at hk;exact .inr ⟨k,v,hk,hv⟩
 have O:∀b,g'.taken (s.length+1) b→g.taken s.length b∨w.heap.size≤b:=by
  rintro b ⟨l,hl,hb⟩;by_cases hls:l<s.length
  ·exact .inl ⟨l,hls,p l hls b hb⟩
  ·have:l=s.length:=by omega
   subst this;exact .inr (K b hb).1
 rw [x];refine ⟨⟨A,hg.size,fun b hb _=>hg.old b (by omega),fun b hb _=>(hm b (by omega)).1,fun b hb=>(hm b (by omega)).2,fun b hb=>?_,hg.io⟩,⟨⟨S,⟨fun l l' b hl R h1 h2=>?_,fun l b hl hb=>?_,fun l o hs=>?_⟩,h.base.glob.mono A⟩, ?_,Nat.le_trans hB hg.size⟩⟩
 ·rcases O b hb with h1|h1
  ·exact .inl h1
  ·exact .inr (by omega)
 ·rw [x] at hl R;by_cases e:l<s.length
  ·by_cases e':l'<s.length
   ·exact h.base.heap.inj l l' b e e' (p l e b h1) (p l' e' b h2)
   ·have:l'=s.length:=by omega
    subst this;have q1:=h.base.heap.lt l b e (p l e b h1);have q2:=(K b h2).1;omega
  ·have:l=s.length:=by omega
   subst this;by_cases e':l'<s.length
   ·have q1:=h.base.heap.lt l' b e' (p l' e' b h2);have q2:=(K b h1).1;omega
   ·omega
 ·rw [x] at hl;by_cases e:l<s.length
  ·exact Nat.lt_of_lt_of_le (h.base.heap.lt l b e (p l e b hb)) hg.size
  ·have:l=s.length:=by omega
   subst this;exact (K b hb).2
 ·rw [x];have hl:l<(s++[ob]).length:=(List.getElem?_eq_some_iff.1 hs).1;rw [x] at hl;by_cases e:l<s.length
  ·rw [List.getElem?_append_left e] at hs;refine (h.base.heap.obj l o hs).next A e (hh l e) (fun b hb=>?_)
   have:=h.base.heap.lt l b e hb
   exact ⟨hg.old b this,(hm b this).1,(hm b this).2⟩
  ·have:l=s.length:=by omega
   subst this;simp at hs;subst hs;exact ho
 ·rw [x];refine h.env.next A (fun k e hk Q b hb=>?_);have I:=Bl h.env hk Q hb;refine ⟨hg.old b I,(hm b I).1,(hm b I).2,fun ht=>?_⟩;rcases O b ht with h1|h1
  ·exact h1
  ·omega
theorem Jf (h:Sim P glob g s B w (Act.tm a) env) {cells:Array Value} {cs:List AV} {ty:TypeId} (hr:aX g s.length cells.toList cs) (h1:fC cells.toList) {x:Sem Next}
  (hx:x.run P w=.ok (.value (.pointer (some ⟨w.heap.size,0,none⟩))) (w.alloc (.cells cells ty))):Good P glob g s B w a x (.bx cs) env s:=by
 obtain ⟨h2,s2⟩:=h.grew (Grew.alloc (qt:=True) w (.cells cells ty));refine ⟨_,_,g,.inl hx,s2,h2,⟨fun d _=>⟨w.heap.size,cells,ty,by rw [upd_same],heap_alloc_new w _,hr,h1,h.base.imm.fresh (Nat.le_refl _),h.B⟩,fun j hj=>by simp [EV.refers] at hj,fun _ b hb=>?_⟩⟩;simp [dn] at hb;subst hb;exact Ef h (Nat.le_refl _)
theorem ac8 {x:IX} (h:Sim P glob g s B w (Act.tm a) env) (hc:aO P o.op (.lbox x)=true) (hr:aop glob call cx env s (.lbox x)=.ok e env' s'):Good P glob g s B w a (execOp a.eval o) e env' s':=by
 simp only [aO] at hc
 split at hc
 ·rename_i t x' p;simp only [aop] at hr
  split at hr
  ·rename_i v env1 he
   split at hr
   ·rename_i h1;cases hr;obtain ⟨g1,s1,m1,r1⟩:=pq hc h he;obtain ⟨q1,q2⟩:=yU r1 h1;refine (Jf (ty:=t) m1 q1 q2 ?_).after (env1:=[]) s1 rfl;simp only [execOp,p];exact aU (by simp [Instr.box,newVar,newRow,Sem.run_bind])
   ·cases hr
  ·cases hr
 ·cases hc
theorem uO {t:TypeId} {zs:List AV} (h:CZ P t zs=true):∃i z,P.info? t=some i∧i.zero=some z∧QI z zs=true:=by
 unfold CZ at h
 cases hi:P.info? t with
 | none=>simp [hi] at h
 | some i=>
  cases hz:i.zero with
  | none=>simp [hi,hz] at h
  | some z=>simp [hi,hz] at h;exact ⟨i,z,rfl,hz,h⟩
theorem sV {z:Value} {zs:List AV} (h:QI z zs=true) (g:ai) (n:Nat):aX g n z.cells.toList zs∧fC z.cells.toList:=by
 simp only [QI,Bool.and_eq_true] at h;exact ⟨AP g n _ _ h.2,fun x hx=>List.all_eq_true.1 h.1 x hx⟩
theorem Ph {zs:List AV} (h:Sim P glob g s B w (Act.tm a) env) (hc:aO P o.op (.lalloc zs)=true) (hr:aop glob call cx env s (.lalloc zs)=.ok e env' s'):Good P glob g s B w a (execOp a.eval o) e env' s':=by
 simp only [aO] at hc
 split at hc
 ·rename_i t p;simp only [aop] at hr;cases hr;obtain ⟨i,z,hi,hz,x⟩:=uO hc;obtain ⟨q1,q2⟩:=sV x g s.length;refine Jf (ty:=t) h q1 q2 ?_;simp only [execOp,p];exact aU (by simp [Instr.alloc,newVar,newRow,Sem.run_bind,zeroValue,typeInfo,hi,hz])
 ·cases hc
def ai.place (g:ai) (l b:Nat):ai:={ g with L:=fun l'=>if l'=l then b else g.L l',hist:=fun l'=>if l'=l then fun _=>none else g.hist l' }
theorem SY (h:Sim P glob g s B w (Act.tm a) env) {ob:Obj} {ho:gq} (p:(∀t sz k,ho≠.row t sz k)∧(∀es,ho≠.map es)∧(∀t sz v cs,ho≠.buf t sz v cs)∧∀es,ho≠.umap es)
  (K:∀cs,ho=.cells cs→∃arr ty,ob=.cells arr ty (0,0)∧aX g s.length arr.toList cs∧fC arr.toList)
  (O:∀env ps asg body pend,ho=.loop env ps asg body pend→∃r,ob=.loop r∧Fj P g s.length r env ps asg body pend)
  (Q:ho=.dfr→ob=.deferred (some [])):
  Step True g s.length B w (g.place s.length w.heap.size) (s++[ho]).length (w.alloc ob)∧Sim P glob (g.place s.length w.heap.size) (s++[ho]) B (w.alloc ob) (Act.tm a) env:=by
 have hg:=Grew.alloc (qt:=True) w ob;have A:g.le s.length (g.place s.length w.heap.size) (s.length+1):=⟨fun _ _ _ h=>h,fun _ _ h=>h,fun l hl=>by simp [ai.place];omega,fun l hl k v hk=>by simp [ai.place];rw [if_neg (by omega)];exact hk,by omega⟩;have x:(g.place s.length w.heap.size).L s.length=w.heap.size:=by simp [ai.place]
 have J:=h.base.imm.fresh (Nat.le_refl w.heap.size);have I:nX (g.place s.length w.heap.size) ((g.place s.length w.heap.size).L s.length):=by rw [x];exact ⟨J.m,J.mm⟩
 refine h.push hg A (fun l hl=>by simp [ai.place];omega) (fun _ _=>⟨rfl,rfl⟩) (fun b hb=>?_) ⟨(h.base.imm.grew hg).m,(h.base.imm.grew hg).mm⟩ ?_
 ·rcases hb with hb|⟨k,v,hk,_⟩
  ·rw [x] at hb;subst hb;simp
  ·simp [ai.place] at hk
 ·cases ho with
  | cells cs=>obtain ⟨arr,ty,rfl,q2,q3⟩:=K cs rfl;exact ⟨I,arr,ty,by rw [x];exact heap_alloc_new w _,q2.mono A,q3⟩
  | loop env ps asg body pend=>obtain ⟨r,rfl,q2⟩:=O env ps asg body pend rfl;exact ⟨I,r,by rw [x];exact heap_alloc_new w _,q2.mono A⟩
  | dfr=>rw [Q rfl];exact ⟨I,by rw [x];exact heap_alloc_new w _⟩
  | dead=>trivial
  | row t sz k=>exact absurd rfl (p.1 t sz k)
  | map es=>exact absurd rfl (p.2.1 es)
  | buf t sz v cs=>exact absurd rfl (p.2.2.1 t sz v cs)
  | umap es=>exact absurd rfl (p.2.2.2 es)
theorem Td (h:Sim P glob g s B w (Act.tm a) env) {cells:Array Value} {cs:List AV} {ty:TypeId} (hr:aX g s.length cells.toList cs) (h1:fC cells.toList) {x:Sem Next}
  (hx:x.run P w=.ok (.value (.pointer (some ⟨w.heap.size,0,none⟩))) (w.alloc (.cells cells ty))):Good P glob g s B w a x (.v (.pt s.length 0)) env (s++[.cells cs]):=by
 obtain ⟨h2,h3⟩:=SY h (ob:=.cells cells ty) (ho:=.cells cs) ⟨(fun _ _ _ hh=>by cases hh),(fun _ hh=>by cases hh),(fun _ _ _ _ hh=>by cases hh),(fun _ hh=>by cases hh)⟩ (fun cs' p=>by cases p;exact ⟨cells,ty,rfl,hr,h1⟩) (fun _ _ _ _ _ hh=>by cases hh) (fun hh=>by cases hh);refine ⟨_,_,_,.inl hx,h2,h3,.v ?_⟩
 have:=Rep.pt (g:=g.place s.length w.heap.size) (n:=(s++[gq.cells cs]).length) s.length 0 (by simp)
 simpa [ai.place] using this
theorem adg {x:IX} (h:Sim P glob g s B w (Act.tm a) env) (hc:aO P o.op (.hbox x)=true) (hr:aop glob call cx env s (.hbox x)=.ok e env' s'):Good P glob g s B w a (execOp a.eval o) e env' s':=by
 simp only [aO] at hc
 split at hc
 ·rename_i t x' p;simp only [aop] at hr
  split at hr
  ·rename_i v env1 he
   split at hr
   ·rename_i h1;cases hr;obtain ⟨g1,s1,m1,r1⟩:=pq hc h he;obtain ⟨q1,q2⟩:=yU r1 h1;refine (Td (ty:=t) m1 q1 q2 ?_).after (env1:=[]) s1 rfl;simp only [execOp,p];exact aU (by simp [Instr.box,newVar,newRow,Sem.run_bind])
   ·cases hr
  ·cases hr
 ·cases hc
theorem YM {zs:List AV} (h:Sim P glob g s B w (Act.tm a) env) (hc:aO P o.op (.halloc zs)=true) (hr:aop glob call cx env s (.halloc zs)=.ok e env' s'):Good P glob g s B w a (execOp a.eval o) e env' s':=by
 simp only [aO] at hc
 split at hc
 ·rename_i t p;simp only [aop] at hr;cases hr;obtain ⟨i,z,hi,hz,x⟩:=uO hc;obtain ⟨q1,q2⟩:=sV x g s.length;refine Td (ty:=t) h q1 q2 ?_;simp only [execOp,p];exact aU (by simp [Instr.alloc,newVar,newRow,Sem.run_bind,zeroValue,typeInfo,hi,hz])
 ·cases hc
end Go.Ai
namespace Go.Ai
variable {P:Program} {glob:Nat→Option (List AV)} {g:ai} {s:St} {B:Nat} {w:World} {env:Env} {a:Act} {o:Oper} {call:AV→List AV→St→Ctx→CO} {cx:Ctx} {e:EV} {env':Env} {s':St}
structure Src (P:Program) (w:World) (sz:Nat) (x:Value) (m:Nat) (news:List Value):Prop where
 len:∀w':World,(Builtin.lenOf x).run P w'=.ok m w'
 cells:∀w':World,w'.heap=w.heap→(Builtin.firstCells sz m x).run P w'=.ok news.toArray w'
 size:news.length=m * sz
 one:fC news
theorem x9 {sz n len cap b o:Nat} {xs:List Value} (hl:xs.length=n * sz) (h:qm w b o xs):(Builtin.firstCells sz n (.slice (some ⟨b,o,none⟩) len cap)).run P w=.ok xs.toArray w:=by
 simp only [Builtin.firstCells];rw [←hl]
 exact run_loadCells_list (P:=P) w ⟨b,o,none⟩ xs (fun j v hv=>by
  rw [Addr.add_lit];obtain ⟨hj,rfl⟩:=List.getElem?_eq_some_iff.1 hv
  exact h j hj)
theorem DI (P:Program) (g o:Nat) (t:TypeId) (fz:Nat×Nat):∀(vs:List Value) (i:Nat) (p:Array Value) (w:World),w.heap[g]?=some (.cells p t fz)→(fz=(0,0)∨p.size≤fz.1)→o+i+vs.length≤p.size→(∀v∈vs,v.oneCell'=true)→
  (storeCells ⟨g,o,none⟩ vs i).run P w=.ok () (w.setRow g (p.toList.take (o+i)++vs++p.toList.drop (o+i+vs.length)).toArray)
 | [],i,p,w,hg,_,_,_=>by
  simp only [storeCells,List.append_nil,List.length_nil,Nat.add_zero,List.take_append_drop,Array.toArray_toList];rw [setRow_self w g p t fz hg];rfl
 | v::rest,i,p,w,hg,hfz,hl,h1=>by
  have hi:o+i<p.size:=by simp at hl;omega
  have J:(⟨g,o,none⟩:Addr).add i=⟨g,o+i,none⟩:=by unfold Addr.add;split<;>simp_all
  have A:w.cell? ⟨g,o+i,none⟩=some p[o+i]:=by simp [World.cell?,hg,hi]
  have I:w.frozen? ⟨g,o+i,none⟩=false:=by
   obtain ⟨lo,O⟩:=fz;simp only [World.frozen?,hg,Bool.and_eq_false_iff,decide_eq_false_iff_not];rcases hfz with hz|hz
   ·cases hz;right;omega
   ·left;simp only at hz;omega
  have K:(store ((⟨g,o,none⟩:Addr).add i) v).run P w=.ok () (w.setRow g (p.setIfInBounds (o+i) v)):=by
   rw [J,run_store P w _ v _ (h1 v (by simp)),A];simp [I,setCell_eq_setRow w g (o+i) p t fz v hg]
  have ih:=DI P g o t fz rest (i+1) (p.setIfInBounds (o+i) v) (w.setRow g (p.setIfInBounds (o+i) v)) (setRow_heap w g p _ t _ hg) (by simpa using hfz) (by simp at hl ⊢;omega) (fun x hx=>h1 x (by simp [hx]));simp only [storeCells,Sem.run_bind,K,Result.andThen_ok,ih,setRow_setRow]
  congr 3
  have e:=list_seg_step p.toList (o+i) v rest (by simp at hl ⊢;omega)
  simpa [Array.toList_setIfInBounds,Nat.add_assoc] using e
theorem X3 {t t' ty el:TypeId} {tip:Bool} {i:TypeInfo} {z:Value} {sz n m:Nat} {xs A:List Value} {v x:Value} {d:TypeDesc} (ht:P.underlying t=some (.slice el)) (S:P.underlying t'=some d)
  (hd:(∃q,d=.slice q)∨d=.string) (hi:P.info? el=some i) (hz:i.zero=some z) (b4:i.size=sz) (b3:z.cells.size=sz) (p:Ja w tip B el sz v n xs) (hx:Src P w sz x m A)
  (b2:n+m≤aS) (b5:i.bytes≤65536) (hB:B≤w.heap.size):
  ∃v' w',(Builtin.append_ #[t,t'] ty #[v,x]).run P w=.ok v' w'∧Ja w' tip B el sz v' (n+m) (xs++A)∧
   ((∃gb cur,dn v=some gb∧dn v'=some gb∧rowT w tip gb cur el∧w'=w.setRow gb (cur.toList.take xs.length++A++cur.toList.drop (xs.length+A.length)).toArray∧xs.length≤cur.size∧B≤gb)∨
    (Grew True w w'∧∀b,dn v'=some b→w.heap.size≤b)):=by
 subst b4;have a2:n+m≤1073741824:=b2;have J:(xs++A).length=(n+m) * i.size:=by rw [List.length_append,p.1,hx.size,Nat.add_mul]
 have K:∀I,I<n+m→¬(281474976710656<Builtin.nextslicecap (n+m) I * i.bytes):=by
  intro I ho;have h1:=nextslicecap_le ho;have h2:Builtin.nextslicecap (n+m) I * i.bytes≤2147483648 * 65536:=Nat.mul_le_mul (by omega) b5;omega
 have Q:∀I,I<n+m→Ja (w.drew.alloc (.cells (xs.toArray++A.toArray++Builtin.zeroCells z.cells (grownCap w (n+m) I el - (n+m))) el)) tip B el i.size
    (.slice (some ⟨w.heap.size,0,none⟩) (n+m) (grownCap w (n+m) I el)) (n+m) (xs++A):=by
  intro I ho;have a6:=grownCap_ge w (n+m) I el;refine ⟨J,.inr ⟨w.heap.size,_,_,rfl,hB,.of (heap_alloc_new w.drew _),a6,grownCap_le_maxLen w _ _ _ (by simp only [maxLen];omega), ?_, ?_⟩⟩
  ·simp only [Array.size_append,List.size_toArray,size_zeroCells,b3];rw [p.1,hx.size,←Nat.add_mul,←Nat.add_mul]
   congr 1;omega
  ·rw [←J];simp only [Array.toList_append];rw [List.take_left'];rfl
 have O:∀ob,Grew True w (w.drew.alloc ob):=fun ob=>⟨show w.heap.size≤(w.heap.push ob).size by simp,fun b hb=>heap_alloc_old w.drew ob b hb,rfl,rfl,fun _=>⟨rfl,Nat.le_succ _⟩⟩;have a1:∀w':World,w'.heap=w.drew.heap→(Builtin.firstCells i.size m x).run P w'=.ok A.toArray w':=fun w' a3=>hx.cells w' a3;rcases p.2 with ⟨rfl,rfl⟩|⟨gb,cap,cur,rfl,hBg,⟨fz,hg,Y⟩,hcap,hmaxl,hsize,htake⟩
 ·have a7:xs=[]:=List.eq_nil_of_length_eq_zero (by rw [p.1];simp);subst a7;by_cases hm:m=0
  ·subst hm;have a5:A=[]:=List.eq_nil_of_length_eq_zero (by rw [hx.size];simp);subst a5;refine ⟨.slice none 0 0,w, ?_,by simpa using p,.inr ⟨⟨Nat.le_refl _,fun _ _=>rfl,rfl,rfl,fun _=>⟨rfl,Nat.le_refl _⟩⟩,fun b hb=>by simp [dn] at hb⟩⟩;have a9:=hx.cells w rfl
   rcases hd with ⟨q,rfl⟩|rfl<;>simp [Builtin.append_,run_underlying ht,run_underlying S,sizeOf,typeInfo,hi,hx.len,a9]
  ·refine ⟨_,_, ?_,Q 0 (by omega),.inr ⟨O _,fun b hb=>by simp [dn] at hb;omega⟩⟩;have R:=K 0 (by omega);simp only [Nat.zero_add] at R ⊢;have W:¬(9223372036854775807<(m:Int)):=by omega
   rcases hd with ⟨q,rfl⟩|rfl<;>(simp [Builtin.append_,run_underlying ht,run_underlying S,sizeOf,typeInfo,zeroValue,hi,hz,hx.len,hm,W,R,Question.forced,run_firstCells_none,a1 w.drew rfl,newRow,grownCap])
 ·have a4:xs.length≤cur.size:=by rw [p.1,hsize];exact Nat.mul_le_mul_right _ hcap
  by_cases hroom:n+m≤cap
  ·have a0:n * i.size+A.length≤cur.size:=by
    rw [hx.size,←Nat.add_mul,hsize];exact Nat.mul_le_mul_right _ hroom
   have Z:=DI P gb (n * i.size) el fz A 0 cur w hg (Y.imp id (·.2)) (by simpa using a0) hx.one;simp only [Nat.add_zero] at Z;refine ⟨.slice (some ⟨gb,0,none⟩) (n+m) cap,w.setRow gb (cur.toList.take (n * i.size)++A++cur.toList.drop (n * i.size+A.length)).toArray, ?_,⟨J,.inr ⟨gb,cap,_,rfl,hBg,⟨fz,jE hg, ?_⟩,hroom,hmaxl, ?_, ?_⟩⟩,.inl ⟨gb,cur,rfl,rfl,⟨fz,hg,Y⟩,by rw [p.1],a4,hBg⟩⟩
   ·rcases hd with ⟨q,rfl⟩|rfl<;>(simp [Builtin.append_,run_underlying ht,run_underlying S,sizeOf,typeInfo,hi,hx.len,hroom,hx.cells w rfl,Addr.add_lit,Z])
   ·rcases Y with hz|⟨hz,b1⟩
    ·exact .inl hz
    ·refine .inr ⟨hz,Nat.le_trans ?_ b1⟩
     simp;omega
   ·simp;omega
   ·rw [←J,List.length_append,p.1];simp only [List.toList_toArray];rw [←htake];rw [List.take_append_of_le_length (by simp;omega),List.take_of_length_le (by simp;omega)]
  ·refine ⟨_,_, ?_,Q cap (by omega),.inr ⟨O _,fun b hb=>by simp [dn] at hb;omega⟩⟩;have R:=K cap (by omega);have W:¬(9223372036854775807<((n:Int)+(m:Int))):=by omega
   have b0:qm w gb 0 xs:=by rw [←htake];exact (rU hg).take _
   have a8:(Builtin.firstCells i.size n (.slice (some ⟨gb,0,none⟩) n cap)).run P w.drew=.ok xs.toArray w.drew:=x9 p.1 b0
   rcases hd with ⟨q,rfl⟩|rfl<;>(simp [Builtin.append_,run_underlying ht,run_underlying S,sizeOf,typeInfo,zeroValue,hi,hz,hx.len,hroom,W,R,Question.forced,a8,a1 w.drew rfl,newRow,grownCap])<;>(congr 2;apply Array.ext';simp [List.append_assoc])
theorem Qs {t t' ty el:TypeId} {i:TypeInfo} {z:Value} {sz n m:Nat} {xs Q:List Value} {v x:Value} {d:TypeDesc} (ht:P.underlying t=some (.slice el)) (I:P.underlying t'=some d)
  (hd:(∃q,d=.slice q)∨d=.string) (hi:P.info? el=some i) (hz:i.zero=some z) (K:i.size=sz) (J:z.cells.size=sz) (A:w.ownsRow B el sz v n xs) (hx:Src P w sz x m Q)
  (p:n+m≤aS) (O:i.bytes≤65536) (hB:B≤w.heap.size):
  ∃v' w',(Builtin.append_ #[t,t'] ty #[v,x]).run P w=.ok v' w'∧w'.ownsRow B el sz v' (n+m) (xs++Q)∧
   ((∃gb cur,dn v=some gb∧dn v'=some gb∧w.heap[gb]?=some (.cells cur el (0,0))∧w'=w.setRow gb (cur.toList.take xs.length++Q++cur.toList.drop (xs.length+Q.length)).toArray∧xs.length≤cur.size∧B≤gb)∨
    (Grew True w w'∧∀b,dn v'=some b→w.heap.size≤b)):=by
 obtain ⟨v',w',h1,h2,h3⟩:=X3 (tip:=false) ht I hd hi hz K J (Rz A) hx p O hB;refine ⟨v',w',h1,h2.z, ?_⟩;rcases h3 with ⟨gb,cur,e1,e2,e3,e4,e5,e6⟩|h3
 ·exact .inl ⟨gb,cur,e1,e2,e3.z,e4,e5,e6⟩
 ·exact .inr h3
theorem ahT {t t' ty el:TypeId} {sz:Nat} {d:TypeDesc} (b2:sliceOf P t el sz=true) (e0:P.underlying t'=some d) (hd:(∃q,d=.slice q)∨d=.string)
  (b3:(P.info? el).any (fun i=>i.bytes≤65536 && i.zero.any fun z=>z.cells.size == sz)=true) (h:Sim P glob g s B w (Act.tm a) env) {k:Nat} {tip:Bool} {es ys:List AV}
  (hk:lk env k=some (.own tip el sz es)) {x:Value} {p:List Value} (hx:Src P w sz x ys.length p) (hr:aX g s.length p (ys.flatMap AV.cells)) (d9:∀y∈ys,y.cells.length=sz)
  (d5:es.length+ys.length≤aS) {q:Sem Next} (hq:∀{v' w'},(Builtin.append_ #[t,t'] ty #[Act.tm a k,x]).run P w=.ok v' w'→q.run P w=.ok (.value v') w'):
  Good P glob g s B w a q (.own tip el sz (es++ys)) ((k,.v .u)::tC env k) s:=by
 unfold sliceOf at b2
 split at b2
 ·rename_i e4 hu;simp only [Bool.and_eq_true,beq_iff_eq] at b2;obtain ⟨d1,d0⟩:=b2;rw [d1] at hu;obtain ⟨i,hi,c5⟩:=pI d0;rw [hi] at b3;simp only [Option.any_some,Bool.and_eq_true,decide_eq_true_eq] at b3;obtain ⟨d2,b8⟩:=b3
  cases hz:i.zero with
  | none=>simp [hz] at b8
  | some z=>
   simp [hz] at b8;obtain ⟨xs,q1,q2,q3,q4,q5,q6⟩:=h.env.rel k _ hk;obtain ⟨v',w',r1,r2,r3⟩:=X3 (ty:=ty) hu e0 hd hi hz c5 b8 q1 hx d5 d2 h.B;have Z:aX g s.length (xs++p) ((es++ys).flatMap AV.cells):=by rw [List.flatMap_append];exact q2.append hr
   have a4:fC (xs++p):=fun u hu=>(List.mem_append.1 hu).elim (q3 u) (hx.one u);have a5:∀y∈es++ys,y.cells.length=sz:=fun y hy=>(List.mem_append.1 hy).elim (q4 y) (d9 y);have a7:(es++ys).length=es.length+ys.length:=List.length_append;rcases r3 with ⟨gb,J,e1,e2,d4,rfl,e5,e6⟩|⟨c0,b0⟩
   ·obtain ⟨p1,p2,p3⟩:=q6 gb e1;obtain ⟨fz,e3,d8⟩:=id d4
    -- in place: the claims are extended if the slice's elements are fixed
    have c2:∀j,j<xs.length→J[j]?=xs[j]?:=by
     intro j hj;rcases q1.2 with ⟨hv,_⟩|⟨c9,cap,d6,hv,_,a2,_,_,_,a0⟩
     ·rw [hv] at e1;simp [dn] at e1
     ·rw [hv] at e1;simp [dn] at e1;subst e1;obtain ⟨d7,a2,_⟩:=a2;rw [e3] at a2;cases a2;rw [←a0,List.getElem?_take,if_pos (by rw [←q1.1];exact hj)];simp
    have b4:∀j,j<xs.length→(J.toList.take xs.length++p++J.toList.drop (xs.length+p.length)).toArray[j]?=J[j]?:=by
     intro j hj;simp only [List.getElem?_toArray];rw [List.append_assoc,List.getElem?_append_left (by simp;omega),List.getElem?_take,if_pos hj];simp
    let g':ai:=if tip then g.claim gb (xs++p) else g
    have a3:=h.env.off k _ hk rfl gb e1
    have Q:∀b,b≠gb→g'.m b=g.m b:=by
     intro b hb;funext j
     cases tip<;>simp [g',ai.claim,hb]
    have c1:g'.L=g.L:=by cases tip<;>rfl
    have a6:g'.hist=g.hist:=by cases tip<;>rfl
    have a1:∀b,g'.taken s.length b→g.taken s.length b:=by intro b hb;cases tip<;>exact hb
    have I:g'.mm=g.mm:=by cases tip<;>rfl
    have S:g.le s.length g' s.length:=by
     refine ⟨fun b o v hm=>?_,fun b es hm=>by rw [I];exact hm,fun l _=>by rw [c1],fun l _ k v hk=>by rw [a6];exact hk,Nat.le_refl _⟩;by_cases hb:b=gb
     ·subst hb;by_cases ho:o<xs.length
      ·rw [p3 o ho] at hm
       cases tip with
       | false=>simp at hm
       | true=>
        simp at hm;simp only [g',if_true,ai.claim,true_and];rw [if_pos (by simp;omega),List.getElem?_append_left ho,List.getElem?_eq_getElem ho,hm]
      ·rw [p2 o (by omega)] at hm;cases hm
     ·rw [Q b hb];exact hm
    have K:Base P glob g s (w.setRow gb (J.toList.take xs.length++p++J.toList.drop (xs.length+p.length)).toArray):=by
     refine h.base.setRow e3 a3 (fun o v hv=>?_) p1;by_cases ho:o<xs.length
     ·exact b4 o ho
     ·rw [p2 o (by omega)] at hv;cases hv
    have b5:(w.setRow gb (J.toList.take xs.length++p++J.toList.drop (xs.length+p.length)).toArray).heap[gb]?=some (.cells (J.toList.take xs.length++p++J.toList.drop (xs.length+p.length)).toArray el fz):=jE e3
    have b9:∀j (hj:j<(xs++p).length),(J.toList.take xs.length++p++J.toList.drop (xs.length+p.length)).toArray[j]?=some (xs++p)[j]:=by
     intro j hj;by_cases hjx:j<xs.length
     ·rw [b4 j hjx,c2 j hjx,List.getElem?_eq_getElem hjx,List.getElem_append_left hjx]
     ·simp only [List.getElem?_toArray];rw [List.append_assoc,List.getElem?_append_right (by simp;omega)];simp only [List.length_take,Array.length_toList,Nat.min_eq_left e5];simp at hj;rw [List.getElem?_append_left (by omega),List.getElem?_eq_getElem (by omega),List.getElem_append_right (by omega)]
    have b6:Imm g' (w.setRow gb (J.toList.take xs.length++p++J.toList.drop (xs.length+p.length)).toArray):=by
     refine ⟨fun b o v hm=>?_,by rw [I];exact K.imm.mm⟩;by_cases hb:b=gb
     ·subst hb
      cases tip with
      | false=>exact K.imm.m b o v hm
      | true=>
       simp only [g',if_true,ai.claim,true_and] at hm
       split at hm
       ·rename_i ho;rw [cell_of_row _ b o _ el fz b5,b9 o ho];rw [List.getElem?_eq_getElem ho] at hm;exact hm
       ·exact K.imm.m b o v hm
     ·rw [Q b hb] at hm;exact K.imm.m b o v hm
    refine ⟨v',_,g',.inl (hq r1),⟨S,by simp,fun b hb _=>aW _ (by omega),fun b hb _=>Q b (by omega),fun b _=>by rw [I],fun b hb=>.inl (a1 b hb),rfl,rfl,fun _=>⟨rfl,Nat.le_refl _⟩⟩,
     ⟨K.fix S b6 a6 (fun b hb=>⟨Q b (fun W=>a3 (by subst W;exact hb)),by rw [I]⟩),h.env.dropNext k S (fun k' x A a8 R b hb=>⟨aW _ (fun W=>?_),Q b (fun W=>?_),by rw [I],a1 b⟩),by simpa using h.B⟩,
     ⟨fun dd _=>⟨xs++p, ?_,Z.mono S,a4,a5,q5,fun b hb=>?_⟩,fun j hj=>by simp [EV.refers] at hj,fun _ b hb=>⟨fun k' e' A Y O=>?_,fun hl=>?_⟩⟩⟩
    ·subst W;exact h.env.apart k' k x _ A hk a8 rfl R b hb e1
    ·subst W;exact h.env.apart k' k x _ A hk a8 rfl R b hb e1
    ·rw [upd_same,a7];exact r2
    ·rw [upd_same,e2] at hb;cases hb;refine ⟨by rw [I];exact p1,fun j hj=>?_,fun j hj=>?_⟩
     ·have c4:xs.length≤j:=by simp at hj;omega
      cases tip with
      | false=>exact p2 j c4
      | true=>
       simp only [g',if_true,ai.claim,true_and];rw [if_neg (by omega)];exact p2 j c4
     ·cases tip with
      | false=>
       show g.m gb j=none;by_cases hjx:j<xs.length
       ·simpa using p3 j hjx
       ·exact p2 j (by omega)
      | true=>
       simp only [g',if_true,ai.claim,true_and];rw [if_pos hj,List.getElem?_eq_getElem hj]
    ·rw [e2] at hb;cases hb
     have R:k'≠k:=fun b7=>by
      subst b7;rw [kY] at A;cases A;simp [EV.owns] at Y
     rw [gJ _ _ (Ne.symm R),wG] at A
     cases hy:lk env k' with
     | none=>rw [hy] at A;simp at A
     | some y=>
      rw [hy] at A;simp only [Option.map_some,Option.some.injEq] at A
      split at A
      ·subst A;simp [EV.owns] at Y
      ·subst A;exact h.env.apart k' k y _ hy hk Y rfl R gb O e1
    ·rw [e2] at hb;cases hb;exact a3 (a1 _ hl)
   ·obtain ⟨h2,s2⟩:=h.grew c0
    -- a new block: it is claimed if the elements are fixed
    cases O:dn v' with
    | none=>
     refine ⟨v',w',g,.inl (hq r1),s2,⟨h2.base,h2.env.dropNext k (.refl _ _) (fun k' x A a8 R b hb=>⟨rfl,rfl,rfl,fun ht=>ht⟩),h2.B⟩,
      ⟨fun dd _=>⟨xs++p,by rw [upd_same,a7];exact r2,Z,a4,a5,q5,fun b hb=>by rw [upd_same,O] at hb;cases hb⟩,fun j hj=>by simp [EV.refers] at hj,fun _ b hb=>by rw [O] at hb;cases hb⟩⟩
    | some nb=>
     have c6:=b0 nb O;have a9:=h.base.imm.fresh c6
     let g':ai:=if tip then g.claim nb (xs++p) else g
     have Q:∀b,b≠nb→g'.m b=g.m b:=by
      intro b hb;funext j
      cases tip<;>simp [g',ai.claim,hb]
     have c1:g'.L=g.L:=by cases tip<;>rfl
     have a6:g'.hist=g.hist:=by cases tip<;>rfl
     have a1:∀b,g'.taken s.length b→g.taken s.length b:=by intro b hb;cases tip<;>exact hb
     have I:g'.mm=g.mm:=by cases tip<;>rfl
     have S:g.le s.length g' s.length:=by
      refine ⟨fun b o v hm=>?_,fun b es hm=>by rw [I];exact hm,fun l _=>by rw [c1],fun l _ k v hk=>by rw [a6];exact hk,Nat.le_refl _⟩;by_cases hb:b=nb
      ·subst hb;rw [a9.m o] at hm;cases hm
      ·rw [Q b hb];exact hm
     have c3:∃J,rowT w' tip nb J el∧∀j (hj:j<(xs++p).length),J[j]?=some (xs++p)[j]:=by
      rcases r2.2 with ⟨hv,_⟩|⟨c9,cap,J,hv,_,a2,_,_,_,a0⟩
      ·rw [hv] at O;simp [dn] at O
      ·rw [hv] at O;simp [dn] at O;subst O;refine ⟨J,a2,fun j hj=>?_⟩
       have:=List.getElem?_eq_getElem hj
       rw [←this];rw [←a0,List.getElem?_take,if_pos (by rw [←r2.1];exact hj)];simp
     obtain ⟨J,c8,c7⟩:=c3
     have b6:Imm g' w':=by
      refine ⟨fun b o v hm=>?_,by rw [I];exact h2.base.imm.mm⟩;by_cases hb:b=nb
      ·subst hb
       cases tip with
       | false=>exact h2.base.imm.m b o v hm
       | true=>
        simp only [g',if_true,ai.claim,true_and] at hm
        split at hm
        ·rename_i ho;rw [c8.cell o,c7 o ho];rw [List.getElem?_eq_getElem ho] at hm;exact hm
        ·exact h2.base.imm.m b o v hm
      ·rw [Q b hb] at hm;exact h2.base.imm.m b o v hm
     have b1:=Ef h c6
     refine ⟨v',w',g',.inl (hq r1),s2.trans ⟨S,Nat.le_refl _,fun _ _ _=>rfl,fun b hb _=>Q b (by have:=h.B;omega),fun b _=>by rw [I],fun b hb=>.inl (a1 b hb),rfl,rfl,fun _=>⟨rfl,Nat.le_refl _⟩⟩,
      ⟨h2.base.fix S b6 a6 (fun b hb=>⟨Q b (fun W=>b1.2 (by subst W;exact hb)),by rw [I]⟩),h2.env.dropNext k S (fun k' x A a8 R b hb=>⟨rfl,Q b (fun W=>?_),by rw [I],a1 b⟩),h2.B⟩,
      ⟨fun dd _=>⟨xs++p,by rw [upd_same,a7];exact r2,Z.mono S,a4,a5,q5,fun b hb=>?_⟩,fun j hj=>by simp [EV.refers] at hj,fun _ b hb=>⟨fun k' e' A Y d3=>?_,fun hl=>?_⟩⟩⟩
     ·subst W;exact b1.1 k' x A a8 hb
     ·rw [upd_same,O] at hb;cases hb;refine ⟨by rw [I];exact a9.mm,fun j hj=>?_,fun j hj=>?_⟩
      ·cases tip with
       | false=>exact a9.m j
       | true=>
        simp only [g',if_true,ai.claim,true_and];rw [if_neg (by omega)];exact a9.m j
      ·cases tip with
       | false=>exact a9.m j
       | true=>
        simp only [g',if_true,ai.claim,true_and];rw [if_pos hj,List.getElem?_eq_getElem hj]
     ·rw [O] at hb;cases hb
      have R:k'≠k:=fun b7=>by
       subst b7;rw [kY] at A;cases A;simp [EV.owns] at Y
      rw [gJ _ _ (Ne.symm R),wG] at A
      cases hy:lk env k' with
      | none=>rw [hy] at A;simp at A
      | some y=>
       rw [hy] at A;simp only [Option.map_some,Option.some.injEq] at A
       split at A
       ·subst A;simp [EV.owns] at Y
       ·subst A;exact b1.1 k' y hy Y d3
     ·rw [O] at hb;cases hb;exact b1.2 (a1 _ hl)
 ·cases b2
end Go.Ai
