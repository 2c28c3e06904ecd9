/-
 Stores.
-/
import Derived.Test.YtcofenimejmoeaaGreatDoorAiA1
import Derived.Laws.Concat
import Derived.Laws.Strings2
import Derived.Laws.BytesString
import Derived.Laws.StructEq
set_option maxRecDepth 100000
set_option linter.unusedSimpArgs false
set_option linter.unusedVariables false
set_option linter.unusedSectionVars false
namespace Go.Ai
theorem jA {w:World} {b:Nat} {cur new:Array Value} {t:TypeId} {fr:Nat×Nat} (h:w.heap[b]?=some (.cells cur t fr)):(w.setRow b new).heap[b]?=some (.cells new t fr):=setRow_heap w b cur new t fr h
theorem aV {w:World} {b c:Nat} (new:Array Value) (h:c≠b):(w.setRow b new).heap[c]?=w.heap[c]?:=by
 simp [World.setRow,Array.getElem?_modify,Ne.symm h]
theorem yw {g:ai} {n:Nat} {u:Value} {v:AV} (h:Rep g n u v) (h1:v.cells.all AV.one=true):aW g n u.cells.toList v.cells∧fD u.cells.toList:=by
 have single:∀{u:Value} {v:AV},Rep g n u v→v.one=true→u.cells=#[u]∧u.oneCell'=true:=by
  intro u v h h1
  cases h<;>first | (simp [AV.one] at h1;done)|exact ⟨rfl,rfl⟩ | (rename_i hr;cases hr<;>exact ⟨rfl,rfl⟩)
 cases hv:v with
 | ag cs=>
  subst hv
  cases h with
  | ag vs _ hl ho hr=>
   show aW g n vs.toList cs∧fD vs.toList;refine ⟨⟨by simpa using hl,fun i hi hi'=>?_⟩,fun x hx=>?_⟩
   ·have:=hr i (by simpa using hi) hi'
    rwa [Array.getElem_toList]
   ·simp at hx;obtain ⟨i,hi,rfl⟩:=Array.mem_iff_getElem.1 hx;exact ho i hi
 | _=>
  all_goals
   subst hv;have hs:=single h (by simpa [AV.cells] using h1);rw [hs.1];exact ⟨by simpa [AV.cells] using aW.cons h (.nil g n),fun x hx=>by simp at hx;subst hx;exact hs.2⟩
theorem wR {g:ai} {n:Nat} {us new:List Value} {cs cnew:List AV} (h:aW g n us cs) (h':aW g n new cnew) (o:Nat):
  aW g n (us.take o++new++us.drop (o+new.length)) (splice cs o cnew):=by
 unfold splice;rw [h'.1];exact ((h.take o).append h').append (h.drop _)
theorem sW {us new:List Value} (h:fD us) (h':fD new) (o k:Nat):fD (us.take o++new++us.drop k):=by
 intro v hv;simp only [List.mem_append] at hv;rcases hv with (hv|hv)|hv
 ·exact h v (List.mem_of_mem_take hv)
 ·exact h' v hv
 ·exact h v (List.mem_of_mem_drop hv)
variable {P:Program} {glob:Nat→Option (List AV)} {g:ai} {s:St} {B:Nat} {w:World} {env:Env} {a:Act}
theorem Bd {t:TypeId} {n:Nat} (hsz:pK P t n=true) {b o:Nat} {cur:Array Value} {ty:TypeId} {v:Value} (hn:v.cells.size=n) (h1:fD v.cells.toList)
  (hg:w.heap[b]?=some (.cells cur ty (0,0))) (hfit:o+n≤cur.size):
  (Instr.storeAt t (.pointer (some ⟨b,o,none⟩)) v).run P w=.ok () (w.setRow b (cur.toList.take o++v.cells.toList++cur.toList.drop (o+v.cells.toList.length)).toArray):=by
 have hst:=run_storeCells_at P b o ty v.cells.toList 0 cur w hg (by simpa [hn] using hfit) h1;simp only [Nat.add_zero] at hst;simp [Instr.storeAt,Instr.sureAddr,storeVar,Sem.run_bind,run_sizeOf hsz w,hn,hst]
theorem Base.setRow (h:Base P glob g s w) {b:Nat} {cur new:Array Value} {ty:TypeId} {fz:Nat×Nat} (hg:w.heap[b]?=some (.cells cur ty fz)) (hb:¬g.taken s.length b)
  (hm:∀o v,g.m b o=some v→new[o]?=cur[o]?) (hmm:g.mm b=none):Base P glob g s (w.setRow b new):=by
 refine ⟨⟨fun c o v hv=>?_,fun c es hc=>?_⟩,h.heap.next (.refl _ _) (fun _ _=>rfl) (by simp) (fun c hc=>⟨aV new (fun hcb=>by subst hcb;exact hb hc),rfl,rfl⟩),h.glob⟩
 ·by_cases hcb:c=b
  ·subst hcb;rw [cell_of_row _ c o new ty fz (jA hg),hm o v hv,←cell_of_row w c o cur ty fz hg];exact h.imm.m c o v hv
  ·rw [World.cell?_of_block (aV new hcb)];exact h.imm.m c o v hv
 ·have hcb:c≠b:=fun hcb=>by subst hcb;rw [hmm] at hc;cases hc
  exact (h.imm.mm c es hc).keep (aV new hcb)
theorem Nq {n b:Nat} {w:World} (new:Array Value) (hb:B≤b):Step True g n B w g n (w.setRow b new):=
 ⟨.refl _ _,by simp,fun c hc _=>aV new (by omega),fun _ _ _=>rfl,fun _ _=>rfl,fun b hb=>.inl hb,rfl,rfl,fun _=>⟨rfl,Nat.le_refl _⟩⟩
theorem V3 {t:TypeId} {n:Nat} (hsz:pK P t n=true) {tm:Nat→Value} (h:Sim P glob g s B w tm env) {k o:Nat} {cs:List AV} (hk:lk env k=some (.bx cs)) {b:Nat} (hb:tm k=.pointer (some ⟨b,0,none⟩))
  {u:Value} {v:AV} (hr:Rep g s.length u v) (hn:v.cells.length=n) (h1:v.cells.all AV.one=true) (hfit:o+n≤cs.length):
  ∃w',(Instr.storeAt t (.pointer (some ⟨b,o,none⟩)) u).run P w=.ok () w'∧Step True g s.length B w g s.length w'∧Sim P glob g s B w' tm ((k,.bx (splice cs o v.cells))::env):=by
 obtain ⟨b',arr,ty,q1,q2,q3,q4,q5,q6⟩:=h.env.rel k _ hk;rw [hb] at q1;simp only [Value.pointer.injEq,Option.some.injEq,Addr.mk.injEq] at q1;obtain ⟨rfl,_⟩:=q1;obtain ⟨r1,r2⟩:=yw hr h1;have hlen:arr.size=cs.length:=by simpa using q3.1
 have hus:u.cells.size=n:=by have:=r1.1;simp at this;omega
 have hblk:dw (tm k)=some b:=by rw [hb];rfl
 refine ⟨_,Bd hsz hus r2 q2 (by omega),Nq _ q6,⟨h.base.setRow q2 (h.env.off k _ hk rfl b hblk) (fun o' v' hv'=>by rw [q5.m o'] at hv';cases hv') q5.mm, ?_,by simpa using h.B⟩⟩;refine h.env.turnNext k _ _ hk rfl rfl (.refl _ _) ⟨b,_,ty,hb,jA q2, ?_, ?_,q5,q6⟩ (fun k' x hk' hx hne c hc=>⟨aV _ (fun hcb=>?_),rfl,rfl⟩) (fun k' x hk' hx c hc ht=>ht)
 ·simpa using wR q3 r1 o
 ·simpa using sW q4 r2 o _
 ·subst hcb;exact h.env.apart k' k x _ hk' hk hx rfl hne c hc hblk
theorem RY {e:AV} {o:Nat} {new:List AV} (hfit:o+new.length≤e.cells.length) (hne:new≠[]) (h1:new.all AV.one=true):(DC e o new).cells=splice e.cells o new:=by
 cases he:e with
 | ag cs=>simp [DC,AV.cells]
 | _=>
  all_goals
   subst he;simp only [AV.cells,List.length_singleton] at hfit
   match new,hne with
   | [x],_=>
    have:o=0:=by simp at hfit;omega
    subst this;simp only [DC,AV.cells,splice,List.headD_cons];simp only [List.all_cons,List.all_nil,Bool.and_true] at h1
    cases x<;>simp_all [AV.one]
   | x::y::r,_=>simp at hfit;omega
theorem aec {es:List AV} {sz:Nat} (h:∀a∈es,a.cells.length=sz) {e':AV} (he:e'.cells.length=sz):∀i (_:i<es.length),(es.set i e').flatMap AV.cells=splice (es.flatMap AV.cells) (i * sz) e'.cells:=by
 induction es with
 | nil=>intro i hi;simp at hi
 | cons e es ih=>
  intro i hi;have h0:e.cells.length=sz:=h e (by simp)
  cases i with
  | zero=>simp [splice,he,←h0]
  | succ i=>
   simp only [List.set_cons_succ,List.flatMap_cons];rw [ih (fun a ha=>h a (by simp [ha])) i (by simpa using hi)];unfold splice;have e1:(i+1) * sz=e.cells.length+i * sz:=by rw [h0,Nat.succ_mul];omega
   rw [e1,List.take_length_add_append,Nat.add_assoc,List.drop_length_add_append];simp [List.append_assoc]
theorem RX {cs:List AV} {i sz o:Nat} {new:List AV} (hfit:o+new.length≤sz) (hi:i+sz≤cs.length):splice cs i (splice ((cs.drop i).take sz) o new)=splice cs (i+o) new:=by
 unfold splice;apply List.ext_getElem?;intro j;simp only [List.getElem?_append,List.length_append,List.length_take,List.length_drop,List.getElem?_take,List.getElem?_drop];by_cases h1:j<i
 ·simp only [show j<min i cs.length by omega,show j<min (i+o) cs.length by omega,show j<min i cs.length+(min o (min sz (cs.length - i))+new.length+(min sz (cs.length - i) - (o+new.length))) by omega,show j<min (i+o) cs.length+new.length by omega,show j<i+o by omega,h1,if_true]
 ·by_cases h2:j<i+o
  ·simp only [show ¬j<min i cs.length by omega,show j<min (i+o) cs.length by omega,show j<min i cs.length+(min o (min sz (cs.length - i))+new.length+(min sz (cs.length - i) - (o+new.length))) by omega,show j<min (i+o) cs.length+new.length by omega,h2,if_true,if_false,show j - min i cs.length<min o (min sz (cs.length - i))+new.length by omega,show j - min i cs.length<min o (min sz (cs.length - i)) by omega,show j - min i cs.length<o by omega,show j - min i cs.length<sz by omega]
   congr 1;omega
  ·by_cases h3:j<i+o+new.length
   ·simp only [show ¬j<min i cs.length by omega,show ¬j<min (i+o) cs.length by omega,show j<min i cs.length+(min o (min sz (cs.length - i))+new.length+(min sz (cs.length - i) - (o+new.length))) by omega,show j<min (i+o) cs.length+new.length by omega,if_true,if_false,show j - min i cs.length<min o (min sz (cs.length - i))+new.length by omega,show ¬j - min i cs.length<min o (min sz (cs.length - i)) by omega]
    congr 1;omega
   ·by_cases h4:j<i+sz
    ·simp only [show ¬j<min i cs.length by omega,show ¬j<min (i+o) cs.length by omega,show j<min i cs.length+(min o (min sz (cs.length - i))+new.length+(min sz (cs.length - i) - (o+new.length))) by omega,show ¬j<min (i+o) cs.length+new.length by omega,if_true,if_false,show ¬j - min i cs.length<min o (min sz (cs.length - i))+new.length by omega];rw [if_pos (by omega)]
     congr 1;omega
    ·simp only [show ¬j<min i cs.length+(min o (min sz (cs.length - i))+new.length+(min sz (cs.length - i) - (o+new.length))) by omega,show ¬j<min (i+o) cs.length+new.length by omega,if_false]
     congr 1;omega
theorem aaF {t:TypeId} {n:Nat} (hsz:pK P t n=true) {tm:Nat→Value} (h:Sim P glob g s B w tm env) {k i o:Nat} {ty sz:Nat} {es:List AV} (hk:lk env k=some (.own false ty sz es)) {b len cap:Nat}
  (hb:tm k=.slice (some ⟨b,0,none⟩) len cap) {e:AV} (he:es[i]?=some e)
  {u:Value} {v:AV} (hr:Rep g s.length u v) (hn:v.cells.length=n) (h1:v.cells.all AV.one=true) (hn0:n≠0) (hfit:o+n≤e.cells.length):
  ∃w',(Instr.storeAt t (.pointer (some ⟨b,i * sz+o,none⟩)) u).run P w=.ok () w'∧Step True g s.length B w g s.length w'∧
   Sim P glob g s B w' tm ((k,.own false ty sz (es.set i (DC e o v.cells)))::env):=by
 obtain ⟨xs,q1,q2,q3,q4,q5,q6⟩:=h.env.rel k _ hk;obtain ⟨r1,r2⟩:=yw hr h1;obtain ⟨hi,hei⟩:=List.getElem?_eq_some_iff.1 he;have hesz:e.cells.length=sz:=by rw [←hei];exact q4 _ (List.getElem_mem hi)
 rcases q1.2 with ⟨hnil,_⟩|⟨gb,cap',cur,hv',hB,hgT,hcap,hmax,hsize,htake⟩
 ·rw [hb] at hnil;cases hnil
 ·have hg:=hgT.z;have hv2:=hv';rw [hb] at hv';simp only [Value.slice.injEq,Option.some.injEq,Addr.mk.injEq] at hv';obtain ⟨⟨rfl,_⟩,_,rfl⟩:=hv';have hblk:dw (tm k)=some b:=by rw [hb];rfl
  obtain ⟨p1,p2,p3⟩:=q6 b hblk
  have hnc:∀j,g.m b j=none:=fun j=>by
   by_cases hj:j<xs.length
   ·simpa using p3 j hj
   ·exact p2 j (by omega)
  have hus:u.cells.size=n:=by have:=r1.1;simp at this;omega
  have hxl:xs.length=es.length * sz:=q1.1
  have hlt:i * sz+sz≤es.length * sz:=by
   have:=Nat.mul_le_mul_right sz (show i+1≤es.length from hi)
   rw [Nat.succ_mul] at this;exact this
  have hcs:es.length * sz≤cur.size:=by rw [hsize];exact Nat.mul_le_mul_right sz hcap
  have hcl:u.cells.toList.length=n:=by simpa using hus
  refine ⟨_,Bd hsz hus r2 hg (by omega),Nq _ hB,⟨h.base.setRow hg (h.env.off k _ hk rfl b hblk) (fun o' v' hv'=>by rw [hnc o'] at hv';cases hv') p1, ?_,by simpa using h.B⟩⟩;refine h.env.turnNext k _ _ hk rfl rfl (.refl _ _) ?_ (fun k' x hk' hx hne c hc=>⟨aV _ (fun hcb=>?_),rfl,rfl⟩) (fun k' x hk' hx c hc ht=>ht)
  ·have hce:=RY (e:=e) (o:=o) (new:=v.cells) (by omega) (fun hx=>by rw [hx] at hn;simp at hn;omega) h1;have hcl2:(DC e o v.cells).cells.length=sz:=by rw [hce];simp [splice];omega
   have hel:(es.flatMap AV.cells).length=es.length * sz:=xE q4
   have he2:((es.flatMap AV.cells).drop (i * sz)).take sz=e.cells:=by
    apply List.ext_getElem?;intro j;by_cases hj:j<sz
    ·rw [List.getElem?_take_of_lt hj,List.getElem?_drop,←hei];exact flat_get q4 i hi j hj
    ·rw [List.getElem?_eq_none (by simp;omega),List.getElem?_eq_none (by omega)]
   have hfs:(es.set i (DC e o v.cells)).flatMap AV.cells=splice (es.flatMap AV.cells) (i * sz+o) v.cells:=by
    rw [aec q4 hcl2 i hi,hce,←he2,RX (by omega) (by omega)]
   have hxs:(cur.toList.take (i * sz+o)++u.cells.toList++cur.toList.drop (i * sz+o+u.cells.toList.length)).take (es.length * sz)=xs.take (i * sz+o)++u.cells.toList++xs.drop (i * sz+o+u.cells.toList.length):=by
    rw [←htake,hcl];rw [List.take_append,List.take_append,List.take_take,List.take_take];simp only [List.length_append,List.length_take,Array.length_toList,hcl];rw [show min (es.length * sz) (i * sz+o)=min (i * sz+o) (es.length * sz) by omega]
    congr 1
    ·congr 1
     rw [List.take_of_length_le (by omega)]
    ·rw [List.drop_take]
     congr 1
     omega
   refine ⟨xs.take (i * sz+o)++u.cells.toList++xs.drop (i * sz+o+u.cells.toList.length),⟨?_,.inr ⟨b,cap,_, ?_,hB,.of (jA hg), ?_,hmax, ?_, ?_⟩⟩, ?_,sW q3 r2 _ _, ?_,q5,fun c hc=>?_⟩
   ·simp [hcl];omega
   ·simp;exact hv2
   ·simpa using hcap
   ·simp [hcl];omega
   ·simpa using hxs
   ·rw [hfs];exact wR q2 r1 _
   ·intro x hx;rcases List.mem_or_eq_of_mem_set hx with hx|rfl
    ·exact q4 x hx
    ·exact hcl2
   ·rw [hblk] at hc;cases hc;exact ⟨p1,fun j _=>hnc j,fun j _=>by simpa using hnc j⟩
  ·subst hcb;exact h.env.apart k' k x _ hk' hk hx rfl hne c hc hblk
theorem acu {t:TypeId} {n:Nat} (hsz:pK P t n=true) {tm:Nat→Value} (h:Sim P glob g s B w tm env) {l o:Nat} {cs:List AV} (hl:s[l]?=some (.cells cs))
  {u:Value} {v:AV} (hr:Rep g s.length u v) (hn:v.cells.length=n) (h1:v.cells.all AV.one=true) (hfit:o+n≤cs.length):
  ∃w',(Instr.storeAt t (.pointer (some ⟨g.L l,o,none⟩)) u).run P w=.ok () w'∧Step True g s.length B w g s.length w'∧Sim P glob g (s.set l (.cells (splice cs o v.cells))) B w' tm env:=by
 have hlt:l<s.length:=(List.getElem?_eq_some_iff.1 hl).1;obtain ⟨arr,ty,q2,q3,q4⟩:=h.base.heap.cells l cs hl;obtain ⟨r1,r2⟩:=yw hr h1;have hlen:arr.size=cs.length:=by simpa using q3.1
 have hus:u.cells.size=n:=by have:=r1.1;simp at this;omega
 have hfree:nM g (g.L l):=(h.base.heap.obj l _ hl).1;refine ⟨_,Bd hsz hus r2 q2 (by omega),⟨.refl _ _,by simp,fun c hc hcl=>aV _ (fun hcb=>hcl (by subst hcb;exact .L hlt)),fun _ _ _=>rfl,fun _ _=>rfl,fun b hb=>.inl hb,rfl,rfl,fun _=>⟨rfl,Nat.le_refl _⟩⟩,⟨⟨?_, ?_,h.base.glob⟩, ?_,by simpa using h.B⟩⟩
 ·refine ⟨fun c o' v' hv'=>?_,fun c es hc=>?_⟩
  ·have hcb:c≠g.L l:=fun hcb=>by subst hcb;rw [hfree.m o'] at hv';cases hv'
   rw [World.cell?_of_block (aV _ hcb)];exact h.base.imm.m c o' v' hv'
  ·have hcb:c≠g.L l:=fun hcb=>by subst hcb;rw [hfree.mm] at hc;cases hc
   exact (h.base.imm.mm c es hc).keep (aV _ hcb)
 ·refine h.base.heap.setAt hlt (.refl _ _) (fun _ _ _=>rfl) (fun b hb=>.inl hb) (fun b hb=>by simpa using h.base.heap.lt l b hlt hb) (by simp) (fun b _ hb=>⟨aV _ (fun hcb=>hb (.inl hcb.symm)),rfl,rfl⟩) ⟨hfree,_,ty,jA q2, ?_, ?_⟩
  ·simpa using wR q3 r1 o
  ·simpa using sW q4 r2 o _
 ·simp only [List.length_set];refine h.env.next (.refl _ _) (fun k e hk ho b hb=>⟨aV _ (fun hbl=>?_),rfl,rfl,fun ht=>ht⟩);exact h.env.off k e hk ho b hb (by subst hbl;exact .L hlt)
theorem acs {t:TypeId} {n:Nat} (hsz:pK P t n=true) {tm:Nat→Value} (h:Sim P glob g s B w tm env) {l o ty sz ver:Nat} {cs:List AV} (hl:s[l]?=some (.buf ty sz ver cs))
  {b off len cap:Nat} (hh:g.hist l ver=some (.slice (some ⟨b,off,none⟩) len cap)) {u:Value} {v:AV} (hr:Rep g s.length u v) (hn:v.cells.length=n) (h1:v.cells.all AV.one=true) (hfit:o+n≤cs.length):
  ∃w',(Instr.storeAt t (.pointer (some ⟨b,off+o,none⟩)) u).run P w=.ok () w'∧Step True g s.length B w g s.length w'∧Sim P glob g (s.set l (.buf ty sz ver (splice cs o v.cells))) B w' tm env:=by
 have hlt:l<s.length:=(List.getElem?_eq_some_iff.1 hl).1;obtain ⟨b',off',len',cap',cur,q1,q2,q3,q4,q5,q6,q7,q8,q9,q10,q11⟩:=h.base.heap.obj l _ hl;rw [hh] at q1;cases q1;obtain ⟨r1,r2⟩:=yw hr h1;have hus:u.cells.size=n:=by have:=r1.1;simp at this;omega
 have hlc:cs.length≤cap * sz:=by rw [q4];exact Nat.mul_le_mul_right sz q5
 have hbl:g.bl l b:=.inr ⟨ver,_,hh,rfl⟩;have hul:u.cells.toList.length=n:=by simpa using hus
 refine ⟨_,Bd hsz hus r2 q8 (by omega),⟨.refl _ _,by simp,fun c hc hcl=>aV _ (fun hcb=>hcl (by subst hcb;exact ⟨l,hlt,hbl⟩)),fun _ _ _=>rfl,fun _ _=>rfl,fun b hb=>.inl hb,rfl,rfl,fun _=>⟨rfl,Nat.le_refl _⟩⟩,⟨⟨?_, ?_,h.base.glob⟩, ?_,by simpa using h.B⟩⟩
 ·refine ⟨fun c o' v' hv'=>?_,fun c es hc=>?_⟩
  ·have hcb:c≠b:=fun hcb=>by subst hcb;rw [q3.m o'] at hv';cases hv'
   rw [World.cell?_of_block (aV _ hcb)];exact h.base.imm.m c o' v' hv'
  ·have hcb:c≠b:=fun hcb=>by subst hcb;rw [q3.mm] at hc;cases hc
   exact (h.base.imm.mm c es hc).keep (aV _ hcb)
 ·refine h.base.heap.setAt hlt (.refl _ _) (fun _ _ _=>rfl) (fun b hb=>.inl hb) (fun b hb=>by simpa using h.base.heap.lt l b hlt hb) (by simp) (fun c _ hc=>⟨aV _ (fun hcb=>hc (by subst hcb;exact hbl)),rfl,rfl⟩) ?_;have hsl:(splice cs o v.cells).length=cs.length:=by simp [splice];omega
  have hpart:((cur.toList.take (off+o)++u.cells.toList++cur.toList.drop (off+o+u.cells.toList.length)).drop off).take cs.length=
    ((cur.toList.drop off).take cs.length).take o++u.cells.toList++((cur.toList.drop off).take cs.length).drop (o+u.cells.toList.length):=by
   apply List.ext_getElem?;intro j;simp only [List.getElem?_take,List.getElem?_drop,List.getElem?_append,List.length_append,List.length_take,List.length_drop,Array.length_toList,hul];by_cases c1:j<cs.length
   ·by_cases c2:j<o
    ·simp [c1,c2,show off+j<min (off+o) cur.size+n by omega,show off+j<min (off+o) cur.size by omega,show off+j<off+o by omega,show j<min o (min cs.length (cur.size - off))+n by omega,show j<min o (min cs.length (cur.size - off)) by omega]
    ·by_cases c3:j<o+n
     ·simp [c1,show off+j<min (off+o) cur.size+n by omega,show ¬off+j<min (off+o) cur.size by omega,show j<min o (min cs.length (cur.size - off))+n by omega,show ¬j<min o (min cs.length (cur.size - off)) by omega]
      congr 1;omega
     ·simp [c1,show ¬off+j<min (off+o) cur.size+n by omega,show ¬j<min o (min cs.length (cur.size - off))+n by omega];rw [if_pos (by omega)]
      congr 1;omega
   ·have e1:¬j<min o (min cs.length (cur.size - off))+n:=by omega
    simp [c1,e1];intro hx;omega
  refine ⟨b,off,len,cap,_,hh,q2,q3,by omega,q5,q6,q7,jA q8,by simp [hul];omega, ?_, ?_⟩
  ·rw [hsl];simp only [List.toList_toArray];rw [hpart];exact wR q10 r1 o
  ·rw [hsl];simp only [List.toList_toArray];rw [hpart];exact sW q11 r2 o _
 ·simp only [List.length_set];refine h.env.next (.refl _ _) (fun k e hk ho c hc=>⟨aV _ (fun hcb=>?_),rfl,rfl,fun ht=>ht⟩);exact h.env.off k e hk ho c hc (by subst hcb;exact ⟨l,hlt,hbl⟩)
theorem UN {cx:Ctx} {t:TypeId} {n:Nat} (hsz:pK P t n=true) {x:Operand} {ix:IX} (hc:eF x ix=true) (h:Sim P glob g s B w (Act.tm a) env) {u:Value} {v:AV} (hr:Rep g s.length u v)
  {env':Env} {s':St} (hst:tq glob cx env s n ix v=some (env',s')):
  ∃w',(Instr.storeAt t (a.eval x) u).run P w=.ok () w'∧Step True g s.length B w g s'.length w'∧Sim P glob g s' B w' (Act.tm a) env':=by
 unfold tq at hst
 split at hst
 ·rename_i hcond;obtain ⟨hn,hn0,h1⟩:=hcond
  split at hst
  ·rename_i cs k hv
   split at hst
   ·rename_i hle;cases hst;rcases iR (n:=s.length) hc h.base.glob hv with ⟨k',hk',hk,hx⟩|⟨v',hv',_,_⟩
    ·cases hk';obtain ⟨b,arr,ty,e1,_⟩:=h.env.rel k _ hk;rw [hx,e1];exact V3 hsz h hk e1 hr hn h1 (by omega)
    ·cases hv'
   ·cases hst
  ·rename_i k o hv
   split at hst
   ·rename_i cs hk
    split at hst
    ·rename_i hle;cases hst;rcases iR (n:=s.length) hc h.base.glob hv with ⟨j,_,hj,hx⟩|⟨v',hv',_,_⟩
     ·obtain ⟨b,e1,e2⟩:=h.env.rel j _ hj;rw [hx,e2];exact V3 hsz h hk e1 hr hn h1 hle
     ·cases hv'
    ·cases hst
   ·cases hst
  ·rename_i k sz i o hv
   split at hst
   ·rename_i t' sz' es hk
    split at hst
    ·rename_i e he
     split at hst
     ·rename_i hle;obtain ⟨rfl,hle⟩:=hle;cases hst;rcases iR (n:=s.length) hc h.base.glob hv with ⟨j,_,hj,hx⟩|⟨v',hv',_,_⟩
      ·obtain ⟨b,len,cap,e1,e2⟩:=h.env.rel j _ hj;rw [hx,e2];exact aaF hsz h hk e1 he hr hn h1 hn0 hle
      ·cases hv'
     ·cases hst
    ·cases hst
   ·cases hst
  ·rename_i l o hv
   split at hst
   ·rename_i cs hs
    split at hst
    ·rename_i hle;cases hst;have hrr:=aJ (a:=a) hc h.env h.base.glob (v:=.pt l o) (by simp [rd,hv]);generalize a.eval x=ax at hrr
     cases hrr with
     | pt _ _ hlt=>simpa using acu hsz h hs hr hn h1 hle.2.2
    ·cases hst
   ·cases hst
  ·rename_i l ver o hv
   split at hst
   ·rename_i t2 sz2 ver2 cs hs
    split at hst
    ·rename_i hle;cases hst;have hrr:=aJ (a:=a) hc h.env h.base.glob (v:=.sp l ver o) (by simp [rd,hv]);generalize a.eval x=ax at hrr;obtain ⟨rfl,hle⟩:=hle
     cases hrr with
     | sp _ _ _ b off len cap hlt hh=>simpa using acs hsz h hs hh hr hn h1 hle.2.2
    ·cases hst
   ·cases hst
  ·cases hst
 ·cases hst
theorem RQ {off:Nat} {x:Operand} {ix:IX} (hc:eF x ix=true) (h:Sim P glob g s B w (Act.tm a) env) {e:EV} (ha:addr glob env off ix=some e):
  ∃b o,a.eval x=.pointer (some ⟨b,o,none⟩)∧New g s.length B w (Act.tm a) env e (.pointer (some ⟨b,o+off,none⟩)):=by
 unfold addr at ha
 split at ha
 ·rename_i cs k hv;cases ha;rcases iR (n:=s.length) hc h.base.glob hv with ⟨k',hk',hk,hx⟩|⟨v',hv',_,_⟩
  ·cases hk';obtain ⟨b,arr,ty,e1,_⟩:=h.env.rel k _ hk;refine ⟨b,0,by rw [hx,e1],⟨fun d hd=>⟨b, ?_,by simp [upd_same]⟩,fun j hj=>?_,fun ho=>by simp [EV.owns] at ho⟩⟩
   ·have:k≠d:=fun hkd=>by subst hkd;simp [EV.refers] at hd
    rw [upd_ne _ _ this,e1]
   ·simp [EV.refers] at hj;subst hj;exact ⟨_,hk,rfl⟩
  ·cases hv'
 ·rename_i k o hv;cases ha;rcases iR (n:=s.length) hc h.base.glob hv with ⟨j,_,hj,hx⟩|⟨v',hv',_,_⟩
  ·obtain ⟨b,e1,e2⟩:=h.env.rel j _ hj;refine ⟨b,o,by rw [hx,e2],⟨fun d hd=>⟨b, ?_,by simp [upd_same]⟩,fun i hi=>?_,fun ho=>by simp [EV.owns] at ho⟩⟩
   ·have:k≠d:=fun hkd=>by subst hkd;simp [EV.refers] at hd
    rw [upd_ne _ _ this,e1]
   ·exact h.env.refs j _ i hj (by simpa [EV.refers] using hi)
  ·cases hv'
 ·rename_i k sz i o hv;cases ha;rcases iR (n:=s.length) hc h.base.glob hv with ⟨j,_,hj,hx⟩|⟨v',hv',_,_⟩
  ·obtain ⟨b,len,cap,e1,e2⟩:=h.env.rel j _ hj;refine ⟨b,i * sz+o,by rw [hx,e2],⟨fun d hd=>⟨b,len,cap, ?_,by simp [upd_same,Nat.add_assoc]⟩,fun i hi=>?_,fun ho=>by simp [EV.owns] at ho⟩⟩
   ·have:k≠d:=fun hkd=>by subst hkd;simp [EV.refers] at hd
    rw [upd_ne _ _ this,e1]
   ·exact h.env.refs j _ i hj (by simpa [EV.refers] using hi)
  ·cases hv'
 ·rename_i cs hv;cases ha;have hr:=aJ (a:=a) hc h.env h.base.glob (v:=.ip cs) (by simp [rd,hv]);generalize a.eval x=ax at hr
  cases hr with
  | ip b o _ c hm hrr=>
   refine ⟨b,o,rfl,.v (.ip b (o+off) _ (fun j=>c (off+j)) (fun j hj=>?_) (fun j hj=>?_))⟩
   ·simp at hj;rw [Nat.add_assoc];exact hm (off+j) (by omega)
   ·simp at hj;rw [List.getElem_drop];exact hrr (off+j) (by omega)
 ·rename_i l o hv;cases ha;have hr:=aJ (a:=a) hc h.env h.base.glob (v:=.pt l o) (by simp [rd,hv]);generalize a.eval x=ax at hr
  cases hr with
  | pt _ _ hlt=>exact ⟨g.L l,o,rfl,.v (.pt l (o+off) hlt)⟩
 ·rename_i l ver o hv;cases ha;have hr:=aJ (a:=a) hc h.env h.base.glob (v:=.sp l ver o) (by simp [rd,hv]);generalize a.eval x=ax at hr
  cases hr with
  | sp _ _ _ b off2 len cap hlt hh=>exact ⟨b,off2+o,rfl,.v (by rw [Nat.add_assoc];exact .sp l ver (o+off) b off2 len cap hlt hh)⟩
 ·cases ha
end Go.Ai
namespace Go.Ai
variable {P:Program} {glob:Nat→Option (List AV)} {g:ai} {s:St} {B:Nat} {w:World} {env:Env} {a:Act}
def Good (P:Program) (glob:Nat→Option (List AV)) (g:ai) (s:St) (B:Nat) (w:World) (a:Act) (x:Sem Next) (e:EV) (env':Env) (s':St):Prop:=
 ∃v w' g',(x.run P w=.ok (.value v) w'∨(x.run P w=.ok .skip w'∧v=undef))∧Step True g s.length B w g' s'.length w'∧
  Sim P glob g' s' B w' (Act.tm a) env'∧New g' s'.length B w' (Act.tm a) env' e v
theorem Good.same (h:Sim P glob g s B w (Act.tm a) env) {x:Sem Next} {v:Value} {e:EV} (hx:x.run P w=.ok (.value v) w) (hn:New g s.length B w (Act.tm a) env e v):
  Good P glob g s B w a x e env s:=⟨v,w,g,.inl hx,.refl _ _ _ _,h,hn⟩
theorem Good.val (h:Sim P glob g s B w (Act.tm a) env) {x:Sem Next} {v:Value} {r:AV} (hx:x.run P w=.ok (.value v) w) (hn:Rep g s.length v r):
  Good P glob g s B w a x (.v r) env s:=.same h hx (.v hn)
theorem Good.after {g':ai} {env1:Env} (hs:Step True g s.length B w g' s.length w) {x:Sem Next} {e:EV} {env':Env} {s':St} (h:Good P glob g' s B w a x e env' s') (_:env1=env1):
  Good P glob g s B w a x e env' s':=by
 obtain ⟨v,w',g'',h1,h2,h3⟩:=h;exact ⟨v,w',g'',h1,hs.trans h2,h3⟩
theorem yB {o:Option AV} {e:EV} {env':Env} {s':St} (h:okv env s o=.ok e env' s'):∃r,o=some r∧e=.v r∧env'=env∧s'=s:=by
 cases o with
 | none=>simp [okv] at h
 | some r=>simp [okv] at h;exact ⟨r,rfl,h.1.symm,h.2.1.symm,h.2.2.symm⟩
theorem WM {x:Operand} {ix:IX} (hc:eF x ix=true) (h:Sim P glob g s B w (Act.tm a) env) {e:EV} (hm:J8 glob env ix=some e):New g s.length B w (Act.tm a) env e (a.eval x):=by
 unfold J8 at hm
 split at hm
 ·rename_i v hv;cases hm;exact .v (nR hc h.env h.base.glob hv)
 ·rename_i cs k hv;cases hm;rcases iR (n:=s.length) hc h.base.glob hv with ⟨k',hk',hk,hx⟩|⟨v',hv',_,_⟩
  ·cases hk';obtain ⟨b,arr,ty,e1,_⟩:=h.env.rel k _ hk;refine ⟨fun d hd=>⟨b, ?_,by rw [upd_same,hx,e1]⟩,fun j hj=>?_,fun ho=>by simp [EV.owns] at ho⟩
   ·have:k≠d:=fun hkd=>by subst hkd;simp [EV.refers] at hd
    rw [upd_ne _ _ this,e1]
   ·simp [EV.refers] at hj;subst hj;exact ⟨_,hk,rfl⟩
  ·cases hv'
 ·rename_i k o hv;cases hm;rcases iR (n:=s.length) hc h.base.glob hv with ⟨j,_,hj,hx⟩|⟨v',hv',_,_⟩
  ·obtain ⟨b,e1,e2⟩:=h.env.rel j _ hj;refine ⟨fun d hd=>⟨b, ?_,by rw [upd_same,hx,e2]⟩,fun i hi=>?_,fun ho=>by simp [EV.owns] at ho⟩
   ·have:k≠d:=fun hkd=>by subst hkd;simp [EV.refers] at hd
    rw [upd_ne _ _ this,e1]
   ·exact h.env.refs j _ i hj hi
  ·cases hv'
 ·rename_i tip t sz es k hv;cases hm;rcases iR (n:=s.length) hc h.base.glob hv with ⟨k',hk',hk,hx⟩|⟨v',hv',_,_⟩
  ·cases hk';refine ⟨fun d hd=>?_,fun j hj=>?_,fun ho=>by simp [EV.owns] at ho⟩
   ·have:k≠d:=fun hkd=>by subst hkd;simp [EV.refers] at hd
    show upd _ d _ d=upd _ d _ k;rw [upd_same,upd_ne _ _ this,hx]
   ·simp [EV.refers] at hj;subst hj;exact ⟨_,hk,rfl⟩
  ·cases hv'
 ·rename_i k hv;cases hm;rcases iR (n:=s.length) hc h.base.glob hv with ⟨j,_,hj,hx⟩|⟨v',hv',_,_⟩
  ·have e1:Act.tm a j=Act.tm a k:=h.env.rel j _ hj;refine ⟨fun d hd=>?_,fun i hi=>h.env.refs j _ i hj hi,fun ho=>by simp [EV.owns] at ho⟩
   have:k≠d:=fun hkd=>by subst hkd;simp [EV.refers] at hd
   show upd _ d _ d=upd _ d _ k;rw [upd_same,upd_ne _ _ this,hx,e1]
  ·cases hv'
 ·rename_i k sz i o hv;cases hm;rcases iR (n:=s.length) hc h.base.glob hv with ⟨j,_,hj,hx⟩|⟨v',hv',_,_⟩
  ·obtain ⟨b,len,cap,e1,e2⟩:=h.env.rel j _ hj;refine ⟨fun d hd=>⟨b,len,cap, ?_,by rw [upd_same,hx,e2]⟩,fun i hi=>h.env.refs j _ i hj hi,fun ho=>by simp [EV.owns] at ho⟩
   have:k≠d:=fun hkd=>by subst hkd;simp [EV.refers] at hd
   rw [upd_ne _ _ this,e1]
  ·cases hv'
 ·cases hm
theorem Yo {op:BinOp} {t:TypeId} {x y:Operand} {k:IntKind} {m n:Int} {r:AV} (h:Vl op k m n=some r):
  ∃u,(do eqGuard op t x y (.int k m) (.int k n);binOp op t (.int k m) (.int k n):Sem Value).run P w=.ok u w∧∀g n,Rep g n u r:=by
 cases op<;>simp [Vl] at h<;>first
  | (subst h;refine ⟨_, ?_,fun _ _=>.i _ _⟩;simp [eqGuard,binOp,Op.intArith];done)
  | (subst h;refine ⟨_, ?_,fun _ _=>.b _⟩;simp [eqGuard,binOp,Op.intCmp];done)
  | (subst h;refine ⟨_, ?_,fun _ _=>.i _ _⟩;simp [eqGuard,binOp,Op.intBits];done)
  | (obtain ⟨h0,rfl⟩:=h;refine ⟨_, ?_,fun _ _=>.i _ _⟩;simp [eqGuard,binOp,Op.intDiv,h0];done)
  | (obtain ⟨h0,rfl⟩:=h;have h1:¬n<0:=by omega
     refine ⟨_, ?_,fun _ _=>.i _ _⟩;simp [eqGuard,binOp,Op.shift,h1];done)
theorem Yn {op:BinOp} {t:TypeId} {x y:Operand} {l m:Rl} {r:AV} (h:UL op l m=some r):
  ∃u,(do eqGuard op t x y (.string ⟨l.toArray⟩) (.string ⟨m.toArray⟩);binOp op t (.string ⟨l.toArray⟩) (.string ⟨m.toArray⟩):Sem Value).run P w=.ok u w∧∀g n,Rep g n u r:=by
 cases op<;>simp [UL] at h<;>first
  | (obtain ⟨h0,rfl⟩:=h
     refine ⟨.string ⟨(l++m).toArray⟩, ?_,fun _ _=>.s _⟩;have hadd:=run_string_add_sum (P:=P) (w:=w) ⟨l.toArray⟩ ⟨m.toArray⟩ (by simp [ByteArray.size_mk'];omega);simp only [binOp]
     simp [eqGuard,hadd,ByteArray.mk_append_mk])
  | (subst h;refine ⟨_, ?_,fun _ _=>.b _⟩;simp [eqGuard,binOp,Op.stringOp];done)
theorem run_equalIn_bool {t:TypeId} (d:Nat) (h:P.underlying t=some .bool) (x y:Bool):(Op.equalIn (d+1) t (.bool x) (.bool y)).run P w=.ok (x == y) w:=by
 simp [Op.equalIn,run_underlying h]
theorem Ot {t:TypeId} (d:Nat) {k:Nat} {y:Operand} (h:Y9 P k t y=true) {v:AV} {r:Bool} (hk:Sz k v=some r) {N:Nat} {u:Value} (hr:Rep g N u v):
  ∃c,y=.const c∧(Op.equalIn (d+1) t u c).run P w=.ok r w∧(∀op x,(eqGuard op t x y u c).run P w=.ok () w)∧(∀op,op=.eql∨op=.neq→binOp op t u c=(match op with | .eql=>do pure (.bool (←Op.equal t u c)) | _=>do pure (.bool (!(←Op.equal t u c))))):=by
 unfold Y9 at h
 split at h
 ·rename_i hu;refine ⟨_,rfl, ?_⟩;unfold Sz at hk
  split at hk<;>cases hk<;>(try (rename_i hh;cases hh))<;>cases hr<;>refine ⟨by simp [Op.equalIn,run_underlying hu],fun op x=>by cases op<;>simp [eqGuard],fun op ho=>by rcases ho with rfl|rfl<;>simp [binOp]⟩
 ·rename_i hu;refine ⟨_,rfl, ?_⟩;unfold Sz at hk
  split at hk<;>cases hk<;>(try (rename_i hh;cases hh))<;>cases hr<;>refine ⟨by simp [Op.equalIn,run_underlying hu],fun op x=>by cases op<;>simp [eqGuard],fun op ho=>by rcases ho with rfl|rfl<;>simp [binOp]⟩
 ·rename_i hu;refine ⟨_,rfl, ?_⟩;unfold Sz at hk
  split at hk<;>cases hk<;>(try (rename_i hh;cases hh))<;>cases hr<;>refine ⟨by simp [Op.equalIn,run_underlying hu],fun op x=>by cases op<;>simp [eqGuard],fun op ho=>by rcases ho with rfl|rfl<;>simp [binOp]⟩
 ·rename_i hu;refine ⟨_,rfl, ?_⟩;unfold Sz at hk
  split at hk<;>cases hk<;>(try (rename_i hh;cases hh))<;>cases hr<;>refine ⟨by simp [Op.equalIn,run_underlying hu],fun op x=>by cases op<;>simp [eqGuard],fun op ho=>by rcases ho with rfl|rfl<;>simp [binOp]⟩
 ·rename_i hu;refine ⟨_,rfl, ?_⟩;unfold Sz at hk
  split at hk<;>cases hk<;>(try (rename_i hh;cases hh))<;>cases hr<;>refine ⟨by simp [Op.equalIn,run_underlying hu],fun op x=>by cases op<;>simp [eqGuard],fun op ho=>by rcases ho with rfl|rfl<;>simp [binOp]⟩
 ·cases h
end Go.Ai
namespace Go.Ai
variable {P:Program} {glob:Nat→Option (List AV)} {g:ai} {s:St} {B:Nat} {w:World} {env:Env} {a:Act} {o:Oper} {call:AV→List AV→St→Ctx→CO} {cx:Ctx} {e:EV} {env':Env} {s':St}
theorem aX {x:Sem Value} {u:Value} {w w':World} (h:x.run P w=.ok u w'):(do pure (Next.value (←x)):Sem Next).run P w=.ok (.value u) w':=by
 simp [Sem.run_bind,h]
theorem V9 {x:Sem Unit} {w w':World} (h:x.run P w=.ok () w'):(do x;pure Next.skip:Sem Next).run P w=.ok .skip w':=by
 simp [Sem.run_bind,h]
theorem Ae {x:Operand} (ho:o.op=.move x∨o.op=.assign x):(execOp a.eval o).run P w=.ok (.value (a.eval x)) w:=by
 rcases ho with ho|ho<;>simp [execOp,ho]
theorem Rq {ix:IX} (hc:(match o.op with | .move x | .assign x=>eF x ix | _=>false)=true):∃x,(o.op=.move x∨o.op=.assign x)∧eF x ix=true:=by
 split at hc
 ·rename_i x hx;exact ⟨x,.inl hx,hc⟩
 ·rename_i x hx;exact ⟨x,.inr hx,hc⟩
 ·cases hc
theorem afL (h:Sim P glob g s B w (Act.tm a) env) {x:Operand} {k:Nat} (hc:eF x (.t k)=true) {es:List (AV×AV)} (hv:lk env k=some (.om es)) (ho:(execOp a.eval o).run P w=.ok (.value (a.eval x)) w):
  Good P glob g s B w a (execOp a.eval o) (.v (.im es)) ((k,.v (.im es))::(k,.v .u)::sD env k) s:=by
 obtain ⟨g',h1,h2,h3⟩:=XO h hv;refine ⟨a.eval x,w,g',.inl ho,h1,h2,.v ?_⟩;rcases iR (n:=s.length) hc h.base.glob (e:=.om es) hv with ⟨k',hk',_,hx⟩|⟨v',hv',_,_⟩
 ·cases hk';rw [hx];exact h3
 ·cases hv'
theorem adS {ix:IX} (h:Sim P glob g s B w (Act.tm a) env) (hc:aT P o.op (.mov ix)=true) (hr:aop glob call cx env s (.mov ix)=.ok e env' s'):Good P glob g s B w a (execOp a.eval o) e env' s':=by
 obtain ⟨x,ho,hx⟩:=Rq hc;simp only [aop] at hr
 split at hr
 ·rename_i es k hv;cases hr;exact afL h hx hv (Ae ho)
 ·split at hr
  ·rename_i e1 hm;cases hr;exact .same h (Ae ho) (WM hx h hm)
  ·cases hr
theorem adX {ix:IX} (h:Sim P glob g s B w (Act.tm a) env) {x:Operand} (hx:eF x ix=true) {v:AV} (he:esc glob env ix=some (v,env')) (ho:(execOp a.eval o).run P w=.ok (.value (a.eval x)) w):
  Good P glob g s B w a (execOp a.eval o) (.v v) env' s:=by
 obtain ⟨g',h1,h2,h3⟩:=qE hx h he;exact ⟨_,w,g',.inl ho,h1,h2,.v h3⟩
theorem abA {ix:IX} (h:Sim P glob g s B w (Act.tm a) env) {x:Operand} (hx:eF x ix=true) {v:AV} (he:KR glob env ix=some (v,env')) (ho:(execOp a.eval o).run P w=.ok (.value (a.eval x)) w):
  Good P glob g s B w a (execOp a.eval o) (.v v) env' s:=by
 obtain ⟨g',h1,h2,h3⟩:=Jr hx h he;exact ⟨_,w,g',.inl ho,h1,h2,.v h3⟩
theorem adY {ix:IX} (h:Sim P glob g s B w (Act.tm a) env) (hc:aT P o.op (.cpy ix)=true) (hr:aop glob call cx env s (.cpy ix)=.ok e env' s'):Good P glob g s B w a (execOp a.eval o) e env' s':=by
 obtain ⟨x,ho,hx⟩:=Rq hc;simp only [aop] at hr
 split at hr
 ·rename_i v env1 he;cases hr;exact adX h hx he (Ae ho)
 ·cases hr
theorem ad4 {ix:IX} (h:Sim P glob g s B w (Act.tm a) env) (hc:aT P o.op (.asg ix)=true) (hr:aop glob call cx env s (.asg ix)=.ok e env' s'):Good P glob g s B w a (execOp a.eval o) e env' s':=by
 obtain ⟨x,ho,hx⟩:=Rq hc;simp only [aop] at hr
 split at hr
 ·rename_i tip t sz es k hv;cases hr;rcases iR (n:=s.length) hx h.base.glob hv with ⟨k',hk',hk,hxx⟩|⟨v',hv',_,_⟩
  ·cases hk';have hrel:=h.env.rel k _ hk;have hdrop:=h.env.dropNext k (.refl _ _) (g':=g) (n':=s.length) (w':=w) (fun k' x hk' hx hne b hb=>⟨rfl,rfl,rfl,fun ht=>ht⟩);refine ⟨_,w,g,.inl (Ae ho),.refl _ _ _ _,⟨h.base,hdrop,h.B⟩,⟨fun d _=>?_,fun j hj=>by simp [EV.refers] at hj,fun _ b hb=>⟨fun k' e' hk' he' hb'=>?_, ?_⟩⟩⟩
   ·show vk g s.length B w (upd (Act.tm a) d (a.eval x)) d (.own tip t sz es);rw [hxx];simp only [vk,upd_same];exact hrel
   ·rw [hxx] at hb
    have hne:k'≠k:=fun hkk=>by
     subst hkk;rw [kV] at hk';cases hk';simp [EV.owns] at he'
    rw [gG _ _ (Ne.symm hne),vK] at hk'
    cases hy:lk env k' with
    | none=>rw [hy] at hk';simp at hk'
    | some y=>
     rw [hy] at hk';simp only [Option.map_some,Option.some.injEq] at hk'
     split at hk'
     ·subst hk';simp [EV.owns] at he'
     ·subst hk';exact h.env.apart k' k y _ hy hk he' rfl hne b hb' hb
   ·rw [hxx] at hb;exact h.env.off k _ hk rfl b hb
  ·cases hv'
 ·split at hr
  ·rename_i v env1 he;cases hr;exact abA h hx he (Ae ho)
  ·split at hr
   ·rename_i e1 hm;cases hr;exact .same h (Ae ho) (WM hx h hm)
   ·cases hr
theorem abm {t sz:Nat} (h:Sim P glob g s B w (Act.tm a) env) (hc:aT P o.op (.nbuf t sz)=true) (hr:aop glob call cx env s (.nbuf t sz)=.ok e env' s'):Good P glob g s B w a (execOp a.eval o) e env' s':=by
 simp only [aop] at hr
 split at hr
 ·rename_i hsz;cases hr
  have ho:(execOp a.eval o).run P w=.ok (.value (.slice none 0 0)) w:=by
   simp only [aT] at hc
   split at hc
   ·rename_i hx;simp [execOp,hx,Act.eval]
   ·rename_i hx;simp [execOp,hx,Act.eval]
   ·cases hc
  refine .same h ho ⟨fun d _=>⟨[], ?_,.nil _ _,fun x hx=>by simp at hx,fun x hx=>by simp at hx,hsz,fun b hb=>?_⟩,fun j hj=>by simp [EV.refers] at hj,fun _ b hb=>by simp [dw] at hb⟩
  ·rw [upd_same];exact Qb (World.ownsRow_nil w B t sz)
  ·rw [upd_same] at hb;simp [dw] at hb
 ·cases hr
theorem abl {c x y:IX} (h:Sim P glob g s B w (Act.tm a) env) (hc:aT P o.op (.pick c x y)=true) (hr:aop glob call cx env s (.pick c x y)=.ok e env' s'):Good P glob g s B w a (execOp a.eval o) e env' s':=by
 simp only [aT] at hc
 split at hc
 ·rename_i c' x' y' hop;simp only [Bool.and_eq_true] at hc;simp only [aop] at hr
  split at hr
  ·rename_i bb hb;obtain ⟨r,h1,rfl,rfl,rfl⟩:=yB hr;have hcb:=aJ (a:=a) hc.1.1 h.env h.base.glob hb;have hcv:a.eval c'=.bool bb:=by generalize a.eval c'=z at hcb;cases hcb;rfl
   cases bb with
   | true=>exact .val h (by simp [execOp,hop,hcv,asBool]) (aJ hc.1.2 h.env h.base.glob (by simpa using h1))
   | false=>exact .val h (by simp [execOp,hop,hcv,asBool]) (aJ hc.2 h.env h.base.glob (by simpa using h1))
  ·cases hr
 ·cases hc
theorem Dc {n:Option Nat} {x:IX} (h:Sim P glob g s B w (Act.tm a) env) (hc:aT P o.op (.load n x)=true) (hr:aop glob call cx env s (.load n x)=.ok e env' s'):Good P glob g s B w a (execOp a.eval o) e env' s':=by
 simp only [aT] at hc
 split at hc
 ·rename_i t x' hop;simp only [Bool.and_eq_true] at hc;simp only [aop] at hr;obtain ⟨r,h1,rfl,rfl,rfl⟩:=yB hr;obtain ⟨u,q1,q2⟩:=NG hc.2 hc.1 h h1;exact .val h (by simp only [execOp,hop];exact aX q1) q2
 ·cases hc
theorem Ja {n:Nat} {x y:IX} (h:Sim P glob g s B w (Act.tm a) env) (hc:aT P o.op (.store n x y)=true) (hr:aop glob call cx env s (.store n x y)=.ok e env' s'):Good P glob g s B w a (execOp a.eval o) e env' s':=by
 simp only [aT] at hc
 split at hc
 ·rename_i t x' y' hop;simp only [Bool.and_eq_true] at hc;simp only [aop] at hr
  split at hr
  ·rename_i v env1 he
   split at hr
   ·rename_i env2 s2 hst;cases hr;obtain ⟨g1,s1,h1,r1⟩:=Jr hc.1.2 h he;obtain ⟨w',q1,q2,q3⟩:=UN hc.2 hc.1.1 h1 r1 hst;exact ⟨undef,w',g1,.inr ⟨by simp only [execOp,hop];exact V9 q1,rfl⟩,s1.trans q2,q3,.v (.tu #[] [] rfl (fun i hi=>by simp at hi))⟩
   ·cases hr
  ·cases hr
 ·cases hc
theorem adV {off:Nat} {x:IX} (h:Sim P glob g s B w (Act.tm a) env) (hc:aT P o.op (.fld off x)=true) (hr:aop glob call cx env s (.fld off x)=.ok e env' s'):Good P glob g s B w a (execOp a.eval o) e env' s':=by
 simp only [aT] at hc
 split at hc
 ·rename_i st x' f hop;simp only [Bool.and_eq_true] at hc;obtain ⟨hx,hf⟩:=hc
  split at hf
  ·rename_i fd hfd;simp only [Bool.and_eq_true,beq_iff_eq] at hf;obtain ⟨rfl,hne⟩:=hf;simp only [aop] at hr
   split at hr
   ·rename_i e1 ha;cases hr;obtain ⟨b,off',q1,q2⟩:=RQ hx h ha;refine .same h ?_ q2;unfold O6 at hfd
    split at hfd
    ·rename_i fs hu
     cases hi:P.info? fd.type with
     | none=>simp [hi] at hne
     | some i=>
      simp [hi] at hne;simp only [execOp,hop];refine aX ?_;simp [Instr.fieldAt,Sem.run_bind,run_underlying hu,hfd,q1,Instr.sureAddr,fieldPlace,sizeOf,typeInfo,hi,hne,Addr.add_lit]
    ·cases hfd
   ·cases hr
  ·cases hf
 ·cases hc
theorem uM {g:ai} {N:Nat} {u:Value} {k:IntKind} {n:Int} (h:Rep g N u (.i k n)):u=.int k n:=by cases h;rfl
theorem abu {len sz:Nat} {x i:IX} (h:Sim P glob g s B w (Act.tm a) env) (hc:aT P o.op (.idxa len sz x i)=true) (hr:aop glob call cx env s (.idxa len sz x i)=.ok e env' s'):Good P glob g s B w a (execOp a.eval o) e env' s':=by
 simp only [aT] at hc
 split at hc
 ·rename_i t x' i' hop;simp only [Bool.and_eq_true] at hc;obtain ⟨⟨hx,hi⟩,hty⟩:=hc;simp only [aop] at hr
  split at hr
  ·rename_i k n hn
   split at hr
   ·rename_i hlt
    split at hr
    ·rename_i e1 ha;cases hr;obtain ⟨b,off',q1,q2⟩:=RQ hx h ha;refine .same h ?_ q2;have hiv:=uM (aJ (a:=a) hi h.env h.base.glob hn);unfold arrayOf at hty
     split at hty
     ·rename_i m el hu
      split at hty
      ·rename_i hm;simp only [Bool.and_eq_true,beq_iff_eq] at hm;obtain ⟨rfl,hsz⟩:=hm;simp only [execOp,hop];refine aX ?_;have h2:n<(m:Int):=by omega
       simp [Instr.indexAt,hiv,asIntOf,Sem.run_bind,run_underlying hu,q1,Instr.sureAddr,hlt.1,h2,run_sizeOf hsz,Addr.add_lit]
      ·simp at hty
     ·simp at hty
    ·cases hr
   ·cases hr
  ·cases hr
 ·cases hc
end Go.Ai
namespace Go.Ai
variable {P:Program} {glob:Nat→Option (List AV)} {g:ai} {s:St} {B:Nat} {w:World} {env:Env} {a:Act} {o:Oper} {call:AV→List AV→St→Ctx→CO} {cx:Ctx} {e:EV} {env':Env} {s':St}
theorem Ik {t:TypeId} {sz:Nat} (h:Gg P t sz=true):∃el,P.underlying t=some (.slice el)∧pK P el sz=true:=by
 unfold Gg at h
 split at h
 ·rename_i el hu;exact ⟨el,hu,h⟩
 ·cases h
theorem UY {t:TypeId} {sz:Nat} (h:Gg P t sz=true) {b off len cap:Nat} {k:IntKind} {n:Int} (h0:0≤n) (hlt:n.toNat<len):
  (Instr.indexAt t (.slice (some ⟨b,off,none⟩) len cap) (.int k n)).run P w=.ok (.pointer (some ⟨b,off+n.toNat * sz,none⟩)) w:=by
 obtain ⟨el,hu,hsz⟩:=Ik h;have h2:n<(len:Int):=by omega
 simp [Instr.indexAt,asIntOf,Sem.run_bind,run_underlying hu,h0,h2,run_sizeOf hsz,Addr.add_lit]
theorem Ny {x:Operand} {ix:IX} (hc:eF x ix=true) (h:Sim P glob g s B w (Act.tm a) env) {k:Nat} (hk:vC env ix=some k):a.eval x=Act.tm a k∧∃ow,lk env k=some ow∧ow.owns=true:=by
 unfold vC at hk
 split at hk
 ·rename_i j
  have hx:a.eval x=Act.tm a j:=by
   unfold eF at hc
   split at hc
   ·simp at hc;subst hc;rename_i heq;cases heq;rfl
   ·rename_i heq;cases heq
   ·rename_i heq;cases heq
   ·rename_i heq;cases heq
   ·cases hc
  split at hk
  ·rename_i hj;cases hk;exact ⟨hx,_,hj,rfl⟩
  ·rename_i i hj;cases hk;have e1:Act.tm a j=Act.tm a k:=h.env.rel j _ hj;exact ⟨hx.trans e1,h.env.refs j _ k hj (by simp [EV.refers])⟩
  ·cases hk
 ·cases hk
theorem adU {sz:Nat} {x i:IX} (h:Sim P glob g s B w (Act.tm a) env) (hc:aT P o.op (.idx sz x i)=true) (hr:aop glob call cx env s (.idx sz x i)=.ok e env' s'):Good P glob g s B w a (execOp a.eval o) e env' s':=by
 simp only [aT] at hc
 split at hc
 ·rename_i t x' i' hop;simp only [Bool.and_eq_true] at hc;obtain ⟨⟨hx,hi⟩,hty⟩:=hc;simp only [aop] at hr
  split at hr
  ·rename_i kk n hn;have hiv:=uM (aJ (a:=a) hi h.env h.base.glob hn)
   split at hr
   ·rename_i k hk;obtain ⟨hxv,_⟩:=Ny hx h hk
    split at hr
    ·rename_i tip t' sz' es hown
     split at hr
     ·rename_i hcond;obtain ⟨rfl,h0,hlt⟩:=hcond;cases hr;obtain ⟨xs,q1,q2,q3,q4,q5,q6⟩:=h.env.rel k _ hown;rcases q1.2 with ⟨_,hn0⟩|⟨gb,cap',cur,hv',_⟩
      ·omega
      ·refine .same h (v:=.pointer (some ⟨gb,0+n.toNat * sz,none⟩)) ?_ ⟨fun d hd=>⟨gb,es.length,cap', ?_,by simp [upd_same]⟩,fun j hj=>?_,fun ho=>by simp [EV.owns] at ho⟩
       ·simp only [execOp,hop];refine aX ?_;rw [hiv,hxv,hv'];exact UY hty h0 hlt
       ·have:k≠d:=fun hkd=>by subst hkd;simp [EV.refers] at hd
        rw [upd_ne _ _ this,hv']
       ·simp [EV.refers] at hj;subst hj;exact ⟨_,hown,rfl⟩
     ·cases hr
    ·cases hr
   ·split at hr
    ·rename_i es hes
     split at hr
     ·rename_i el hel
      split at hr
      ·rename_i hcond;obtain ⟨h0,hsz⟩:=hcond;cases hr;obtain ⟨hlt,rfl⟩:=List.getElem?_eq_some_iff.1 hel;have hrep:=aJ (a:=a) hx h.env h.base.glob hes
       have hgo:(execOp a.eval o)=(do pure (Next.value (←Instr.indexAt t (a.eval x') (a.eval i')))):=by simp only [execOp,hop]
       rw [hgo,hiv];generalize a.eval x'=ax at hrep
       cases hrep with
       | slNil=>simp at hlt
       | slE=>simp at hlt
       | sl bk off cap sz' _ c hcap hsz' hm hr'=>
        have hsz2:sz'=sz:=by rw [←hsz];exact (hsz' _ hlt).symm
        subst hsz2;refine .val h (aX (UY hty h0 hlt)) (.ip bk _ _ (fun j=>c n.toNat j) (fun j hj=>?_) (fun j hj=>hr' _ hlt j hj));exact hm n.toNat j hlt (by omega)
      ·cases hr
     ·cases hr
    ·rename_i l ver sz2 o2 m hes
     split at hr
     ·rename_i hcond;obtain ⟨rfl,h0,hlt⟩:=hcond;cases hr;have hrep:=aJ (a:=a) hx h.env h.base.glob hes
      have hgo:(execOp a.eval o)=(do pure (Next.value (←Instr.indexAt t (a.eval x') (a.eval i')))):=by simp only [execOp,hop]
      rw [hgo,hiv];generalize a.eval x'=ax at hrep
      cases hrep with
      | skE=>omega
      | sk _ _ _ _ _ b off len cap c hl hh ho hc hcc=>
       refine .val h (aX (UY hty h0 hlt)) ?_;rw [Nat.add_assoc];exact .sp l ver (o2+n.toNat * sz) b off len cap hl hh
     ·cases hr
    ·cases hr
  ·cases hr
 ·cases hc
theorem UX {t:TypeId} {n:Option Nat} (h:Hq P t n=true) {vs:Array Value} {cs:List AV} {off N:Nat} {v:AV} (hr:Rep g N (.agg vs) (.ag cs)) (hp:part cs off n=some v):
  ∃u,(Go.part t vs off).run P w=.ok u w∧Rep g N u v:=by
 cases hr with
 | ag _ _ hl h1 hrr=>
  cases n with
  | none=>
   simp only [part] at hp;obtain ⟨hlt,rfl⟩:=List.getElem?_eq_some_iff.1 hp;have hlt':off<vs.size:=by rw [hl];exact hlt
   exact ⟨vs[off],by simp [Go.part,Sem.run_bind,Uy h w,hlt'],hrr off hlt' hlt⟩
  | some n=>
   simp only [part] at hp
   split at hp
   ·rename_i hle;cases hp;refine ⟨.agg (vs.extract off (off+n)),by simp [Go.part,Sem.run_bind,(Gz h w).1,(Gz h w).2],.ag _ _ (by simp;omega) (fun i hi=>?_) (fun i hi hi'=>?_)⟩
    ·simp at hi;rw [Array.getElem_extract];exact h1 _ (by omega)
    ·simp at hi hi';rw [Array.getElem_extract,List.getElem_take,List.getElem_drop];exact hrr _ (by omega) (by omega)
   ·cases hp
theorem ahh {g:ai} {N:Nat} {u:Value} {cs:List AV} (h:Rep g N u (.ag cs)):∃vs,u=.agg vs:=by cases h;exact ⟨_,rfl⟩
theorem abz {off:Nat} {n:Option Nat} {x:IX} (h:Sim P glob g s B w (Act.tm a) env) (hc:aT P o.op (.getf off n x)=true) (hr:aop glob call cx env s (.getf off n x)=.ok e env' s'):Good P glob g s B w a (execOp a.eval o) e env' s':=by
 simp only [aT] at hc
 split at hc
 ·rename_i t x' f hop;simp only [Bool.and_eq_true] at hc;obtain ⟨hx,hf⟩:=hc
  split at hf
  ·rename_i fd hfd;simp only [Bool.and_eq_true,beq_iff_eq] at hf;obtain ⟨rfl,hN⟩:=hf;simp only [aop] at hr
   split at hr
   ·rename_i cs hcs;obtain ⟨r,h1,rfl,rfl,rfl⟩:=yB hr;have hrep:=aJ (a:=a) hx h.env h.base.glob hcs;obtain ⟨vs,hvs⟩:=ahh hrep;rw [hvs] at hrep;obtain ⟨u,q1,q2⟩:=UX (w:=w) hN hrep h1;refine .val h ?_ q2;unfold O6 at hfd
    split at hfd
    ·rename_i fs hu;simp only [execOp,hop];refine aX ?_;simp [Instr.field,Sem.run_bind,run_underlying hu,hfd,hvs,asAgg,q1]
    ·cases hfd
   ·cases hr
  ·cases hf
 ·cases hc
theorem rD {g:ai} {N:Nat} {u:Value} {l:Rl} (h:Rep g N u (.s l)):u=.string ⟨l.toArray⟩:=by cases h;rfl
theorem wG {t:TypeId} (h:isStr P t=true):P.underlying t=some .string:=by
 unfold isStr at h
 split at h
 ·rename_i hu;exact hu
 ·cases h
theorem abt {x i:IX} (h:Sim P glob g s B w (Act.tm a) env) (hc:aT P o.op (.idxs x i)=true) (hr:aop glob call cx env s (.idxs x i)=.ok e env' s'):Good P glob g s B w a (execOp a.eval o) e env' s':=by
 simp only [aT] at hc
 split at hc
 ·rename_i t x' i' hop;simp only [Bool.and_eq_true] at hc;obtain ⟨⟨hx,hi⟩,hty⟩:=hc;simp only [aop] at hr
  split at hr
  ·rename_i l k j hl hj
   split at hr
   ·rename_i c hcc
    split at hr
    ·rename_i h0;cases hr;have hxv:=rD (aJ (a:=a) hx h.env h.base.glob hl);have hiv:=uM (aJ (a:=a) hi h.env h.base.glob hj);obtain ⟨hlt,rfl⟩:=List.getElem?_eq_some_iff.1 hcc
     have hget:(⟨l.toArray⟩:ByteArray)[j.toNat]?=some l[j.toNat]:=by
      rw [ByteArray.getElem?_lt' _ _ (by simpa [ByteArray.size_mk'] using hlt)];rfl
     refine .val h ?_ (.i .u8 _);simp only [execOp,hop];refine aX ?_;simp [Instr.index,hiv,hxv,asIntOf,Sem.run_bind,run_underlying (wG hty),h0,hget]
    ·cases hr
   ·cases hr
  ·cases hr
 ·cases hc
theorem ad1 {op:BinOp} {x y:IX} (h:Sim P glob g s B w (Act.tm a) env) (hc:aT P o.op (.bin op x y)=true) (hr:aop glob call cx env s (.bin op x y)=.ok e env' s'):Good P glob g s B w a (execOp a.eval o) e env' s':=by
 simp only [aT] at hc
 split at hc
 ·rename_i b' t x' y' t' hop;simp only [Bool.and_eq_true,beq_iff_eq] at hc;obtain ⟨⟨rfl,hx⟩,hy⟩:=hc;simp only [aop] at hr
  split at hr
  ·rename_i p q hp hq;obtain ⟨r,h1,rfl,rfl,rfl⟩:=yB hr;have rx:=aJ (a:=a) hx h.env h.base.glob hp;have ry:=aJ (a:=a) hy h.env h.base.glob hq;unfold aan at h1
   split at h1
   ·rename_i k m k' n
    split at h1
    ·rename_i hk;subst hk;obtain ⟨u,q1,q2⟩:=Yo (P:=P) (w:=w) (t:=t) (x:=x') (y:=y') h1;refine .val h ?_ (q2 _ _);simp only [execOp,hop];rw [uM rx,uM ry];exact aX q1
    ·cases h1
   ·rename_i l m;obtain ⟨u,q1,q2⟩:=Yn (P:=P) (w:=w) (t:=t) (x:=x') (y:=y') h1;refine .val h ?_ (q2 _ _);simp only [execOp,hop];rw [rD rx,rD ry];exact aX q1
   ·cases h1
  ·cases hr
 ·cases hc
theorem vJ {g:ai} {N:Nat} {u:Value} {x:Bool} (h:Rep g N u (.b x)):u=.bool x:=by cases h;rfl
theorem Xe {t:TypeId} (h:isBool P t=true):P.underlying t=some .bool:=by
 unfold isBool at h
 split at h
 ·rename_i hu;exact hu
 ·cases h
theorem ad2 {neg:Bool} {x y:IX} (h:Sim P glob g s B w (Act.tm a) env) (hc:aT P o.op (.beq neg x y)=true) (hr:aop glob call cx env s (.beq neg x y)=.ok e env' s'):Good P glob g s B w a (execOp a.eval o) e env' s':=by
 simp only [aT] at hc
 split at hc
 ·rename_i b' t x' y' t' hop;simp only [Bool.and_eq_true] at hc;obtain ⟨⟨⟨hb,hx⟩,hy⟩,hty⟩:=hc;simp only [aop] at hr
  split at hr
  ·rename_i p q hp hq;cases hr;have rx:=vJ (aJ (a:=a) hx h.env h.base.glob hp);have ry:=vJ (aJ (a:=a) hy h.env h.base.glob hq);refine .val h ?_ (.b _);have he:=run_equalIn_bool (P:=P) (w:=w) 9999 (Xe hty) p q;simp only [execOp,hop];rw [rx,ry];refine aX ?_
   cases neg with
   | true=>
    simp only [if_true,beq_iff_eq] at hb;subst hb;simp [eqGuard,binOp,Op.equal,Op.maxDepth,he]
   | false=>
    simp only [Bool.false_eq_true,if_false,beq_iff_eq] at hb;subst hb;simp [eqGuard,binOp,Op.equal,Op.maxDepth,he]
  ·cases hr
 ·cases hc
theorem YV {neg:Bool} {k:Nat} {x:IX} (h:Sim P glob g s B w (Act.tm a) env) (hc:aT P o.op (.nileq neg k x)=true) (hr:aop glob call cx env s (.nileq neg k x)=.ok e env' s'):Good P glob g s B w a (execOp a.eval o) e env' s':=by
 simp only [aT] at hc
 split at hc
 ·rename_i b' t x' y' t' hop;simp only [Bool.and_eq_true] at hc;obtain ⟨⟨hb,hx⟩,hnil⟩:=hc;simp only [aop] at hr
  split at hr
  ·rename_i p hp
   split at hr
   ·rename_i r hk;cases hr;have rx:=aJ (a:=a) hx h.env h.base.glob hp;obtain ⟨c,rfl,q1,q2,q3⟩:=Ot (P:=P) (w:=w) 9999 hnil hk rx;refine .val h ?_ (.b _);simp only [execOp,hop];refine aX ?_;have hev:a.eval (.const c)=c:=rfl;rw [hev]
    cases neg with
    | true=>
     simp only [if_true,beq_iff_eq] at hb;subst hb;simp [q2,q3,Op.equal,Op.maxDepth,q1]
    | false=>
     simp only [Bool.false_eq_true,if_false,beq_iff_eq] at hb;subst hb;simp [q2,q3,Op.equal,Op.maxDepth,q1]
   ·cases hr
  ·cases hr
 ·cases hc
theorem afJ {op:UnOp} {x:IX} (h:Sim P glob g s B w (Act.tm a) env) (hc:aT P o.op (.un op x)=true) (hr:aop glob call cx env s (.un op x)=.ok e env' s'):Good P glob g s B w a (execOp a.eval o) e env' s':=by
 simp only [aT] at hc
 split at hc
 ·rename_i u' t x' hop;simp only [Bool.and_eq_true,beq_iff_eq] at hc;obtain ⟨rfl,hx⟩:=hc;simp only [aop] at hr
  split at hr
  ·rename_i p hp;obtain ⟨r,h1,rfl,rfl,rfl⟩:=yB hr;have rx:=aJ (a:=a) hx h.env h.base.glob hp;unfold afa at h1
   split at h1
   ·split at h1
    ·cases h1;refine .val h ?_ (.b _);simp only [execOp,hop];rw [vJ rx];exact aX (by simp [Op.unary])
    ·cases h1
   ·split at h1
    ·cases h1;refine .val h ?_ (.i _ _);simp only [execOp,hop];rw [uM rx];exact aX (by simp [Op.unary,Op.intArith])
    ·cases h1
   ·cases h1
  ·cases hr
 ·cases hc
end Go.Ai
namespace Go.Ai
variable {P:Program} {glob:Nat→Option (List AV)} {g:ai} {s:St} {B:Nat} {w:World} {env:Env} {a:Act} {o:Oper} {call:AV→List AV→St→Ctx→CO} {cx:Ctx} {e:EV} {env':Env} {s':St}
theorem Us {x:Operand} {ix:IX} (hc:eF x ix=true) (h:Sim P glob g s B w (Act.tm a) env) {es:List AV} (he:elems glob env ix=some es):∃ad cap,a.eval x=.slice ad es.length cap:=by
 have hown:∀k tip t sz es,lk env k=some (.own tip t sz es)→∃ad cap,Act.tm a k=.slice ad es.length cap:=by
  intro k tip t sz es hk;obtain ⟨xs,q1,_⟩:=h.env.rel k _ hk;rcases q1.2 with ⟨hv,hn⟩|⟨gb,cap',cur,hv',_⟩
  ·exact ⟨_,_,by rw [hv,hn]⟩
  ·exact ⟨_,_,hv'⟩
 unfold elems at he
 split at he
 ·rename_i es' hv;cases he;have hr:=aJ (a:=a) hc h.env h.base.glob (v:=.sl es) (by simp [rd,hv]);generalize a.eval x=ax at hr
  cases hr with
  | slNil=>exact ⟨_,_,rfl⟩
  | slE=>exact ⟨_,_,rfl⟩
  | sl=>exact ⟨_,_,rfl⟩
 ·rename_i es' hv;cases he;have hr:=aJ (a:=a) hc h.env h.base.glob (v:=.sl es) (by simp [rd,hv]);generalize a.eval x=ax at hr
  cases hr with
  | slNil=>exact ⟨_,_,rfl⟩
  | slE=>exact ⟨_,_,rfl⟩
  | sl=>exact ⟨_,_,rfl⟩
 ·rename_i hv;cases he;have hr:=aJ (a:=a) hc h.env h.base.glob (v:=.ns) (by simp [rd,hv]);generalize a.eval x=ax at hr;cases hr;exact ⟨_,_,rfl⟩
 ·rename_i hv;cases he;have hr:=aJ (a:=a) hc h.env h.base.glob (v:=.se) (by simp [rd,hv]);generalize a.eval x=ax at hr;cases hr;exact ⟨_,_,rfl⟩
 ·rename_i hv;cases he;have hr:=aJ (a:=a) hc h.env h.base.glob (v:=.sz) (by simp [rd,hv]);generalize a.eval x=ax at hr;cases hr;exact ⟨_,_,rfl⟩
 ·rename_i tip t sz es' hv;cases he;rcases iR (n:=s.length) hc h.base.glob hv with ⟨k,_,hk,hx⟩|⟨v',hv',_,_⟩
  ·rw [hx];exact hown k _ _ _ _ hk
  ·cases hv'
 ·rename_i j hv
  split at he
  ·rename_i tip t sz es' hj;cases he;rcases iR (n:=s.length) hc h.base.glob hv with ⟨k,_,hk,hx⟩|⟨v',hv',_,_⟩
   ·have e1:Act.tm a k=Act.tm a j:=h.env.rel k _ hk;rw [hx,e1];exact hown j _ _ _ _ hj
   ·cases hv'
  ·cases he
 ·cases he
theorem xH {c:Call} (hop:o.op=.call c) {b:Builtin} (hcal:c.callee=.builtin b):
  execOp a.eval o=builtin b c.argTypes o.type (c.args.map fun | .const _=>true | _=>false) (c.args.map a.eval):=by
 simp only [execOp,hop,resolve,hcal];rfl
theorem adT {k:Nat} {x:IX} (h:Sim P glob g s B w (Act.tm a) env) (hc:aT P o.op (.len k x)=true) (hr:aop glob call cx env s (.len k x)=.ok e env' s'):Good P glob g s B w a (execOp a.eval o) e env' s':=by
 simp only [aT] at hc
 split at hc
 ·rename_i c hop
  split at hc
  ·rename_i x' t hcal hargs htys;simp only [Bool.and_eq_true] at hc;obtain ⟨hx,hk⟩:=hc;have hex:=xH (a:=a) hop hcal
   have ha:c.args.map a.eval=#[a.eval x']:=by
    apply Array.toList_inj.1;simp [hargs]
   have ht:c.argTypes=#[t]:=by apply Array.toList_inj.1;simp [htys]
   rw [ha,ht] at hex;rw [hex]
   have hb:∀{u:Value},(Builtin.len_ #[t] o.type #[a.eval x']).run P w=.ok u w→(builtin .len #[t] o.type (c.args.map fun | .const _=>true | _=>false) #[a.eval x']).run P w=.ok (.value u) w:=by
    intro u hu;simp only [builtin];exact aX hu
   split at hk
   ·rename_i el hu;simp only [aop] at hr
    split at hr
    ·rename_i es hes;cases hr;obtain ⟨ad,cap,hxv⟩:=Us hx h hes;exact .val h (hb (by rw [hxv];simp [Builtin.len_,Sem.run_bind,run_underlying hu,goInt])) (.i _ _)
    ·split at hr
     ·rename_i l ver sz2 o2 m hes;cases hr;have hrep:=aJ (a:=a) hx h.env h.base.glob hes
      have hxv:∃ad cap,a.eval x'=.slice ad m cap:=by
       generalize a.eval x'=ax at hrep
       cases hrep<;>exact ⟨_,_,rfl⟩
      obtain ⟨ad,cap,hxv⟩:=hxv;exact .val h (hb (by rw [hxv];simp [Builtin.len_,Sem.run_bind,run_underlying hu,goInt])) (.i _ _)
     ·cases hr
   ·rename_i hu;simp only [aop] at hr
    split at hr
    ·rename_i l hl;cases hr;have hxv:=rD (aJ (a:=a) hx h.env h.base.glob hl);exact .val h (hb (by rw [hxv];simp [Builtin.len_,Sem.run_bind,run_underlying hu,goInt,ByteArray.size_mk'])) (.i _ _)
    ·cases hr
   ·rename_i kt et hu;simp only [aop] at hr
    split at hr
    ·rename_i es hes;cases hr;have hrep:=aJ (a:=a) hx h.env h.base.glob hes;generalize a.eval x'=ax at hrep hb
     cases hrep with
     | im bk _ vs hm hl hk hv=>
      obtain ⟨ents,clock,q1,q2,_⟩:=h.base.imm.mm bk _ hm
      have hsz:ents.size=es.length:=by
       rw [←hl,←q2];simp
      exact .val h (hb (by simp [Builtin.len_,Sem.run_bind,run_underlying hu,goInt,getObj,Sem.run,q1,hsz])) (.i _ _)
    ·rename_i l hes
     split at hr
     ·rename_i es hsl;cases hr;have hrep:=aJ (a:=a) hx h.env h.base.glob hes;generalize a.eval x'=ax at hrep hb
      cases hrep with
      | mp _ hlt=>
       obtain ⟨_,ents,clock,q1,q2,_⟩:=h.base.heap.obj l _ hsl;have hsz:ents.size=es.length:=by have:=q2.1;simpa using this
       exact .val h (hb (by simp [Builtin.len_,Sem.run_bind,run_underlying hu,goInt,getObj,Sem.run,q1,hsz])) (.i _ _)
     ·cases hr
    ·rename_i hnm;cases hr;have hrep:=aJ (a:=a) hx h.env h.base.glob hnm;generalize a.eval x'=ax at hrep hb;cases hrep;exact .val h (hb (by simp [Builtin.len_,Sem.run_bind,run_underlying hu,goInt])) (.i _ _)
    ·cases hr
   ·cases hk
  ·cases hc
 ·cases hc
theorem adW {x:IX} {i:Nat} (h:Sim P glob g s B w (Act.tm a) env) (hc:aT P o.op (.ext x i)=true) (hr:aop glob call cx env s (.ext x i)=.ok e env' s'):Good P glob g s B w a (execOp a.eval o) e env' s':=by
 simp only [aT] at hc
 split at hc
 ·rename_i x' j hop;simp only [Bool.and_eq_true,beq_iff_eq] at hc;obtain ⟨rfl,hx⟩:=hc;simp only [aop] at hr
  split at hr
  ·rename_i cs hcs;obtain ⟨r,h1,rfl,rfl,rfl⟩:=yB hr;have hrep:=aJ (a:=a) hx h.env h.base.glob hcs
   have hgo:(execOp a.eval o)=(do pure (Next.value (←Instr.extract (a.eval x') i))):=by simp only [execOp,hop]
   rw [hgo];generalize a.eval x'=ax at hrep
   cases hrep with
   | tu vs _ hl hrr=>
    obtain ⟨hlt,rfl⟩:=List.getElem?_eq_some_iff.1 h1;have hlt':i<vs.size:=by omega
    exact .val h (aX (u:=vs[i]) (by simp [Instr.extract,hlt'])) (hrr i hlt' hlt)
  ·cases hr
 ·cases hc
theorem abo {f:Fn} {as cs:List IX} (h:Sim P glob g s B w (Act.tm a) env) (hc:aT P o.op (.mkfn f as cs)=true) (hr:aop glob call cx env s (.mkfn f as cs)=.ok e env' s'):Good P glob g s B w a (execOp a.eval o) e env' s':=by
 simp only [aT] at hc
 split at hc
 ·rename_i f' vs ws hop;simp only [Bool.and_eq_true,beq_iff_eq] at hc;obtain ⟨⟨⟨rfl,hf⟩,h1⟩,h2⟩:=hc;simp only [aop] at hr
  split at hr
  ·rename_i as' env1 he1
   split at hr
   ·rename_i cs' env2 he2;cases hr;obtain ⟨g1,s1,m1,r1⟩:=wK h1 h he1;obtain ⟨g2,s2,m2,r2⟩:=wK h2 m1 he2;refine ⟨.func f (vs.map a.eval) (ws.map a.eval),w,g2,.inl ?_,s1.trans s2,m2,.v ?_⟩
    ·simp only [execOp,hop];exact aX (by simp [Instr.makeFunc])
    ·have r1':=r1.mono s2.le;refine .fn f _ _ _ _ (by have:=r1'.1;simpa using this) (by have:=r2.1;simpa using this) (fun i hi hi'=>?_) (fun i hi hi'=>?_)
     ·have:=r1'.2 i (by simpa using hi) hi';simpa using this
     ·have:=r2.2 i (by simpa using hi) hi';simpa using this
   ·cases hr
  ·cases hr
 ·cases hc
theorem abn {t:Nat} {x:IX} (h:Sim P glob g s B w (Act.tm a) env) (hc:aT P o.op (.mkif t x)=true) (hr:aop glob call cx env s (.mkif t x)=.ok e env' s'):Good P glob g s B w a (execOp a.eval o) e env' s':=by
 simp only [aT] at hc
 split at hc
 ·rename_i t' x' hop;simp only [Bool.and_eq_true,beq_iff_eq] at hc;obtain ⟨⟨rfl,hx⟩,hty⟩:=hc;simp only [aop] at hr
  split at hr
  ·rename_i v env1 he;cases hr;obtain ⟨g1,s1,m1,r1⟩:=qE hx h he;refine ⟨.iface t (a.eval x'),w,g1,.inl ?_,s1,m1,.v (.ifc t _ _ r1)⟩;simp only [execOp,hop];refine aX ?_
   split at hty
   ·cases hty
   ·cases hty
   ·rename_i d hu hne
    cases hd:P.underlying t with
    | none=>exact absurd hd (by simpa using hne)
    | some d=>cases d<;>simp_all [Instr.makeInterface,Sem.run_bind,run_underlying hd]
  ·cases hr
 ·cases hc
theorem Xo {x:IX} (h:Sim P glob g s B w (Act.tm a) env) (hc:aT P o.op (.nilchk x)=true) (hr:aop glob call cx env s (.nilchk x)=.ok e env' s'):Good P glob g s B w a (execOp a.eval o) e env' s':=by
 simp only [aT] at hc
 split at hc
 ·rename_i x' hop;simp only [aop] at hr
  split at hr
  ·rename_i cs hcs;cases hr;have hrep:=aJ (a:=a) hc h.env h.base.glob hcs;refine .val h (v:=a.eval x') ?_ hrep;simp only [execOp,hop];generalize a.eval x'=ax at hrep;cases hrep;rfl
  ·rename_i l off hcs;cases hr;have hrep:=aJ (a:=a) hc h.env h.base.glob hcs;refine .val h (v:=a.eval x') ?_ hrep;simp only [execOp,hop];generalize a.eval x'=ax at hrep;cases hrep;rfl
  ·cases hr
 ·cases hc
end Go.Ai
namespace Go.Ai
variable {P:Program} {glob:Nat→Option (List AV)} {g:ai} {s:St} {B:Nat} {w:World} {env:Env} {a:Act} {o:Oper} {call:AV→List AV→St→Ctx→CO} {cx:Ctx} {e:EV} {env':Env} {s':St}
def zO (kk:Nat):TypeDesc→Bool
 | .int _=>kk == 0
 | .string=>kk == 1
 | .bool=>kk == 2
 | _=>false
theorem FY {kk:Nat} {t:TypeId} (h:MQ P kk t=true):∃kt et,P.underlying t=some (.map kt et)∧Kw P kk kt=true:=by
 unfold MQ at h
 split at h
 ·rename_i kt et hu;exact ⟨kt,et,hu,h⟩
 ·cases h
theorem Bv {kk:Nat} {d:TypeDesc} (hd:zO kk d=true) {x y:AV} {r:Bool} (h:jD kk x y=some r) {N:Nat} {u v:Value} (hu:Rep g N u x) (hv:Rep g N v y):Instr.sameNow d u v=some r:=by
 unfold jD at h
 split at h
 ·split at h
  ·rename_i hk;subst hk;cases h;rw [uM hu,uM hv]
   cases d<;>simp [zO] at hd<;>simp [Instr.sameNow]
  ·cases h
 ·cases h;rw [rD hu,rD hv];rename_i p q
  have e1:((⟨p.toArray⟩:ByteArray) == ⟨q.toArray⟩)=(p == q):=by
   rw [Bool.eq_iff_iff]
   change (p.toArray == q.toArray)=true ↔ (p == q)=true
   simp
  cases d<;>simp [zO] at hd<;>simp [Instr.sameNow,e1]
 ·cases h;rw [vJ hu,vJ hv]
  cases d<;>simp [zO] at hd<;>simp [Instr.sameNow]
 ·split at h
  ·rename_i n _ _ _;exfalso
   cases d<;>simp [zO] at hd
  ·cases h
 ·cases h
theorem Y1 {kk:Nat} {d:TypeDesc} (hd:zO kk d=true) {x:AV} {N:Nat} {u:Value} (hu:Rep g N u x):∀(es:List (AV×AV)) (ents:List MapEntry) (i:Nat) {r:Option AV},find kk x es=some r→
  aW g N (ents.map (·.key)) (es.map (·.1))→aW g N (ents.map (·.val)) (es.map (·.2))→
  (r=none∧Instr.findNow d u ents i=some none)∨(∃a j v,r=some a∧Instr.findNow d u ents i=some (some (j,v))∧Rep g N v a):=by
 intro es
 induction es with
 | nil=>
  intro ents i r h hk hv
  cases ents with
  | nil=>simp [find] at h;subst h;exact .inl ⟨rfl,rfl⟩
  | cons e es=>exact absurd hk.1 (by simp)
 | cons p es ih=>
  intro ents i r h hk hv;obtain ⟨k',v'⟩:=p
  cases ents with
  | nil=>exact absurd hk.1 (by simp)
  | cons e ents=>
   simp only [List.map_cons] at hk hv;simp only [find] at h
   split at h
   ·rename_i hq;cases h
    have:=Bv hd hq hu hk.head
    exact .inr ⟨v',i,e.val,rfl,by simp [Instr.findNow,this],hv.head⟩
   ·rename_i hq
    have:=Bv hd hq hu hk.head
    rcases ih ents (i+1) h hk.tail hv.tail with ⟨h1,h2⟩|⟨a,j,v,h1,h2,h3⟩
    ·exact .inl ⟨h1,by simp [Instr.findNow,this,h2]⟩
    ·exact .inr ⟨a,j,v,h1,by simp [Instr.findNow,this,h2],h3⟩
   ·cases h
theorem run_checkKey {kk:Nat} {kt:TypeId} {d:TypeDesc} (hk:P.underlying kt=some d) (hd:zO kk d=true) (b:Bool) (u:Value):(Instr.checkKey b 10000 kt u).run P w=.ok () w:=by
 have:∀n,(Instr.checkKey b (n+1) kt u).run P w=.ok () w:=by
  intro n
  cases d<;>simp [zO] at hd<;>cases u<;>simp [Instr.checkKey,Sem.run_bind,run_underlying hk]
 exact this 9999
theorem y9 {kk:Nat} {kt:TypeId} (h:Kw P kk kt=true):(∃d,P.underlying kt=some d∧zO kk d=true)∨(∃n fs,kk=n+3∧P.underlying kt=some (.struct fs)∧fs.size=n∧uK P 0 fs.toList=true∧P.stoodInHeld kt=false):=by
 unfold Kw at h
 split at h
 ·rename_i hk;exact .inl ⟨_,hk,rfl⟩
 ·rename_i hk;exact .inl ⟨_,hk,rfl⟩
 ·rename_i hk;exact .inl ⟨_,hk,rfl⟩
 ·rename_i n fs hk;simp only [Bool.and_eq_true,beq_iff_eq,Bool.not_eq_true'] at h;exact .inr ⟨n,fs,rfl,hk,h.1.1,h.1.2,h.2⟩
 ·cases h
theorem DI {w:World} {t:TypeId} (h:isStr P t=true) {us:Array Value} {i:Nat} {v:Value} (hv:us[i]?=some v):(Go.part t us i).run P w=.ok v w:=by
 have hu:=wG h;obtain ⟨hi,rfl⟩:=Array.getElem?_eq_some_iff.1 hv;simp [Go.part,isAgg,Sem.run_bind,run_underlying hu,hi]
theorem Py:∀(xs ys:List AV) {r:Bool},nV xs ys=some r→xs.length=ys.length
 | [],[],_,_=>rfl
 | [],_::_,_,h=>by simp [nV] at h
 | x::xs,[],_,h=>by cases x<;>simp [nV] at h
 | x::xs,y::ys,r,h=>by
  cases x<;>(try (simp [nV] at h;done))
  cases y<;>(try (simp [nV] at h;done))
  simp only [nV] at h
  split at h
  ·rename_i q h1;simp [Py xs ys h1]
  ·cases h
theorem JK {w:World} {d:Nat} {us vs:Array Value} {N:Nat}:∀(fs:List Field) (i:Nat) (xs ys:List AV) {r:Bool},uK P i fs=true→nV xs ys=some r→xs.length=fs.length→
  aW g N (us.toList.drop i) xs→aW g N (vs.toList.drop i) ys→(Op.eqFields (d+1) us vs fs).run P w=.ok r w
 | [],i,xs,ys,r,_,h,hl,_,_=>by
  have:xs=[]:=List.eq_nil_of_length_eq_zero hl
  subst this
  cases ys with
  | nil=>simp [nV] at h;subst h;simp [Op.eqFields]
  | cons y ys=>simp [nV] at h
 | f::fs,i,xs,ys,r,hf,h,hl,hu,hv=>by
  simp only [uK,Bool.and_eq_true,beq_iff_eq,bne_iff_ne] at hf;obtain ⟨⟨⟨rfl,hn⟩,hs⟩,hf⟩:=hf
  cases xs with
  | nil=>simp at hl
  | cons x xs=>
   cases ys with
   | nil=>cases x<;>simp [nV] at h
   | cons y ys=>
    cases x<;>(try (simp [nV] at h;done))
    cases y<;>(try (simp [nV] at h;done))
    rename_i p q;simp only [nV] at h
    cases h1:nV xs ys with
    | none=>rw [h1] at h;cases h
    | some r'=>
    rw [h1] at h;simp only [Option.some.injEq] at h;have h2:=h
    have tail:∀{us:Array Value} {x:AV} {xs:List AV},aW g N (us.toList.drop f.offset) (x::xs)→∃v,us[f.offset]?=some v∧Rep g N v x∧aW g N (us.toList.drop (f.offset+1)) xs:=by
     intro us x xs hr;have hlt:f.offset<us.toList.length:=by have:=hr.1;simp at this ⊢;omega
     rw [List.drop_eq_getElem_cons hlt] at hr;exact ⟨us[f.offset]'(by simpa using hlt),by simp at hlt;simp [hlt],by simpa using hr.head,hr.tail⟩
    obtain ⟨u1,e1,r1,t1⟩:=tail hu;obtain ⟨v1,e2,r2,t2⟩:=tail hv;rw [rD r1] at e1;rw [rD r2] at e2;have ih:=JK (w:=w) (d:=d) fs (f.offset+1) xs ys hf h1 (by simpa using hl) t1 t2
    have heq:(Op.equalIn (d+1) f.type (.string ⟨p.toArray⟩) (.string ⟨q.toArray⟩)).run P w=.ok (p == q) w:=by
     have e3:((⟨p.toArray⟩:ByteArray) == ⟨q.toArray⟩)=(p == q):=by
      rw [Bool.eq_iff_iff]
      change (p.toArray == q.toArray)=true ↔ (p == q)=true
      simp
     simp [Op.equalIn,run_underlying (wG hs),e3]
    simp only [Op.eqFields,Sem.run_ite,Sem.run_bind,DI hs e1,DI hs e2,Result.andThen_ok,heq];rw [if_pos hn]
    cases hpq:(p == q) with
    | true=>
     have:p=q:=by simpa using hpq
     simp [this] at h2;subst h2
     simpa [hpq] using ih
    | false=>
     have:p≠q:=by simpa using hpq
     rw [hpq] at h2;simp at h2;subst h2;simp
theorem zQ {w:World} {n:Nat} {kt:TypeId} {fs:Array Field} (hu:P.underlying kt=some (.struct fs)) (hn:fs.size=n) (hf:uK P 0 fs.toList=true) (hp:P.stoodInHeld kt=false) {x y:AV} {r:Bool} (h:jD (n+3) x y=some r)
  {N:Nat} {u v:Value} (hx:Rep g N u x) (hy:Rep g N v y):(Op.equal kt u v).run P w=.ok r w:=by
 unfold jD at h
 split at h<;>(try (rename_i hk;omega))<;>(try (rename_i hk _ _;omega))<;>(try (rename_i hk _;omega))
 ·rename_i xs m ys zs hk
  have:m=n:=by omega
  subst this
  split at h
  ·rename_i hl;have hfo:P.fieldsOf kt=fs:=by simp [Program.fieldsOf,hu]
   cases hx with
   | ag us _ hl1 _ hr1=>
    cases hy with
    | ag vs _ hl2 _ hr2=>
     have:=run_equalIn_struct (P:=P) w 9999 kt us vs (by rw [hfo];exact hu) hp
     show (Op.equalIn 10000 kt (.agg us) (.agg vs)).run P w=_;rw [this,hfo];refine JK (g:=g) (N:=N) (d:=9998) fs.toList 0 ys zs hf h (by simp;omega) ⟨by simpa using hl1,fun i hi hi'=>?_⟩ ⟨by simpa using hl2,fun i hi hi'=>?_⟩
     ·simp only [List.drop_zero];rw [Array.getElem_toList];exact hr1 i (by simpa using hi) hi'
     ·simp only [List.drop_zero];rw [Array.getElem_toList];exact hr2 i (by simpa using hi) hi'
  ·cases h
 ·cases h
theorem SK {w:World} {n:Nat} {kt:TypeId} {fs:Array Field} (hu:P.underlying kt=some (.struct fs)) (hn:fs.size=n) (hf:uK P 0 fs.toList=true) (hp:P.stoodInHeld kt=false) {x:AV} {N:Nat} {u:Value} (hx:Rep g N u x):
  ∀(es:List (AV×AV)) (ents:List MapEntry) (i:Nat) {r:Option AV},find (n+3) x es=some r→
  aW g N (ents.map (·.key)) (es.map (·.1))→aW g N (ents.map (·.val)) (es.map (·.2))→
  (r=none∧(Instr.findAsking kt u ents i).run P w=.ok none w)∨(∃a j v,r=some a∧(Instr.findAsking kt u ents i).run P w=.ok (some (j,v)) w∧Rep g N v a):=by
 intro es
 induction es with
 | nil=>
  intro ents i r h hk hv
  cases ents with
  | nil=>simp [find] at h;subst h;exact .inl ⟨rfl,rfl⟩
  | cons e es=>exact absurd hk.1 (by simp)
 | cons p es ih=>
  intro ents i r h hk hv;obtain ⟨k',v'⟩:=p
  cases ents with
  | nil=>exact absurd hk.1 (by simp)
  | cons e ents=>
   simp only [List.map_cons] at hk hv;simp only [find] at h
   split at h
   ·rename_i hq;cases h
    have:=zQ (w:=w) hu hn hf hp hq hx hk.head
    exact .inr ⟨v',i,e.val,rfl,by simp [Instr.findAsking,Sem.run_bind,this],hv.head⟩
   ·rename_i hq
    have:=zQ (w:=w) hu hn hf hp hq hx hk.head
    rcases ih ents (i+1) h hk.tail hv.tail with ⟨h1,h2⟩|⟨a,j,v,h1,h2,h3⟩
    ·exact .inl ⟨h1,by simp [Instr.findAsking,Sem.run_bind,this,h2]⟩
    ·exact .inr ⟨a,j,v,h1,by simp [Instr.findAsking,Sem.run_bind,this,h2],h3⟩
   ·cases h
theorem zk {kt:TypeId} {fs:Array Field} (hu:P.underlying kt=some (.struct fs)) (u:Value) (ents:List MapEntry):(Instr.findKey kt u ents).run P w=(Instr.findAsking kt u ents).run P w:=by
 cases ents with
 | nil=>simp [Instr.findKey,run_underlying hu,Instr.findNow,Instr.findAsking]
 | cons e es=>simp [Instr.findKey,run_underlying hu,Instr.findNow,Instr.sameNow]
theorem Oq {kk:Nat} {kt:TypeId} (h:Kw P kk kt=true) (u:Value):(Instr.findKey kt u []).run P w=.ok none w:=by
 rcases y9 h with ⟨d,hd,_⟩|⟨n,fs,_,hd,_⟩<;>simp [Instr.findKey,run_underlying hd,Instr.findNow]
theorem Ie {kk:Nat} {kt:TypeId} (hk:Kw P kk kt=true) {x:AV} {N:Nat} {u:Value} (hx:Rep g N u x) (_:3≤kk→uf kk x=true) {es:List (AV×AV)} {ents:List MapEntry} {r:Option AV} (h:find kk x es=some r)
  (h1:aW g N (ents.map (·.key)) (es.map (·.1))) (h2:aW g N (ents.map (·.val)) (es.map (·.2))):
  (r=none∧(Instr.findKey kt u ents).run P w=.ok none w)∨(∃a j v,r=some a∧(Instr.findKey kt u ents).run P w=.ok (some (j,v)) w∧Rep g N v a):=by
 rcases y9 hk with ⟨d,hd,hkd⟩|⟨n,fs,rfl,hu,hn,hf,hp⟩
 ·rcases Y1 hkd hx es ents 0 h h1 h2 with ⟨a1,a2⟩|⟨a,j,v,a1,a2,a3⟩
  ·exact .inl ⟨a1,by simp [Instr.findKey,run_underlying hd,a2]⟩
  ·exact .inr ⟨a,j,v,a1,by simp [Instr.findKey,run_underlying hd,a2],a3⟩
 ·rw [zk hu];exact SK hu hn hf hp hx es ents 0 h h1 h2
theorem Ep {w:World} {b:Bool} {m N:Nat} {us:Array Value}:∀(fs:List Field) (i:Nat) (xs:List AV),uK P i fs=true→fs.length=xs.length→aW g N (us.toList.drop i) xs→
  (forIn (m:=Sem) fs PUnit.unit (fun f _=>
   if f.name≠ "_" then do
    let x ←Go.part f.type us f.offset
    Instr.checkKey b (m+1) f.type x
    pure (ForInStep.yield PUnit.unit)
   else pure (ForInStep.yield PUnit.unit))).run P w=.ok PUnit.unit w
 | [],_,_,_,_,_=>by simp
 | f::fs,i,xs,hf,hl,hr=>by
  simp only [uK,Bool.and_eq_true,beq_iff_eq,bne_iff_ne] at hf;obtain ⟨⟨⟨rfl,hn⟩,hs⟩,hf⟩:=hf
  cases xs with
  | nil=>simp at hl
  | cons x xs=>
   have hlt:f.offset<us.toList.length:=by have:=hr.1;simp at this ⊢;omega
   rw [List.drop_eq_getElem_cons hlt] at hr;have hv:us[f.offset]?=some (us[f.offset]'(by simpa using hlt)):=by simp at hlt;simp [hlt]
   have ih:=Ep (w:=w) (b:=b) (m:=m) fs (f.offset+1) xs hf (by simpa using hl) hr.tail
   have hc:∀v,(Instr.checkKey b (m+1) f.type v).run P w=.ok () w:=by
    intro v
    cases v<;>simp [Instr.checkKey,Sem.run_bind,run_underlying (wG hs)]
   simp only [List.forIn_cons,Sem.run_bind,Sem.run_ite];rw [if_pos hn];simp only [DI hs hv,Sem.run_bind,Result.andThen_ok,hc,Sem.run_pure];exact ih
theorem lZ {kk:Nat} {kt:TypeId} (hk:Kw P kk kt=true) {x:AV} {N:Nat} {u:Value} (hx:Rep g N u x) (h3:3≤kk→uf kk x=true) (b:Bool):(Instr.checkKey b 10000 kt u).run P w=.ok () w:=by
 rcases y9 hk with ⟨d,hd,hkd⟩|⟨n,fs,rfl,hu,hn,hf,hp⟩
 ·exact run_checkKey hd hkd b u
 ·have hkk:=h3 (by omega);unfold uf at hkk
  split at hkk<;>(try (rename_i hk;omega))<;>(try (rename_i hk _;omega))
  ·rename_i m cs hk
   have:m=n:=by omega
   subst this;simp only [Bool.and_eq_true,beq_iff_eq] at hkk
   cases hx with
   | ag us _ hl h1 hr=>
    have e0:=Ep (P:=P) (g:=g) (w:=w) (b:=b) (m:=9998) (N:=N) (us:=us) fs.toList 0 cs hf (by simp;omega) ⟨by simpa using hl,fun i hi hi'=>by simp only [List.drop_zero];rw [Array.getElem_toList];exact hr i (by simpa using hi) hi'⟩;rw [show (10000:Nat)=9999+1 from rfl,Instr.checkKey];simp only [Sem.run_bind,run_underlying hu,Result.andThen_ok];rw [←Array.forIn_toList];exact (congrArg (fun r=>Result.andThen r _) e0).trans rfl
  ·cases hkk
end Go.Ai
namespace Go.Ai
variable {P:Program} {glob:Nat→Option (List AV)} {g:ai} {s:St} {B:Nat} {w:World} {env:Env} {a:Act} {o:Oper} {call:AV→List AV→St→Ctx→CO} {cx:Ctx} {e:EV} {env':Env} {s':St}
theorem jK {x:Option Operand} {ix:Option IX} (hc:abW x ix=true) (h:Sim P glob g s B w (Act.tm a) env) {d r:Nat} (hb:bound glob env d ix=some r):
  (x=none∧r=d)∨(∃y k n,x=some y∧a.eval y=.int k n∧0≤n∧r=n.toNat):=by
 unfold abW at hc
 split at hc
 ·simp [bound] at hb;exact .inl ⟨rfl,hb.symm⟩
 ·rename_i y iy;right;simp only [bound] at hb
  split at hb
  ·rename_i k n hn
   split at hb
   ·rename_i h0;cases hb;exact ⟨y,k,n,rfl,uM (aJ (a:=a) hc h.env h.base.glob hn),h0,rfl⟩
   ·cases hb
  ·cases hb
 ·cases hc
theorem mW {isSlice:Bool} {len cap:Nat} {lo hi:Option Operand} {l hh:Nat}
  (hlo:(lo=none∧l=0)∨(∃y k n,lo=some y∧a.eval y=.int k n∧0≤n∧l=n.toNat))
  (hhi:(hi=none∧hh=len)∨(∃y k n,hi=some y∧a.eval y=.int k n∧0≤n∧hh=n.toNat)) (h1:l≤hh) (h2:hh≤cap):
  (Instr.sliceBounds isSlice len cap (lo.map a.eval) (hi.map a.eval) none).run P w=.ok (l,hh,cap) w:=by
 rcases hhi with ⟨rfl,rfl⟩|⟨y,k,n,rfl,hy,hn0,rfl⟩
 ·rcases hlo with ⟨rfl,rfl⟩|⟨z,k',m,rfl,hz,hm0,rfl⟩
  ·simp [Instr.sliceBounds,Sem.run_bind]
  ·have:m≤(hh:Int):=by omega
   simp [Instr.sliceBounds,Sem.run_bind,Instr.sliceBound,hz,asIntOf,hm0,this]
 ·have hle:n≤(cap:Int):=by omega
  rcases hlo with ⟨rfl,rfl⟩|⟨z,k',m,rfl,hz,hm0,rfl⟩
  ·simp [Instr.sliceBounds,Sem.run_bind,Instr.sliceBound,hy,asIntOf,hn0,hle]
  ·have:m≤n:=by omega
   simp [Instr.sliceBounds,Sem.run_bind,Instr.sliceBound,hy,hz,asIntOf,hn0,hle,hm0,this,Int.max_eq_left hn0]
theorem abk {x:IX} {lo hi:Option IX} (h:Sim P glob g s B w (Act.tm a) env) (hc:aT P o.op (.slcs x lo hi)=true) (hr:aop glob call cx env s (.slcs x lo hi)=.ok e env' s'):Good P glob g s B w a (execOp a.eval o) e env' s':=by
 simp only [aT] at hc
 split at hc
 ·rename_i t x' lo' hi' hop;simp only [Bool.and_eq_true] at hc;obtain ⟨⟨⟨hx,hlo⟩,hhi⟩,hty⟩:=hc;simp only [aop] at hr
  split at hr
  ·rename_i cs hcs
   split at hr
   ·rename_i l hh hl hhh
    split at hr
    ·rename_i hcond;cases hr;have hxv:=rD (aJ (a:=a) hx h.env h.base.glob hcs);have hb:=mW (P:=P) (w:=w) (isSlice:=false) (len:=cs.length) (cap:=cs.length) (jK hlo h hl) (jK hhi h hhh) hcond.1 hcond.2;refine .val h ?_ (.s _);simp only [execOp,hop];refine aX ?_;simp [Instr.sliceAt,Instr.slice,Sem.run_bind,run_underlying (wG hty),hxv,hb,ByteArray.size_mk',ByteArray.extract_mk]
    ·cases hr
   ·cases hr
  ·cases hr
 ·cases hc
theorem PZ {g:ai} {n:Nat} {b off cap sz:Nat} {es:List AV} {l h:Nat} {sz':Nat} {c:Nat→Nat→Value} (hc:es.length≤cap)
   (hsz':∀i (h:i<es.length),(AV.cells es[i]).length=sz')
   (hm:∀i j,i<es.length→j<sz'→g.m b (off+i * sz'+j)=some (c i j)∧(c i j).oneCell'=true)
   (hrr:∀i (h:i<es.length) j (h':j<(AV.cells es[i]).length),Rep g n (c i j) (AV.cells es[i])[j]) (hlh:l≤h) (hh:h≤es.length)
  (hsz:∀a∈es,a.cells.length=sz):Rep g n (.slice (if cap=l then some ⟨b,off,none⟩ else some ⟨b,off+l * sz,none⟩) (h - l) (cap - l)) (.sl ((es.drop l).take (h - l))):=by
 have hlen:((es.drop l).take (h - l)).length=h - l:=by simp;omega
 by_cases hz:es=[]
 ·subst hz;simp at hh;subst hh
  have:l=0:=by omega
  subst this;simp;exact .sl b off cap sz [] (fun _ _=>undef) (by simp) (fun i hi=>by simp at hi) (fun i j hi=>by simp at hi) (fun i hi=>by simp at hi)
 ·have hszz:sz'=sz:=by
   have h0:0<es.length:=List.length_pos_iff.2 hz;rw [←hsz' 0 h0];exact hsz _ (List.getElem_mem h0)
  subst hszz
  have mk:∀off2,(l<h→off2=off+l * sz')→Rep g n (.slice (some ⟨b,off2,none⟩) (h - l) (cap - l)) (.sl ((es.drop l).take (h - l))):=by
   intro off2 ho
   have key:=Rep.sl (g:=g) (n:=n) b off2 (cap - l) sz' ((es.drop l).take (h - l)) (fun i j=>c (l+i) j) (by rw [hlen];omega)
    (fun i hi=>hsz _ (List.mem_of_mem_drop (List.mem_of_mem_take (List.getElem_mem hi))))
    (fun i j hi hj=>by
     rw [hlen] at hi
     have:=hm (l+i) j (by omega) hj
     rw [ho (by omega)];rw [Nat.add_mul] at this
     rw [show off+l * sz'+i * sz'+j=off+(l * sz'+i * sz')+j by omega];exact this)
    (fun i hi j hj=>by
     have hi2:=hi;rw [hlen] at hi2;have e1:((es.drop l).take (h - l))[i]=es[l+i]'(by omega):=by rw [List.getElem_take,List.getElem_drop]
     simp only [e1] at hj ⊢
     exact hrr (l+i) (by omega) j hj)
   rw [hlen] at key;exact key
  split
  ·rename_i hcap;exact mk off (fun hlt=>by omega)
  ·exact mk _ (fun _=>rfl)
theorem adO {sz:Nat} {x:IX} {lo hi:Option IX} (h:Sim P glob g s B w (Act.tm a) env) (hc:aT P o.op (.slc sz x lo hi)=true) (hr:aop glob call cx env s (.slc sz x lo hi)=.ok e env' s'):Good P glob g s B w a (execOp a.eval o) e env' s':=by
 simp only [aT] at hc
 split at hc
 ·rename_i t x' lo' hi' hop;simp only [Bool.and_eq_true] at hc;obtain ⟨⟨⟨hx,hlo⟩,hhi⟩,hty⟩:=hc;obtain ⟨el,hu,hsz⟩:=Ik hty;simp only [aop] at hr
  split at hr
  ·rename_i es env1 he;obtain ⟨g1,s1,m1,r1⟩:=qE hx h he
   split at hr
   ·rename_i l hh hl hhh
    split at hr
    ·rename_i hcond;obtain ⟨hlh,hhl,hall⟩:=hcond;cases hr;have hall':∀a∈es,a.cells.length=sz:=fun a ha=>by simpa using List.all_eq_true.1 hall a ha
     have hgo:(execOp a.eval o)=(do pure (Next.value (←Instr.sliceAt t (a.eval x') (lo'.map a.eval) (hi'.map a.eval) none))):=by simp only [execOp,hop];rfl
     rw [hgo];have hs2:=s1;generalize a.eval x'=ax at r1
     cases r1 with
     | slNil=>
      simp at hhl;subst hhl
      have:l=0:=by omega
      subst this;have hb:=mW (P:=P) (w:=w) (isSlice:=true) (len:=0) (cap:=0) (jK hlo m1 hl) (jK hhi m1 hhh) (Nat.le_refl _) (Nat.le_refl _);refine ⟨.slice none 0 0,w,g1,.inl (aX ?_),s1,m1,.v (by simpa using Rep.slNil)⟩;simp [Instr.sliceAt,Instr.slice,Sem.run_bind,run_underlying hu,hb,run_sizeOf hsz]
     | slE ad=>
      simp at hhl;subst hhl
      have:l=0:=by omega
      subst this;have hb:=mW (P:=P) (w:=w) (isSlice:=true) (len:=0) (cap:=0) (jK hlo m1 hl) (jK hhi m1 hhh) (Nat.le_refl _) (Nat.le_refl _);refine ⟨.slice (some ad) 0 0,w,g1,.inl (aX ?_),s1,m1,.v (by simpa using Rep.slE ad)⟩;simp [Instr.sliceAt,Instr.slice,Sem.run_bind,run_underlying hu,hb,run_sizeOf hsz]
     | sl bk off cap sz' _ c hcap hsz' hm hrr=>
      have hb:=mW (P:=P) (w:=w) (isSlice:=true) (len:=es.length) (cap:=cap) (jK hlo m1 hl) (jK hhi m1 hhh) hlh (by omega);refine ⟨.slice (if cap=l then some ⟨bk,off,none⟩ else some ⟨bk,off+l * sz,none⟩) (hh - l) (cap - l),w,g1,.inl (aX ?_),s1,m1,.v (PZ hcap hsz' hm hrr hlh hhl hall')⟩;simp [Instr.sliceAt,Instr.slice,Sem.run_bind,run_underlying hu,hb,run_sizeOf hsz,Addr.add_lit]
    ·cases hr
   ·cases hr
  ·rename_i env1 he;obtain ⟨g1,s1,m1,r1⟩:=qE hx h he
   split at hr
   ·rename_i hl hhh;cases hr
    have hgo:(execOp a.eval o)=(do pure (Next.value (←Instr.sliceAt t (a.eval x') (lo'.map a.eval) (hi'.map a.eval) none))):=by simp only [execOp,hop];rfl
    rw [hgo];generalize a.eval x'=ax at r1;cases r1;have hb:=mW (P:=P) (w:=w) (isSlice:=true) (len:=0) (cap:=0) (jK hlo m1 hl) (jK hhi m1 hhh) (Nat.le_refl _) (Nat.le_refl _);refine ⟨.slice none 0 0,w,g1,.inl (aX ?_),s1,m1,.v .ns⟩;simp [Instr.sliceAt,Instr.slice,Sem.run_bind,run_underlying hu,hb,run_sizeOf hsz]
   ·cases hr
  ·rename_i k ver sz2 o2 m env1 he;obtain ⟨g1,s1,m1,r1⟩:=qE hx h he
   split at hr
   ·rename_i l hh hl hhh
    split at hr
    ·rename_i hcond;obtain ⟨rfl,hlh,hhm⟩:=hcond;cases hr
     have hgo:(execOp a.eval o)=(do pure (Next.value (←Instr.sliceAt t (a.eval x') (lo'.map a.eval) (hi'.map a.eval) none))):=by simp only [execOp,hop];rfl
     rw [hgo];generalize a.eval x'=ax at r1
     cases r1 with
     | skE _ _ _ _ ad hk=>
      have h0:hh=0:=by omega
      have:l=0:=by omega
      subst this h0;have hb:=mW (P:=P) (w:=w) (isSlice:=true) (len:=0) (cap:=0) (jK hlo m1 hl) (jK hhi m1 hhh) (Nat.le_refl _) (Nat.le_refl _);refine ⟨.slice (some ad) 0 0,w,g1,.inl (aX ?_),s1,m1,.v (by simpa using Rep.skE k ver sz o2 ad hk)⟩;simp [Instr.sliceAt,Instr.slice,Sem.run_bind,run_underlying hu,hb,run_sizeOf hsz]
     | sk _ _ _ _ _ b off len cap c hk hhi2 ho hc hcc=>
      have hb:=mW (P:=P) (w:=w) (isSlice:=true) (len:=m) (cap:=c) (jK hlo m1 hl) (jK hhi m1 hhh) hlh (by omega);refine ⟨.slice (if c=l then some ⟨b,off+o2,none⟩ else some ⟨b,off+o2+l * sz,none⟩) (hh - l) (c - l),w,g1,.inl (aX ?_),s1,m1,.v ?_⟩
      ·simp [Instr.sliceAt,Instr.slice,Sem.run_bind,run_underlying hu,hb,run_sizeOf hsz,Addr.add_lit]
      ·by_cases hcl:c=l
       ·rw [if_pos hcl,show hh - l=0 by omega,show c - l=0 by omega];exact .skE _ _ _ _ _ hk
       ·rw [if_neg hcl,Nat.add_assoc];have e1:l * sz+(hh - l) * sz=hh * sz:=by rw [←Nat.add_mul];congr 1;omega
        have e2:hh * sz≤m * sz:=Nat.mul_le_mul_right sz hhm;have e3:l * sz+(c - l) * sz=c * sz:=by rw [←Nat.add_mul];congr 1;omega
        exact .sk k ver sz (o2+l * sz) (hh - l) b off len cap (c - l) hk hhi2 (by omega) (by omega) (by omega)
    ·cases hr
   ·cases hr
  ·cases hr
 ·cases hc
theorem abq {kk:Nat} {z:AV} {ok:Bool} {m k:IX} (h:Sim P glob g s B w (Act.tm a) env) (hc:aT P o.op (.look kk z ok m k)=true) (hr:aop glob call cx env s (.look kk z ok m k)=.ok e env' s'):Good P glob g s B w a (execOp a.eval o) e env' s':=by
 simp only [aT] at hc
 split at hc
 ·rename_i t m' k' ok' hop;simp only [Bool.and_eq_true,beq_iff_eq] at hc;obtain ⟨⟨⟨⟨rfl,hm⟩,hk⟩,hkey⟩,hz⟩:=hc;obtain ⟨kt,et,hu,hkt⟩:=FY hkey;rw [hu] at hz;simp only [] at hz;unfold agu at hz
  cases hi:P.info? et with
  | none=>simp [hi] at hz
  | some info=>
   cases hzz:info.zero with
   | none=>simp [hi,hzz] at hz
   | some zv=>
    simp [hi,hzz] at hz;have hzrep:=Rf g s.length zv z hz;simp only [aop] at hr
    split at hr
    ·rename_i key hkv
     split at hr
     ·cases hr
     rename_i hk3'
     have hk3:3≤kk→uf kk key=true:=fun h3=>by
      cases hkk:uf kk key with
      | true=>rfl
      | false=>exact absurd ⟨h3,hkk⟩ hk3'
     split at hr
     ·rename_i r hfind;have hkrep:=aJ (a:=a) hk h.env h.base.glob hkv
      -- the looked-up value
      have main:∃v okb,(Instr.lookup t (a.eval m') (a.eval k') ok).run P w=.ok (if ok then .tuple #[v,.bool okb] else v) w∧Rep g s.length v (r.getD z)∧okb=r.isSome:=by
       split at hfind
       ·rename_i es hes;have hmrep:=aJ (a:=a) hm h.env h.base.glob hes;generalize a.eval m'=am at hmrep
        cases hmrep with
        | im bk _ vs hmm hl hkk hvv=>
         obtain ⟨ents,clock,q1,q2,_⟩:=h.base.imm.mm bk _ hmm;have hlen:ents.toList.length=es.length:=by rw [←hl,←q2];simp
         have rk:aW g s.length (ents.toList.map (·.key)) (es.map (·.1)):=⟨by simpa using hlen,fun i hi1 hi2=>by
          subst q2
          have:=hkk i (by simpa using hi1) (by simpa using hi2)
          simpa using this⟩
         have rv:aW g s.length (ents.toList.map (·.val)) (es.map (·.2)):=⟨by simpa using hlen,fun i hi1 hi2=>by
          subst q2
          have:=hvv i (by simpa using hi1) (by simpa using hi2)
          simpa using this⟩
         rcases Ie (w:=w) hkt hkrep hk3 hfind rk rv with ⟨rfl,h2⟩|⟨v0,j,v,rfl,h2,h3⟩
         ·refine ⟨zv,false, ?_,by simpa using hzrep,rfl⟩;simp [Instr.lookup,Sem.run_bind,run_underlying hu,getObj,Sem.run,q1,lZ hkt hkrep hk3,h2,zeroValue,typeInfo,hi,hzz]
         ·refine ⟨v,true, ?_,by simpa using h3,rfl⟩;simp [Instr.lookup,Sem.run_bind,run_underlying hu,getObj,Sem.run,q1,lZ hkt hkrep hk3,h2]
       ·rename_i hes;have hmrep:=aJ (a:=a) hm h.env h.base.glob hes;generalize a.eval m'=am at hmrep;cases hmrep
        split at hfind
        ·cases hfind;refine ⟨zv,false, ?_,by simpa using hzrep,rfl⟩;simp [Instr.lookup,Sem.run_bind,run_underlying hu,lZ hkt hkrep hk3,Oq hkt,zeroValue,typeInfo,hi,hzz]
        ·cases hfind
       ·rename_i l hes;have hmrep:=aJ (a:=a) hm h.env h.base.glob hes;generalize a.eval m'=am at hmrep
        split at hfind
        ·rename_i es hsl
         cases hmrep with
         | mp _ hlt=>
          obtain ⟨_,ents,clock,q1,rk,rv,_⟩:=h.base.heap.obj l _ hsl;rcases Ie (w:=w) hkt hkrep hk3 hfind rk rv with ⟨rfl,h2⟩|⟨v0,j,v,rfl,h2,h3⟩
          ·refine ⟨zv,false, ?_,by simpa using hzrep,rfl⟩;simp [Instr.lookup,Sem.run_bind,run_underlying hu,getObj,Sem.run,q1,lZ hkt hkrep hk3,h2,zeroValue,typeInfo,hi,hzz]
          ·refine ⟨v,true, ?_,by simpa using h3,rfl⟩;simp [Instr.lookup,Sem.run_bind,run_underlying hu,getObj,Sem.run,q1,lZ hkt hkrep hk3,h2]
        ·cases hfind
       ·cases hfind
      obtain ⟨v,okb,q1,q2,rfl⟩:=main
      have hgo:(execOp a.eval o)=(do pure (Next.value (←Instr.lookup t (a.eval m') (a.eval k') ok))):=by simp only [execOp,hop]
      rw [hgo]
      cases ok with
      | true=>
       simp only [if_true] at hr q1;cases hr;refine .val h (aX q1) (.tu _ _ rfl (fun i hi1 hi2=>?_))
       match i,hi1 with
       | 0,_=>exact q2
       | 1,_=>exact .b _
      | false=>
       simp only [Bool.false_eq_true,if_false] at hr q1;cases hr;exact .val h (aX q1) q2
     ·cases hr
    ·cases hr
 ·cases hc
end Go.Ai
namespace Go.Ai
variable {P:Program} {glob:Nat→Option (List AV)} {g:ai} {s:St} {B:Nat} {w:World} {env:Env} {a:Act} {o:Oper} {call:AV→List AV→St→Ctx→CO} {cx:Ctx} {e:EV} {env':Env} {s':St}
theorem cell_lt {w:World} {b o:Nat} {v:Value} (h:w.cell? ⟨b,o,none⟩=some v):b<w.heap.size:=World.block_lt_of_cell? w ⟨b,o,none⟩ h
theorem Imm.fresh (h:Imm g w) {b:Nat} (hb:w.heap.size≤b):nM g b:=by
 refine ⟨fun o=>?_, ?_⟩
 ·cases hm:g.m b o with
  | none=>rfl
  | some v=>have:=cell_lt (h.m b o v hm);omega
 ·cases hm:g.mm b with
  | none=>rfl
  | some es=>
   have:=(h.mm b es hm).lt;omega
theorem Az {tm:Nat→Value} (h:iU g s.length B w tm env) {k:Nat} {e:EV} (hk:lk env k=some e) (ho:e.owns=true) {b:Nat} (hb:dw (tm k)=some b):b<w.heap.size:=by
 have hr:=h.rel k e hk
 cases e with
 | bx cs=>obtain ⟨b',arr,ty,h1,h2,_⟩:=hr;rw [h1] at hb;simp [dw] at hb;subst hb;exact (Array.getElem?_eq_some_iff.1 h2).1
 | own tip t sz es=>
  obtain ⟨xs,h1,_⟩:=hr;rcases h1.2 with ⟨hv,_⟩|⟨gb,cap,cur,hv,_,hg,_⟩
  ·rw [hv] at hb;simp [dw] at hb
  ·rw [hv] at hb;simp [dw] at hb;subst hb;exact hg.lt
 | om es=>obtain ⟨b',ents,clock,h1,h2,_⟩:=hr;rw [h1] at hb;simp [dw] at hb;subst hb;exact (Array.getElem?_eq_some_iff.1 h2).1
 | _=>simp [EV.owns] at ho
structure Grew (qt:Prop) (w w':World):Prop where
 size:w.heap.size≤w'.heap.size
 old:∀b,b<w.heap.size→w'.heap[b]?=w.heap[b]?
 io:w'.os=w.os∧w'.output=w.output∧(qt→TD w w')
theorem Grew.alloc {qt:Prop} (w:World) (o:Obj):Grew qt w (w.alloc o):=⟨by simp,fun b hb=>heap_alloc_old w o b hb,rfl,rfl,fun _=>⟨rfl,Nat.le_refl _⟩⟩
theorem Imm.grew {qt:Prop} {w':World} (h:Imm g w) (hg:Grew qt w w'):Imm g w':=
 ⟨fun b o v hv=>by rw [World.cell?_of_block (hg.old b (cell_lt (h.m b o v hv)))];exact h.m b o v hv,
  fun b es he=>(h.mm b es he).keep (hg.old b (h.mm b es he).lt)⟩
theorem Base.grew {qt:Prop} {w':World} (h:Base P glob g s w) (hg:Grew qt w w'):Base P glob g s w':=
 ⟨h.imm.grew hg,h.heap.next (.refl _ _) (fun _ _=>rfl) hg.size (fun b hb=>⟨hg.old b (h.heap.taken_lt hb),rfl,rfl⟩),h.glob⟩
theorem Sim.grew {w':World} {tm:Nat→Value} (h:Sim P glob g s B w tm env) (hg:Grew True w w'):Sim P glob g s B w' tm env∧Step True g s.length B w g s.length w':=by
 refine ⟨⟨h.base.grew hg,h.env.next (.refl _ _) (fun k e hk ho b hb=>⟨hg.old b (Az h.env hk ho hb),rfl,rfl,fun ht=>ht⟩),Nat.le_trans h.B hg.size⟩,
  ⟨.refl _ _,hg.size,fun b hb _=>hg.old b (by have:=h.B;omega),fun _ _ _=>rfl,fun _ _=>rfl,fun b hb=>.inl hb,hg.io⟩⟩
theorem Di {tm:Nat→Value} (h:Sim P glob g s B w tm env) {b:Nat} (hb:w.heap.size≤b):(∀k e',lk env k=some e'→e'.owns=true→dw (tm k)≠some b)∧¬g.taken s.length b:=
 ⟨fun k e' hk ho hbk=>by have:=Az h.env hk ho hbk;omega,fun ht=>by have:=h.base.heap.taken_lt ht;omega⟩
theorem Sim.push {g':ai} {w':World} {tm:Nat→Value} {ob:fZ} (h:Sim P glob g s B w tm env) (hg:Grew True w w') (hle:g.le s.length g' (s.length+1)) (hh:∀l,l<s.length→g'.hist l=g.hist l)
  (hm:∀b,b<w.heap.size→g'.m b=g.m b∧g'.mm b=g.mm b) (hbl:∀b,g'.bl s.length b→w.heap.size≤b∧b<w'.heap.size) (him:Imm g' w') (ho:Nh P g' (s.length+1) w' s.length ob):
  Step True g s.length B w g' (s++[ob]).length w'∧Sim P glob g' (s++[ob]) B w' tm env:=by
 have hB:=h.B;have hlen:(s++[ob]).length=s.length+1:=by simp
 have hbl2:∀l,l<s.length→∀b,g'.bl l b→g.bl l b:=by
  intro l hl b hb';rcases hb' with hb' | ⟨k,v,hk,hv⟩
  ·exact .inl ((hle.L l hl).symm.trans hb')
  ·rw [hh l hl] at hk;exact .inr ⟨k,v,hk,hv⟩
 have htk:∀b,g'.taken (s.length+1) b→g.taken s.length b∨w.heap.size≤b:=by
  rintro b ⟨l,hl,hb⟩;by_cases hls:l<s.length
  ·exact .inl ⟨l,hls,hbl2 l hls b hb⟩
  ·have:l=s.length:=by omega
   subst this;exact .inr (hbl b hb).1
 rw [hlen];refine ⟨⟨hle,hg.size,fun b hb _=>hg.old b (by omega),fun b hb _=>(hm b (by omega)).1,fun b hb=>(hm b (by omega)).2,fun b hb=>?_,hg.io⟩,⟨⟨him,⟨fun l l' b hl hl' h1 h2=>?_,fun l b hl hb=>?_,fun l o hs=>?_⟩,h.base.glob.mono hle⟩, ?_,Nat.le_trans hB hg.size⟩⟩
 ·rcases htk b hb with h1|h1
  ·exact .inl h1
  ·exact .inr (by omega)
 ·rw [hlen] at hl hl';by_cases e:l<s.length
  ·by_cases e':l'<s.length
   ·exact h.base.heap.inj l l' b e e' (hbl2 l e b h1) (hbl2 l' e' b h2)
   ·have:l'=s.length:=by omega
    subst this;have q1:=h.base.heap.lt l b e (hbl2 l e b h1);have q2:=(hbl b h2).1;omega
  ·have:l=s.length:=by omega
   subst this;by_cases e':l'<s.length
   ·have q1:=h.base.heap.lt l' b e' (hbl2 l' e' b h2);have q2:=(hbl b h1).1;omega
   ·omega
 ·rw [hlen] at hl;by_cases e:l<s.length
  ·exact Nat.lt_of_lt_of_le (h.base.heap.lt l b e (hbl2 l e b hb)) hg.size
  ·have:l=s.length:=by omega
   subst this;exact (hbl b hb).2
 ·rw [hlen];have hl:l<(s++[ob]).length:=(List.getElem?_eq_some_iff.1 hs).1;rw [hlen] at hl;by_cases e:l<s.length
  ·rw [List.getElem?_append_left e] at hs;refine (h.base.heap.obj l o hs).next hle e (hh l e) (fun b hb=>?_)
   have:=h.base.heap.lt l b e hb
   exact ⟨hg.old b this,(hm b this).1,(hm b this).2⟩
  ·have:l=s.length:=by omega
   subst this;simp at hs;subst hs;exact ho
 ·rw [hlen];refine h.env.next hle (fun k e hk ho' b hb=>?_);have hlt:=Az h.env hk ho' hb;refine ⟨hg.old b hlt,(hm b hlt).1,(hm b hlt).2,fun ht=>?_⟩;rcases htk b ht with h1|h1
  ·exact h1
  ·omega
theorem Ic (h:Sim P glob g s B w (Act.tm a) env) {cells:Array Value} {cs:List AV} {ty:TypeId} (hr:aW g s.length cells.toList cs) (h1:fD cells.toList) {x:Sem Next}
  (hx:x.run P w=.ok (.value (.pointer (some ⟨w.heap.size,0,none⟩))) (w.alloc (.cells cells ty))):Good P glob g s B w a x (.bx cs) env s:=by
 obtain ⟨h2,s2⟩:=h.grew (Grew.alloc (qt:=True) w (.cells cells ty));refine ⟨_,_,g,.inl hx,s2,h2,⟨fun d _=>⟨w.heap.size,cells,ty,by rw [upd_same],heap_alloc_new w _,hr,h1,h.base.imm.fresh (Nat.le_refl _),h.B⟩,fun j hj=>by simp [EV.refers] at hj,fun _ b hb=>?_⟩⟩;simp [dw] at hb;subst hb;exact Di h (Nat.le_refl _)
theorem abr {x:IX} (h:Sim P glob g s B w (Act.tm a) env) (hc:aT P o.op (.lbox x)=true) (hr:aop glob call cx env s (.lbox x)=.ok e env' s'):Good P glob g s B w a (execOp a.eval o) e env' s':=by
 simp only [aT] at hc
 split at hc
 ·rename_i t x' hop;simp only [aop] at hr
  split at hr
  ·rename_i v env1 he
   split at hr
   ·rename_i h1;cases hr;obtain ⟨g1,s1,m1,r1⟩:=qE hc h he;obtain ⟨q1,q2⟩:=yw r1 h1;refine (Ic (ty:=t) m1 q1 q2 ?_).after (env1:=[]) s1 rfl;simp only [execOp,hop];exact aX (by simp [Instr.box,newVar,newRow,Sem.run_bind])
   ·cases hr
  ·cases hr
 ·cases hc
theorem ug {t:TypeId} {zs:List AV} (h:BK P t zs=true):∃i z,P.info? t=some i∧i.zero=some z∧Ph z zs=true:=by
 unfold BK at h
 cases hi:P.info? t with
 | none=>simp [hi] at h
 | some i=>
  cases hz:i.zero with
  | none=>simp [hi,hz] at h
  | some z=>simp [hi,hz] at h;exact ⟨i,z,rfl,hz,h⟩
theorem rX {z:Value} {zs:List AV} (h:Ph z zs=true) (g:ai) (n:Nat):aW g n z.cells.toList zs∧fD z.cells.toList:=by
 simp only [Ph,Bool.and_eq_true] at h;exact ⟨zX g n _ _ h.2,fun x hx=>List.all_eq_true.1 h.1 x hx⟩
theorem NU {zs:List AV} (h:Sim P glob g s B w (Act.tm a) env) (hc:aT P o.op (.lalloc zs)=true) (hr:aop glob call cx env s (.lalloc zs)=.ok e env' s'):Good P glob g s B w a (execOp a.eval o) e env' s':=by
 simp only [aT] at hc
 split at hc
 ·rename_i t hop;simp only [aop] at hr;cases hr;obtain ⟨i,z,hi,hz,hok⟩:=ug hc;obtain ⟨q1,q2⟩:=rX hok g s.length;refine Ic (ty:=t) h q1 q2 ?_;simp only [execOp,hop];exact aX (by simp [Instr.alloc,newVar,newRow,Sem.run_bind,zeroValue,typeInfo,hi,hz])
 ·cases hc
def ai.place (g:ai) (l b:Nat):ai:={ g with L:=fun l'=>if l'=l then b else g.L l',hist:=fun l'=>if l'=l then fun _=>none else g.hist l' }
theorem QG (h:Sim P glob g s B w (Act.tm a) env) {ob:Obj} {ho:fZ} (hrow:(∀t sz k,ho≠.row t sz k)∧(∀es,ho≠.map es)∧(∀t sz v cs,ho≠.buf t sz v cs)∧∀es,ho≠.umap es)
  (hcells:∀cs,ho=.cells cs→∃arr ty,ob=.cells arr ty (0,0)∧aW g s.length arr.toList cs∧fD arr.toList)
  (hloop:∀env ps asg body pend,ho=.loop env ps asg body pend→∃r,ob=.loop r∧Eh P g s.length r env ps asg body pend)
  (hdfr:ho=.dfr→ob=.deferred (some [])):
  Step True g s.length B w (g.place s.length w.heap.size) (s++[ho]).length (w.alloc ob)∧Sim P glob (g.place s.length w.heap.size) (s++[ho]) B (w.alloc ob) (Act.tm a) env:=by
 have hg:=Grew.alloc (qt:=True) w ob;have hle:g.le s.length (g.place s.length w.heap.size) (s.length+1):=⟨fun _ _ _ h=>h,fun _ _ h=>h,fun l hl=>by simp [ai.place];omega,fun l hl k v hk=>by simp [ai.place];rw [if_neg (by omega)];exact hk,by omega⟩;have hLn:(g.place s.length w.heap.size).L s.length=w.heap.size:=by simp [ai.place]
 have hfr:=h.base.imm.fresh (Nat.le_refl w.heap.size);have hnc:nM (g.place s.length w.heap.size) ((g.place s.length w.heap.size).L s.length):=by rw [hLn];exact ⟨hfr.m,hfr.mm⟩
 refine h.push hg hle (fun l hl=>by simp [ai.place];omega) (fun _ _=>⟨rfl,rfl⟩) (fun b hb=>?_) ⟨(h.base.imm.grew hg).m,(h.base.imm.grew hg).mm⟩ ?_
 ·rcases hb with hb|⟨k,v,hk,_⟩
  ·rw [hLn] at hb;subst hb;simp
  ·simp [ai.place] at hk
 ·cases ho with
  | cells cs=>obtain ⟨arr,ty,rfl,q2,q3⟩:=hcells cs rfl;exact ⟨hnc,arr,ty,by rw [hLn];exact heap_alloc_new w _,q2.mono hle,q3⟩
  | loop env ps asg body pend=>obtain ⟨r,rfl,q2⟩:=hloop env ps asg body pend rfl;exact ⟨hnc,r,by rw [hLn];exact heap_alloc_new w _,q2.mono hle⟩
  | dfr=>rw [hdfr rfl];exact ⟨hnc,by rw [hLn];exact heap_alloc_new w _⟩
  | dead=>trivial
  | row t sz k=>exact absurd rfl (hrow.1 t sz k)
  | map es=>exact absurd rfl (hrow.2.1 es)
  | buf t sz v cs=>exact absurd rfl (hrow.2.2.1 t sz v cs)
  | umap es=>exact absurd rfl (hrow.2.2.2 es)
theorem QK (h:Sim P glob g s B w (Act.tm a) env) {cells:Array Value} {cs:List AV} {ty:TypeId} (hr:aW g s.length cells.toList cs) (h1:fD cells.toList) {x:Sem Next}
  (hx:x.run P w=.ok (.value (.pointer (some ⟨w.heap.size,0,none⟩))) (w.alloc (.cells cells ty))):Good P glob g s B w a x (.v (.pt s.length 0)) env (s++[.cells cs]):=by
 obtain ⟨h2,h3⟩:=QG h (ob:=.cells cells ty) (ho:=.cells cs) ⟨(fun _ _ _ hh=>by cases hh),(fun _ hh=>by cases hh),(fun _ _ _ _ hh=>by cases hh),(fun _ hh=>by cases hh)⟩ (fun cs' hcs=>by cases hcs;exact ⟨cells,ty,rfl,hr,h1⟩) (fun _ _ _ _ _ hh=>by cases hh) (fun hh=>by cases hh);refine ⟨_,_,_,.inl hx,h2,h3,.v ?_⟩
 have:=Rep.pt (g:=g.place s.length w.heap.size) (n:=(s++[fZ.cells cs]).length) s.length 0 (by simp)
 simpa [ai.place] using this
theorem aby {x:IX} (h:Sim P glob g s B w (Act.tm a) env) (hc:aT P o.op (.hbox x)=true) (hr:aop glob call cx env s (.hbox x)=.ok e env' s'):Good P glob g s B w a (execOp a.eval o) e env' s':=by
 simp only [aT] at hc
 split at hc
 ·rename_i t x' hop;simp only [aop] at hr
  split at hr
  ·rename_i v env1 he
   split at hr
   ·rename_i h1;cases hr;obtain ⟨g1,s1,m1,r1⟩:=qE hc h he;obtain ⟨q1,q2⟩:=yw r1 h1;refine (QK (ty:=t) m1 q1 q2 ?_).after (env1:=[]) s1 rfl;simp only [execOp,hop];exact aX (by simp [Instr.box,newVar,newRow,Sem.run_bind])
   ·cases hr
  ·cases hr
 ·cases hc
theorem Xp {zs:List AV} (h:Sim P glob g s B w (Act.tm a) env) (hc:aT P o.op (.halloc zs)=true) (hr:aop glob call cx env s (.halloc zs)=.ok e env' s'):Good P glob g s B w a (execOp a.eval o) e env' s':=by
 simp only [aT] at hc
 split at hc
 ·rename_i t hop;simp only [aop] at hr;cases hr;obtain ⟨i,z,hi,hz,hok⟩:=ug hc;obtain ⟨q1,q2⟩:=rX hok g s.length;refine QK (ty:=t) h q1 q2 ?_;simp only [execOp,hop];exact aX (by simp [Instr.alloc,newVar,newRow,Sem.run_bind,zeroValue,typeInfo,hi,hz])
 ·cases hc
end Go.Ai
namespace Go.Ai
variable {P:Program} {glob:Nat→Option (List AV)} {g:ai} {s:St} {B:Nat} {w:World} {env:Env} {a:Act} {o:Oper} {call:AV→List AV→St→Ctx→CO} {cx:Ctx} {e:EV} {env':Env} {s':St}
structure Src (P:Program) (w:World) (sz:Nat) (x:Value) (m:Nat) (news:List Value):Prop where
 len:∀w':World,(Builtin.lenOf x).run P w'=.ok m w'
 cells:∀w':World,w'.heap=w.heap→(Builtin.firstCells sz m x).run P w'=.ok news.toArray w'
 size:news.length=m * sz
 one:fD news
theorem xw {sz n len cap b o:Nat} {xs:List Value} (hl:xs.length=n * sz) (h:pI w b o xs):(Builtin.firstCells sz n (.slice (some ⟨b,o,none⟩) len cap)).run P w=.ok xs.toArray w:=by
 simp only [Builtin.firstCells];rw [←hl]
 exact run_loadCells_list (P:=P) w ⟨b,o,none⟩ xs (fun j v hv=>by
  rw [Addr.add_lit];obtain ⟨hj,rfl⟩:=List.getElem?_eq_some_iff.1 hv
  exact h j hj)
theorem Cm (P:Program) (g o:Nat) (t:TypeId) (fz:Nat×Nat):∀(vs:List Value) (i:Nat) (cur:Array Value) (w:World),w.heap[g]?=some (.cells cur t fz)→(fz=(0,0)∨cur.size≤fz.1)→o+i+vs.length≤cur.size→(∀v∈vs,v.oneCell'=true)→
  (storeCells ⟨g,o,none⟩ vs i).run P w=.ok () (w.setRow g (cur.toList.take (o+i)++vs++cur.toList.drop (o+i+vs.length)).toArray)
 | [],i,cur,w,hg,_,_,_=>by
  simp only [storeCells,List.append_nil,List.length_nil,Nat.add_zero,List.take_append_drop,Array.toArray_toList];rw [setRow_self w g cur t fz hg];rfl
 | v::rest,i,cur,w,hg,hfz,hl,h1=>by
  have hi:o+i<cur.size:=by simp at hl;omega
  have hadd:(⟨g,o,none⟩:Addr).add i=⟨g,o+i,none⟩:=by unfold Addr.add;split<;>simp_all
  have hcell:w.cell? ⟨g,o+i,none⟩=some cur[o+i]:=by simp [World.cell?,hg,hi]
  have hfro:w.frozen? ⟨g,o+i,none⟩=false:=by
   obtain ⟨lo,hi'⟩:=fz;simp only [World.frozen?,hg,Bool.and_eq_false_iff,decide_eq_false_iff_not];rcases hfz with hz|hz
   ·cases hz;right;omega
   ·left;simp only at hz;omega
  have hst:(store ((⟨g,o,none⟩:Addr).add i) v).run P w=.ok () (w.setRow g (cur.setIfInBounds (o+i) v)):=by
   rw [hadd,run_store P w _ v _ (h1 v (by simp)),hcell];simp [hfro,setCell_eq_setRow w g (o+i) cur t fz v hg]
  have ih:=Cm P g o t fz rest (i+1) (cur.setIfInBounds (o+i) v) (w.setRow g (cur.setIfInBounds (o+i) v)) (setRow_heap w g cur _ t _ hg) (by simpa using hfz) (by simp at hl ⊢;omega) (fun x hx=>h1 x (by simp [hx]));simp only [storeCells,Sem.run_bind,hst,Result.andThen_ok,ih,setRow_setRow]
  congr 3
  have e:=list_seg_step cur.toList (o+i) v rest (by simp at hl ⊢;omega)
  simpa [Array.toList_setIfInBounds,Nat.add_assoc] using e
theorem Wn {t t' ty el:TypeId} {tip:Bool} {i:TypeInfo} {z:Value} {sz n m:Nat} {xs news:List Value} {v x:Value} {d:TypeDesc} (ht:P.underlying t=some (.slice el)) (ht':P.underlying t'=some d)
  (hd:(∃q,d=.slice q)∨d=.string) (hi:P.info? el=some i) (hz:i.zero=some z) (hsz:i.size=sz) (hzs:z.cells.size=sz) (hown:H8 w tip B el sz v n xs) (hx:Src P w sz x m news)
  (hmax:n+m≤aQ) (hby:i.bytes≤65536) (hB:B≤w.heap.size):
  ∃v' w',(Builtin.append_ #[t,t'] ty #[v,x]).run P w=.ok v' w'∧H8 w' tip B el sz v' (n+m) (xs++news)∧
   ((∃gb cur,dw v=some gb∧dw v'=some gb∧rowT w tip gb cur el∧w'=w.setRow gb (cur.toList.take xs.length++news++cur.toList.drop (xs.length+news.length)).toArray∧xs.length≤cur.size∧B≤gb)∨
    (Grew True w w'∧∀b,dw v'=some b→w.heap.size≤b)):=by
 subst hsz;have hmax':n+m≤1073741824:=hmax;have hlen:(xs++news).length=(n+m) * i.size:=by rw [List.length_append,hown.1,hx.size,Nat.add_mul]
 have hfitb:∀old,old<n+m→¬(281474976710656<Builtin.nextslicecap (n+m) old * i.bytes):=by
  intro old ho;have h1:=nextslicecap_le ho;have h2:Builtin.nextslicecap (n+m) old * i.bytes≤2147483648 * 65536:=Nat.mul_le_mul (by omega) hby;omega
 have grown:∀old,old<n+m→H8 (w.drew.alloc (.cells (xs.toArray++news.toArray++Builtin.zeroCells z.cells (grownCap w (n+m) old el - (n+m))) el)) tip B el i.size
    (.slice (some ⟨w.heap.size,0,none⟩) (n+m) (grownCap w (n+m) old el)) (n+m) (xs++news):=by
  intro old ho;have hge:=grownCap_ge w (n+m) old el;refine ⟨hlen,.inr ⟨w.heap.size,_,_,rfl,hB,.of (heap_alloc_new w.drew _),hge,grownCap_le_maxLen w _ _ _ (by simp only [maxLen];omega), ?_, ?_⟩⟩
  ·simp only [Array.size_append,List.size_toArray,size_zeroCells,hzs];rw [hown.1,hx.size,←Nat.add_mul,←Nat.add_mul]
   congr 1;omega
  ·rw [←hlen];simp only [Array.toList_append];rw [List.take_left'];rfl
 have hgrew:∀ob,Grew True w (w.drew.alloc ob):=fun ob=>⟨show w.heap.size≤(w.heap.push ob).size by simp,fun b hb=>heap_alloc_old w.drew ob b hb,rfl,rfl,fun _=>⟨rfl,Nat.le_succ _⟩⟩;have hcd:∀w':World,w'.heap=w.drew.heap→(Builtin.firstCells i.size m x).run P w'=.ok news.toArray w':=fun w' hw'=>hx.cells w' hw';rcases hown.2 with ⟨rfl,rfl⟩|⟨gb,cap,cur,rfl,hBg,⟨fz,hg,hfz⟩,hcap,hmaxl,hsize,htake⟩
 ·have hx0:xs=[]:=List.eq_nil_of_length_eq_zero (by rw [hown.1];simp);subst hx0;by_cases hm:m=0
  ·subst hm;have hn0:news=[]:=List.eq_nil_of_length_eq_zero (by rw [hx.size];simp);subst hn0;refine ⟨.slice none 0 0,w, ?_,by simpa using hown,.inr ⟨⟨Nat.le_refl _,fun _ _=>rfl,rfl,rfl,fun _=>⟨rfl,Nat.le_refl _⟩⟩,fun b hb=>by simp [dw] at hb⟩⟩;have hc0:=hx.cells w rfl
   rcases hd with ⟨q,rfl⟩|rfl<;>simp [Builtin.append_,run_underlying ht,run_underlying ht',sizeOf,typeInfo,hi,hx.len,hc0]
  ·refine ⟨_,_, ?_,grown 0 (by omega),.inr ⟨hgrew _,fun b hb=>by simp [dw] at hb;omega⟩⟩;have h48:=hfitb 0 (by omega);simp only [Nat.zero_add] at h48 ⊢;have h63:¬(9223372036854775807<(m:Int)):=by omega
   rcases hd with ⟨q,rfl⟩|rfl<;>(simp [Builtin.append_,run_underlying ht,run_underlying ht',sizeOf,typeInfo,zeroValue,hi,hz,hx.len,hm,h63,h48,Question.forced,run_firstCells_none,hcd w.drew rfl,newRow,grownCap])
 ·have hxl:xs.length≤cur.size:=by rw [hown.1,hsize];exact Nat.mul_le_mul_right _ hcap
  by_cases hroom:n+m≤cap
  ·have hfit:n * i.size+news.length≤cur.size:=by
    rw [hx.size,←Nat.add_mul,hsize];exact Nat.mul_le_mul_right _ hroom
   have hst:=Cm P gb (n * i.size) el fz news 0 cur w hg (hfz.imp id (·.2)) (by simpa using hfit) hx.one;simp only [Nat.add_zero] at hst;refine ⟨.slice (some ⟨gb,0,none⟩) (n+m) cap,w.setRow gb (cur.toList.take (n * i.size)++news++cur.toList.drop (n * i.size+news.length)).toArray, ?_,⟨hlen,.inr ⟨gb,cap,_,rfl,hBg,⟨fz,jA hg, ?_⟩,hroom,hmaxl, ?_, ?_⟩⟩,.inl ⟨gb,cur,rfl,rfl,⟨fz,hg,hfz⟩,by rw [hown.1],hxl,hBg⟩⟩
   ·rcases hd with ⟨q,rfl⟩|rfl<;>(simp [Builtin.append_,run_underlying ht,run_underlying ht',sizeOf,typeInfo,hi,hx.len,hroom,hx.cells w rfl,Addr.add_lit,hst])
   ·rcases hfz with hz|⟨hz,hz2⟩
    ·exact .inl hz
    ·refine .inr ⟨hz,Nat.le_trans ?_ hz2⟩
     simp;omega
   ·simp;omega
   ·rw [←hlen,List.length_append,hown.1];simp only [List.toList_toArray];rw [←htake];rw [List.take_append_of_le_length (by simp;omega),List.take_of_length_le (by simp;omega)]
  ·refine ⟨_,_, ?_,grown cap (by omega),.inr ⟨hgrew _,fun b hb=>by simp [dw] at hb;omega⟩⟩;have h48:=hfitb cap (by omega);have h63:¬(9223372036854775807<((n:Int)+(m:Int))):=by omega
   have hca:pI w gb 0 xs:=by rw [←htake];exact (qW hg).take _
   have hfo:(Builtin.firstCells i.size n (.slice (some ⟨gb,0,none⟩) n cap)).run P w.drew=.ok xs.toArray w.drew:=xw hown.1 hca
   rcases hd with ⟨q,rfl⟩|rfl<;>(simp [Builtin.append_,run_underlying ht,run_underlying ht',sizeOf,typeInfo,zeroValue,hi,hz,hx.len,hroom,h63,h48,Question.forced,hfo,hcd w.drew rfl,newRow,grownCap])<;>(congr 2;apply Array.ext';simp [List.append_assoc])
theorem OW {t t' ty el:TypeId} {i:TypeInfo} {z:Value} {sz n m:Nat} {xs news:List Value} {v x:Value} {d:TypeDesc} (ht:P.underlying t=some (.slice el)) (ht':P.underlying t'=some d)
  (hd:(∃q,d=.slice q)∨d=.string) (hi:P.info? el=some i) (hz:i.zero=some z) (hsz:i.size=sz) (hzs:z.cells.size=sz) (hown:w.ownsRow B el sz v n xs) (hx:Src P w sz x m news)
  (hmax:n+m≤aQ) (hby:i.bytes≤65536) (hB:B≤w.heap.size):
  ∃v' w',(Builtin.append_ #[t,t'] ty #[v,x]).run P w=.ok v' w'∧w'.ownsRow B el sz v' (n+m) (xs++news)∧
   ((∃gb cur,dw v=some gb∧dw v'=some gb∧w.heap[gb]?=some (.cells cur el (0,0))∧w'=w.setRow gb (cur.toList.take xs.length++news++cur.toList.drop (xs.length+news.length)).toArray∧xs.length≤cur.size∧B≤gb)∨
    (Grew True w w'∧∀b,dw v'=some b→w.heap.size≤b)):=by
 obtain ⟨v',w',h1,h2,h3⟩:=Wn (tip:=false) ht ht' hd hi hz hsz hzs (Qb hown) hx hmax hby hB;refine ⟨v',w',h1,h2.z, ?_⟩;rcases h3 with ⟨gb,cur,e1,e2,e3,e4,e5,e6⟩|h3
 ·exact .inl ⟨gb,cur,e1,e2,e3.z,e4,e5,e6⟩
 ·exact .inr h3
theorem agf {t t' ty el:TypeId} {sz:Nat} {d:TypeDesc} (hsl:sliceOf P t el sz=true) (ht':P.underlying t'=some d) (hd:(∃q,d=.slice q)∨d=.string)
  (hinf:(P.info? el).any (fun i=>i.bytes≤65536 && i.zero.any fun z=>z.cells.size == sz)=true) (h:Sim P glob g s B w (Act.tm a) env) {k:Nat} {tip:Bool} {es ys:List AV}
  (hk:lk env k=some (.own tip el sz es)) {x:Value} {news:List Value} (hx:Src P w sz x ys.length news) (hr:aW g s.length news (ys.flatMap AV.cells)) (hys:∀y∈ys,y.cells.length=sz)
  (hmax:es.length+ys.length≤aQ) {q:Sem Next} (hq:∀{v' w'},(Builtin.append_ #[t,t'] ty #[Act.tm a k,x]).run P w=.ok v' w'→q.run P w=.ok (.value v') w'):
  Good P glob g s B w a q (.own tip el sz (es++ys)) ((k,.v .u)::sD env k) s:=by
 unfold sliceOf at hsl
 split at hsl
 ·rename_i el' hu;simp only [Bool.and_eq_true,beq_iff_eq] at hsl;obtain ⟨hel,hsz⟩:=hsl;rw [hel] at hu;obtain ⟨i,hi,hisz⟩:=oU hsz;rw [hi] at hinf;simp only [Option.any_some,Bool.and_eq_true,decide_eq_true_eq] at hinf;obtain ⟨hby,hzz⟩:=hinf
  cases hz:i.zero with
  | none=>simp [hz] at hzz
  | some z=>
   simp [hz] at hzz;obtain ⟨xs,q1,q2,q3,q4,q5,q6⟩:=h.env.rel k _ hk;obtain ⟨v',w',r1,r2,r3⟩:=Wn (ty:=ty) hu ht' hd hi hz hisz hzz q1 hx hmax hby h.B;have hown':aW g s.length (xs++news) ((es++ys).flatMap AV.cells):=by rw [List.flatMap_append];exact q2.append hr
   have hone:fD (xs++news):=fun u hu=>(List.mem_append.1 hu).elim (q3 u) (hx.one u);have hsz':∀y∈es++ys,y.cells.length=sz:=fun y hy=>(List.mem_append.1 hy).elim (q4 y) (hys y);have hlen:(es++ys).length=es.length+ys.length:=List.length_append;rcases r3 with ⟨gb,cur,e1,e2,e3T,rfl,e5,e6⟩|⟨hgrew,hfresh⟩
   ·obtain ⟨p1,p2,p3⟩:=q6 gb e1;obtain ⟨fz,e3,e3z⟩:=id e3T
    -- in place: the claims are extended if the slice's elements are fixed
    have hcur:∀j,j<xs.length→cur[j]?=xs[j]?:=by
     intro j hj;rcases q1.2 with ⟨hv,_⟩|⟨gb',cap,cur',hv,_,hg',_,_,_,htake⟩
     ·rw [hv] at e1;simp [dw] at e1
     ·rw [hv] at e1;simp [dw] at e1;subst e1;obtain ⟨fz',hg',_⟩:=hg';rw [e3] at hg';cases hg';rw [←htake,List.getElem?_take,if_pos (by rw [←q1.1];exact hj)];simp
    have hnew:∀j,j<xs.length→(cur.toList.take xs.length++news++cur.toList.drop (xs.length+news.length)).toArray[j]?=cur[j]?:=by
     intro j hj;simp only [List.getElem?_toArray];rw [List.append_assoc,List.getElem?_append_left (by simp;omega),List.getElem?_take,if_pos hj];simp
    let g':ai:=if tip then g.claim gb (xs++news) else g
    have hoff:=h.env.off k _ hk rfl gb e1
    have hgm:∀b,b≠gb→g'.m b=g.m b:=by
     intro b hb;funext j
     cases tip<;>simp [g',ai.claim,hb]
    have hgL:g'.L=g.L:=by cases tip<;>rfl
    have hgH:g'.hist=g.hist:=by cases tip<;>rfl
    have hgT:∀b,g'.taken s.length b→g.taken s.length b:=by intro b hb;cases tip<;>exact hb
    have hgmm:g'.mm=g.mm:=by cases tip<;>rfl
    have hle:g.le s.length g' s.length:=by
     refine ⟨fun b o v hm=>?_,fun b es hm=>by rw [hgmm];exact hm,fun l _=>by rw [hgL],fun l _ k v hk=>by rw [hgH];exact hk,Nat.le_refl _⟩;by_cases hb:b=gb
     ·subst hb;by_cases ho:o<xs.length
      ·rw [p3 o ho] at hm
       cases tip with
       | false=>simp at hm
       | true=>
        simp at hm;simp only [g',if_true,ai.claim,true_and];rw [if_pos (by simp;omega),List.getElem?_append_left ho,List.getElem?_eq_getElem ho,hm]
      ·rw [p2 o (by omega)] at hm;cases hm
     ·rw [hgm b hb];exact hm
    have hbase1:Base P glob g s (w.setRow gb (cur.toList.take xs.length++news++cur.toList.drop (xs.length+news.length)).toArray):=by
     refine h.base.setRow e3 hoff (fun o v hv=>?_) p1;by_cases ho:o<xs.length
     ·exact hnew o ho
     ·rw [p2 o (by omega)] at hv;cases hv
    have hrow':(w.setRow gb (cur.toList.take xs.length++news++cur.toList.drop (xs.length+news.length)).toArray).heap[gb]?=some (.cells (cur.toList.take xs.length++news++cur.toList.drop (xs.length+news.length)).toArray el fz):=jA e3
    have hcell:∀j (hj:j<(xs++news).length),(cur.toList.take xs.length++news++cur.toList.drop (xs.length+news.length)).toArray[j]?=some (xs++news)[j]:=by
     intro j hj;by_cases hjx:j<xs.length
     ·rw [hnew j hjx,hcur j hjx,List.getElem?_eq_getElem hjx,List.getElem_append_left hjx]
     ·simp only [List.getElem?_toArray];rw [List.append_assoc,List.getElem?_append_right (by simp;omega)];simp only [List.length_take,Array.length_toList,Nat.min_eq_left e5];simp at hj;rw [List.getElem?_append_left (by omega),List.getElem?_eq_getElem (by omega),List.getElem_append_right (by omega)]
    have him:Imm g' (w.setRow gb (cur.toList.take xs.length++news++cur.toList.drop (xs.length+news.length)).toArray):=by
     refine ⟨fun b o v hm=>?_,by rw [hgmm];exact hbase1.imm.mm⟩;by_cases hb:b=gb
     ·subst hb
      cases tip with
      | false=>exact hbase1.imm.m b o v hm
      | true=>
       simp only [g',if_true,ai.claim,true_and] at hm
       split at hm
       ·rename_i ho;rw [cell_of_row _ b o _ el fz hrow',hcell o ho];rw [List.getElem?_eq_getElem ho] at hm;exact hm
       ·exact hbase1.imm.m b o v hm
     ·rw [hgm b hb] at hm;exact hbase1.imm.m b o v hm
    refine ⟨v',_,g',.inl (hq r1),⟨hle,by simp,fun b hb _=>aV _ (by omega),fun b hb _=>hgm b (by omega),fun b _=>by rw [hgmm],fun b hb=>.inl (hgT b hb),rfl,rfl,fun _=>⟨rfl,Nat.le_refl _⟩⟩,
     ⟨hbase1.fix hle him hgH (fun b hb=>⟨hgm b (fun hbg=>hoff (by subst hbg;exact hb)),by rw [hgmm]⟩),h.env.dropNext k hle (fun k' x hk' hx' hne b hb=>⟨aV _ (fun hbg=>?_),hgm b (fun hbg=>?_),by rw [hgmm],hgT b⟩),by simpa using h.B⟩,
     ⟨fun dd _=>⟨xs++news, ?_,hown'.mono hle,hone,hsz',q5,fun b hb=>?_⟩,fun j hj=>by simp [EV.refers] at hj,fun _ b hb=>⟨fun k' e' hk' he' hb'=>?_,fun hl=>?_⟩⟩⟩
    ·subst hbg;exact h.env.apart k' k x _ hk' hk hx' rfl hne b hb e1
    ·subst hbg;exact h.env.apart k' k x _ hk' hk hx' rfl hne b hb e1
    ·rw [upd_same,hlen];exact r2
    ·rw [upd_same,e2] at hb;cases hb;refine ⟨by rw [hgmm];exact p1,fun j hj=>?_,fun j hj=>?_⟩
     ·have hj2:xs.length≤j:=by simp at hj;omega
      cases tip with
      | false=>exact p2 j hj2
      | true=>
       simp only [g',if_true,ai.claim,true_and];rw [if_neg (by omega)];exact p2 j hj2
     ·cases tip with
      | false=>
       show g.m gb j=none;by_cases hjx:j<xs.length
       ·simpa using p3 j hjx
       ·exact p2 j (by omega)
      | true=>
       simp only [g',if_true,ai.claim,true_and];rw [if_pos hj,List.getElem?_eq_getElem hj]
    ·rw [e2] at hb;cases hb
     have hne:k'≠k:=fun hkk=>by
      subst hkk;rw [kV] at hk';cases hk';simp [EV.owns] at he'
     rw [gG _ _ (Ne.symm hne),vK] at hk'
     cases hy:lk env k' with
     | none=>rw [hy] at hk';simp at hk'
     | some y=>
      rw [hy] at hk';simp only [Option.map_some,Option.some.injEq] at hk'
      split at hk'
      ·subst hk';simp [EV.owns] at he'
      ·subst hk';exact h.env.apart k' k y _ hy hk he' rfl hne gb hb' e1
    ·rw [e2] at hb;cases hb;exact hoff (hgT _ hl)
   ·obtain ⟨h2,s2⟩:=h.grew hgrew
    -- a new block: it is claimed if the elements are fixed
    cases hb':dw v' with
    | none=>
     refine ⟨v',w',g,.inl (hq r1),s2,⟨h2.base,h2.env.dropNext k (.refl _ _) (fun k' x hk' hx' hne b hb=>⟨rfl,rfl,rfl,fun ht=>ht⟩),h2.B⟩,
      ⟨fun dd _=>⟨xs++news,by rw [upd_same,hlen];exact r2,hown',hone,hsz',q5,fun b hb=>by rw [upd_same,hb'] at hb;cases hb⟩,fun j hj=>by simp [EV.refers] at hj,fun _ b hb=>by rw [hb'] at hb;cases hb⟩⟩
    | some nb=>
     have hnb:=hfresh nb hb';have hfr:=h.base.imm.fresh hnb
     let g':ai:=if tip then g.claim nb (xs++news) else g
     have hgm:∀b,b≠nb→g'.m b=g.m b:=by
      intro b hb;funext j
      cases tip<;>simp [g',ai.claim,hb]
     have hgL:g'.L=g.L:=by cases tip<;>rfl
     have hgH:g'.hist=g.hist:=by cases tip<;>rfl
     have hgT:∀b,g'.taken s.length b→g.taken s.length b:=by intro b hb;cases tip<;>exact hb
     have hgmm:g'.mm=g.mm:=by cases tip<;>rfl
     have hle:g.le s.length g' s.length:=by
      refine ⟨fun b o v hm=>?_,fun b es hm=>by rw [hgmm];exact hm,fun l _=>by rw [hgL],fun l _ k v hk=>by rw [hgH];exact hk,Nat.le_refl _⟩;by_cases hb:b=nb
      ·subst hb;rw [hfr.m o] at hm;cases hm
      ·rw [hgm b hb];exact hm
     have hrow:∃cur,rowT w' tip nb cur el∧∀j (hj:j<(xs++news).length),cur[j]?=some (xs++news)[j]:=by
      rcases r2.2 with ⟨hv,_⟩|⟨gb',cap,cur,hv,_,hg',_,_,_,htake⟩
      ·rw [hv] at hb';simp [dw] at hb'
      ·rw [hv] at hb';simp [dw] at hb';subst hb';refine ⟨cur,hg',fun j hj=>?_⟩
       have:=List.getElem?_eq_getElem hj
       rw [←this];rw [←htake,List.getElem?_take,if_pos (by rw [←r2.1];exact hj)];simp
     obtain ⟨cur,hc1,hc2⟩:=hrow
     have him:Imm g' w':=by
      refine ⟨fun b o v hm=>?_,by rw [hgmm];exact h2.base.imm.mm⟩;by_cases hb:b=nb
      ·subst hb
       cases tip with
       | false=>exact h2.base.imm.m b o v hm
       | true=>
        simp only [g',if_true,ai.claim,true_and] at hm
        split at hm
        ·rename_i ho;rw [hc1.cell o,hc2 o ho];rw [List.getElem?_eq_getElem ho] at hm;exact hm
        ·exact h2.base.imm.m b o v hm
      ·rw [hgm b hb] at hm;exact h2.base.imm.m b o v hm
     have hfo:=Di h hnb
     refine ⟨v',w',g',.inl (hq r1),s2.trans ⟨hle,Nat.le_refl _,fun _ _ _=>rfl,fun b hb _=>hgm b (by have:=h.B;omega),fun b _=>by rw [hgmm],fun b hb=>.inl (hgT b hb),rfl,rfl,fun _=>⟨rfl,Nat.le_refl _⟩⟩,
      ⟨h2.base.fix hle him hgH (fun b hb=>⟨hgm b (fun hbg=>hfo.2 (by subst hbg;exact hb)),by rw [hgmm]⟩),h2.env.dropNext k hle (fun k' x hk' hx' hne b hb=>⟨rfl,hgm b (fun hbg=>?_),by rw [hgmm],hgT b⟩),h2.B⟩,
      ⟨fun dd _=>⟨xs++news,by rw [upd_same,hlen];exact r2,hown'.mono hle,hone,hsz',q5,fun b hb=>?_⟩,fun j hj=>by simp [EV.refers] at hj,fun _ b hb=>⟨fun k' e' hk' he' hbk=>?_,fun hl=>?_⟩⟩⟩
     ·subst hbg;exact hfo.1 k' x hk' hx' hb
     ·rw [upd_same,hb'] at hb;cases hb;refine ⟨by rw [hgmm];exact hfr.mm,fun j hj=>?_,fun j hj=>?_⟩
      ·cases tip with
       | false=>exact hfr.m j
       | true=>
        simp only [g',if_true,ai.claim,true_and];rw [if_neg (by omega)];exact hfr.m j
      ·cases tip with
       | false=>exact hfr.m j
       | true=>
        simp only [g',if_true,ai.claim,true_and];rw [if_pos hj,List.getElem?_eq_getElem hj]
     ·rw [hb'] at hb;cases hb
      have hne:k'≠k:=fun hkk=>by
       subst hkk;rw [kV] at hk';cases hk';simp [EV.owns] at he'
      rw [gG _ _ (Ne.symm hne),vK] at hk'
      cases hy:lk env k' with
      | none=>rw [hy] at hk';simp at hk'
      | some y=>
       rw [hy] at hk';simp only [Option.map_some,Option.some.injEq] at hk'
       split at hk'
       ·subst hk';simp [EV.owns] at he'
       ·subst hk';exact hfo.1 k' y hy he' hbk
     ·rw [hb'] at hb;cases hb;exact hfo.2 (hgT _ hl)
 ·cases hsl
end Go.Ai
