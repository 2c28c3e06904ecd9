/-
 Stores.
-/
import Derived.Test.YtpihciomhfoafaaGreatDoorAiA2
import Derived.Laws.Concat
import Derived.Laws.Strings2
set_option maxRecDepth 100000
set_option linter.unusedSimpArgs false
set_option linter.unusedVariables false
set_option linter.unusedSectionVars false
namespace Go.Ai
theorem dR {w:World} {b:Nat} {cur new:Array Value} {t:TypeId} {fr:Nat×Nat} (h:w.heap[b]?=some (.cells cur t fr)):(w.setRow b new).heap[b]?=some (.cells new t fr):=setRow_heap w b cur new t fr h
theorem aG {w:World} {b c:Nat} (new:Array Value) (h:c≠b):(w.setRow b new).heap[c]?=w.heap[c]?:=by
 simp [World.setRow,Array.getElem?_modify,Ne.symm h]
theorem uH {g:af} {n:Nat} {u:Value} {v:AV} (h:Rep g n u v) (h1:v.cells.all AV.one=true):aB g n u.cells.toList v.cells∧bH u.cells.toList:=by
 have single:∀{u:Value} {v:AV},Rep g n u v→v.one=true→u.cells=#[u]∧u.oneCell'=true:=by
  intro u v h h1
  cases h<;>first | (simp [AV.one] at h1;done)|exact ⟨rfl,rfl⟩ | (rename_i hr;cases hr<;>exact ⟨rfl,rfl⟩)
 cases hv:v with
 | ag cs=>
  subst hv
  cases h with
  | ag vs _ hl ho hr=>
   show aB g n vs.toList cs∧bH vs.toList
   refine ⟨⟨by simpa using hl,fun i hi hi'=>?_⟩,fun x hx=>?_⟩
   ·have:=hr i (by simpa using hi) hi'
    rwa [Array.getElem_toList]
   ·simp at hx
    obtain ⟨i,hi,rfl⟩:=Array.mem_iff_getElem.1 hx
    exact ho i hi
 | _=>
  all_goals
   subst hv
   have hs:=single h (by simpa [AV.cells] using h1)
   rw [hs.1]
   exact ⟨by simpa [AV.cells] using aB.cons h (.nil g n),fun x hx=>by simp at hx;subst hx;exact hs.2⟩
theorem qO {g:af} {n:Nat} {us new:List Value} {cs cnew:List AV} (h:aB g n us cs) (h':aB g n new cnew) (o:Nat):
  aB g n (us.take o++new++us.drop (o+new.length)) (splice cs o cnew):=by
 unfold splice
 rw [h'.1]
 exact ((h.take o).append h').append (h.drop _)
theorem lM {us new:List Value} (h:bH us) (h':bH new) (o k:Nat):bH (us.take o++new++us.drop k):=by
 intro v hv
 simp only [List.mem_append] at hv
 rcases hv with (hv|hv)|hv
 ·exact h v (List.mem_of_mem_take hv)
 ·exact h' v hv
 ·exact h v (List.mem_of_mem_drop hv)
variable {P:Program} {glob:Nat→Option (List AV)} {g:af} {s:St} {B:Nat} {w:World} {env:Env} {a:Act}
theorem zq {t:TypeId} {n:Nat} (hsz:iL P t n=true) {b o:Nat} {cur:Array Value} {ty:TypeId} {v:Value} (hn:v.cells.size=n) (h1:bH v.cells.toList)
  (hg:w.heap[b]?=some (.cells cur ty (0,0))) (hfit:o+n≤cur.size):
  (Instr.storeAt t (.pointer (some ⟨b,o,none⟩)) v).run P w=.ok () (w.setRow b (cur.toList.take o++v.cells.toList++cur.toList.drop (o+v.cells.toList.length)).toArray):=by
 have hst:=run_storeCells_at P b o ty v.cells.toList 0 cur w hg (by simpa [hn] using hfit) h1
 simp only [Nat.add_zero] at hst
 simp [Instr.storeAt,Instr.sureAddr,storeVar,Sem.run_bind,run_sizeOf hsz w,hn,hst]
theorem Base.setRow (h:Base P glob g s w) {b:Nat} {cur new:Array Value} {ty:TypeId} {fz:Nat×Nat} (hg:w.heap[b]?=some (.cells cur ty fz)) (hb:¬g.taken s.length b)
  (hm:∀o v,g.m b o=some v→new[o]?=cur[o]?) (hmm:g.mm b=none):Base P glob g s (w.setRow b new):=by
 refine ⟨⟨fun c o v hv=>?_,fun c es hc=>?_⟩,h.heap.next (.refl _ _) (fun _ _=>rfl) (by simp) (fun c hc=>⟨aG new (fun hcb=>by subst hcb;exact hb hc),rfl,rfl⟩),h.glob⟩
 ·by_cases hcb:c=b
  ·subst hcb
   rw [cell_of_row _ c o new ty fz (dR hg),hm o v hv,←cell_of_row w c o cur ty fz hg]
   exact h.imm.m c o v hv
  ·rw [World.cell?_of_block (aG new hcb)];exact h.imm.m c o v hv
 ·have hcb:c≠b:=fun hcb=>by subst hcb;rw [hmm] at hc;cases hc
  exact (h.imm.mm c es hc).keep (aG new hcb)
theorem Ls {n b:Nat} {w:World} (new:Array Value) (hb:B≤b):Step True g n B w g n (w.setRow b new):=
 ⟨.refl _ _,by simp,fun c hc _=>aG new (by omega),fun _ _ _=>rfl,fun _ _=>rfl,fun b hb=>.inl hb,rfl,rfl,fun _=>⟨rfl,Nat.le_refl _⟩⟩
theorem Sj {t:TypeId} {n:Nat} (hsz:iL P t n=true) {tm:Nat→Value} (h:Sim P glob g s B w tm env) {k o:Nat} {cs:List AV} (hk:lk env k=some (.bx cs)) {b:Nat} (hb:tm k=.pointer (some ⟨b,0,none⟩))
  {u:Value} {v:AV} (hr:Rep g s.length u v) (hn:v.cells.length=n) (h1:v.cells.all AV.one=true) (hfit:o+n≤cs.length):
  ∃w',(Instr.storeAt t (.pointer (some ⟨b,o,none⟩)) u).run P w=.ok () w'∧Step True g s.length B w g s.length w'∧Sim P glob g s B w' tm ((k,.bx (splice cs o v.cells))::env):=by
 obtain ⟨b',arr,ty,q1,q2,q3,q4,q5,q6⟩:=h.env.rel k _ hk
 rw [hb] at q1
 simp only [Value.pointer.injEq,Option.some.injEq,Addr.mk.injEq] at q1
 obtain ⟨rfl,_⟩:=q1
 obtain ⟨r1,r2⟩:=uH hr h1
 have hlen:arr.size=cs.length:=by simpa using q3.1
 have hus:u.cells.size=n:=by have:=r1.1;simp at this;omega
 have hblk:aQ (tm k)=some b:=by rw [hb];rfl
 refine ⟨_,zq hsz hus r2 q2 (by omega),Ls _ q6,⟨h.base.setRow q2 (h.env.off k _ hk rfl b hblk) (fun o' v' hv'=>by rw [q5.m o'] at hv';cases hv') q5.mm, ?_,by simpa using h.B⟩⟩
 refine h.env.turnNext k _ _ hk rfl rfl (.refl _ _) ⟨b,_,ty,hb,dR q2, ?_, ?_,q5,q6⟩ (fun k' x hk' hx hne c hc=>⟨aG _ (fun hcb=>?_),rfl,rfl⟩) (fun k' x hk' hx c hc ht=>ht)
 ·simpa using qO q3 r1 o
 ·simpa using lM q4 r2 o _
 ·subst hcb;exact h.env.apart k' k x _ hk' hk hx rfl hne c hc hblk
theorem PZ {e:AV} {o:Nat} {new:List AV} (hfit:o+new.length≤e.cells.length) (hne:new≠[]) (h1:new.all AV.one=true):(Ci e o new).cells=splice e.cells o new:=by
 cases he:e with
 | ag cs=>simp [Ci,AV.cells]
 | _=>
  all_goals
   subst he
   simp only [AV.cells,List.length_singleton] at hfit
   match new,hne with
   | [x],_=>
    have:o=0:=by simp at hfit;omega
    subst this
    simp only [Ci,AV.cells,splice,List.headD_cons]
    simp only [List.all_cons,List.all_nil,Bool.and_true] at h1
    cases x<;>simp_all [AV.one]
   | x::y::r,_=>simp at hfit;omega
theorem XA {es:List AV} {sz:Nat} (h:∀a∈es,a.cells.length=sz) {e':AV} (he:e'.cells.length=sz):∀i (_:i<es.length),(es.set i e').flatMap AV.cells=splice (es.flatMap AV.cells) (i * sz) e'.cells:=by
 induction es with
 | nil=>intro i hi;simp at hi
 | cons e es ih=>
  intro i hi
  have h0:e.cells.length=sz:=h e (by simp)
  cases i with
  | zero=>simp [splice,he,←h0]
  | succ i=>
   simp only [List.set_cons_succ,List.flatMap_cons]
   rw [ih (fun a ha=>h a (by simp [ha])) i (by simpa using hi)]
   unfold splice
   have e1:(i+1) * sz=e.cells.length+i * sz:=by rw [h0,Nat.succ_mul];omega
   rw [e1,List.take_length_add_append,Nat.add_assoc,List.drop_length_add_append]
   simp [List.append_assoc]
theorem PY {cs:List AV} {i sz o:Nat} {new:List AV} (hfit:o+new.length≤sz) (hi:i+sz≤cs.length):splice cs i (splice ((cs.drop i).take sz) o new)=splice cs (i+o) new:=by
 unfold splice
 apply List.ext_getElem?
 intro j
 simp only [List.getElem?_append,List.length_append,List.length_take,List.length_drop,List.getElem?_take,List.getElem?_drop]
 by_cases h1:j<i
 ·simp only [show j<min i cs.length by omega,show j<min (i+o) cs.length by omega,show j<min i cs.length+(min o (min sz (cs.length - i))+new.length+(min sz (cs.length - i) - (o+new.length))) by omega,show j<min (i+o) cs.length+new.length by omega,show j<i+o by omega,h1,if_true]
 ·by_cases h2:j<i+o
  ·simp only [show ¬j<min i cs.length by omega,show j<min (i+o) cs.length by omega,show j<min i cs.length+(min o (min sz (cs.length - i))+new.length+(min sz (cs.length - i) - (o+new.length))) by omega,show j<min (i+o) cs.length+new.length by omega,h2,if_true,if_false,show j - min i cs.length<min o (min sz (cs.length - i))+new.length by omega,show j - min i cs.length<min o (min sz (cs.length - i)) by omega,show j - min i cs.length<o by omega,show j - min i cs.length<sz by omega]
   congr 1;omega
  ·by_cases h3:j<i+o+new.length
   ·simp only [show ¬j<min i cs.length by omega,show ¬j<min (i+o) cs.length by omega,show j<min i cs.length+(min o (min sz (cs.length - i))+new.length+(min sz (cs.length - i) - (o+new.length))) by omega,show j<min (i+o) cs.length+new.length by omega,if_true,if_false,show j - min i cs.length<min o (min sz (cs.length - i))+new.length by omega,show ¬j - min i cs.length<min o (min sz (cs.length - i)) by omega]
    congr 1;omega
   ·by_cases h4:j<i+sz
    ·simp only [show ¬j<min i cs.length by omega,show ¬j<min (i+o) cs.length by omega,show j<min i cs.length+(min o (min sz (cs.length - i))+new.length+(min sz (cs.length - i) - (o+new.length))) by omega,show ¬j<min (i+o) cs.length+new.length by omega,if_true,if_false,show ¬j - min i cs.length<min o (min sz (cs.length - i))+new.length by omega]
     rw [if_pos (by omega)]
     congr 1;omega
    ·simp only [show ¬j<min i cs.length+(min o (min sz (cs.length - i))+new.length+(min sz (cs.length - i) - (o+new.length))) by omega,show ¬j<min (i+o) cs.length+new.length by omega,if_false]
     congr 1;omega
theorem U6 {t:TypeId} {n:Nat} (hsz:iL P t n=true) {tm:Nat→Value} (h:Sim P glob g s B w tm env) {k i o:Nat} {ty sz:Nat} {es:List AV} (hk:lk env k=some (.own false ty sz es)) {b len cap:Nat}
  (hb:tm k=.slice (some ⟨b,0,none⟩) len cap) {e:AV} (he:es[i]?=some e)
  {u:Value} {v:AV} (hr:Rep g s.length u v) (hn:v.cells.length=n) (h1:v.cells.all AV.one=true) (hn0:n≠0) (hfit:o+n≤e.cells.length):
  ∃w',(Instr.storeAt t (.pointer (some ⟨b,i * sz+o,none⟩)) u).run P w=.ok () w'∧Step True g s.length B w g s.length w'∧
   Sim P glob g s B w' tm ((k,.own false ty sz (es.set i (Ci e o v.cells)))::env):=by
 obtain ⟨xs,q1,q2,q3,q4,q5,q6⟩:=h.env.rel k _ hk
 obtain ⟨r1,r2⟩:=uH hr h1
 obtain ⟨hi,hei⟩:=List.getElem?_eq_some_iff.1 he
 have hesz:e.cells.length=sz:=by rw [←hei];exact q4 _ (List.getElem_mem hi)
 rcases q1.2 with ⟨hnil,_⟩|⟨gb,cap',cur,hv',hB,hgT,hcap,hmax,hsize,htake⟩
 ·rw [hb] at hnil;cases hnil
 ·have hg:=hgT.z
  have hv2:=hv'
  rw [hb] at hv'
  simp only [Value.slice.injEq,Option.some.injEq,Addr.mk.injEq] at hv'
  obtain ⟨⟨rfl,_⟩,_,rfl⟩:=hv'
  have hblk:aQ (tm k)=some b:=by rw [hb];rfl
  obtain ⟨p1,p2,p3⟩:=q6 b hblk
  have hnc:∀j,g.m b j=none:=fun j=>by
   by_cases hj:j<xs.length
   ·simpa using p3 j hj
   ·exact p2 j (by omega)
  have hus:u.cells.size=n:=by have:=r1.1;simp at this;omega
  have hxl:xs.length=es.length * sz:=q1.1
  have hlt:i * sz+sz≤es.length * sz:=by
   have:=Nat.mul_le_mul_right sz (show i+1≤es.length from hi)
   rw [Nat.succ_mul] at this;exact this
  have hcs:es.length * sz≤cur.size:=by rw [hsize];exact Nat.mul_le_mul_right sz hcap
  have hcl:u.cells.toList.length=n:=by simpa using hus
  refine ⟨_,zq hsz hus r2 hg (by omega),Ls _ hB,⟨h.base.setRow hg (h.env.off k _ hk rfl b hblk) (fun o' v' hv'=>by rw [hnc o'] at hv';cases hv') p1, ?_,by simpa using h.B⟩⟩
  refine h.env.turnNext k _ _ hk rfl rfl (.refl _ _) ?_ (fun k' x hk' hx hne c hc=>⟨aG _ (fun hcb=>?_),rfl,rfl⟩) (fun k' x hk' hx c hc ht=>ht)
  ·have hce:=PZ (e:=e) (o:=o) (new:=v.cells) (by omega) (fun hx=>by rw [hx] at hn;simp at hn;omega) h1
   have hcl2:(Ci e o v.cells).cells.length=sz:=by rw [hce];simp [splice];omega
   have hel:(es.flatMap AV.cells).length=es.length * sz:=pO q4
   have he2:((es.flatMap AV.cells).drop (i * sz)).take sz=e.cells:=by
    apply List.ext_getElem?
    intro j
    by_cases hj:j<sz
    ·rw [List.getElem?_take_of_lt hj,List.getElem?_drop,←hei]
     exact flat_get q4 i hi j hj
    ·rw [List.getElem?_eq_none (by simp;omega),List.getElem?_eq_none (by omega)]
   have hfs:(es.set i (Ci e o v.cells)).flatMap AV.cells=splice (es.flatMap AV.cells) (i * sz+o) v.cells:=by
    rw [XA q4 hcl2 i hi,hce,←he2,PY (by omega) (by omega)]
   have hxs:(cur.toList.take (i * sz+o)++u.cells.toList++cur.toList.drop (i * sz+o+u.cells.toList.length)).take (es.length * sz)=xs.take (i * sz+o)++u.cells.toList++xs.drop (i * sz+o+u.cells.toList.length):=by
    rw [←htake,hcl]
    rw [List.take_append,List.take_append,List.take_take,List.take_take]
    simp only [List.length_append,List.length_take,Array.length_toList,hcl]
    rw [show min (es.length * sz) (i * sz+o)=min (i * sz+o) (es.length * sz) by omega]
    congr 1
    ·congr 1
     rw [List.take_of_length_le (by omega)]
    ·rw [List.drop_take]
     congr 1
     omega
   refine ⟨xs.take (i * sz+o)++u.cells.toList++xs.drop (i * sz+o+u.cells.toList.length),⟨?_,.inr ⟨b,cap,_, ?_,hB,.of (dR hg), ?_,hmax, ?_, ?_⟩⟩, ?_,lM q3 r2 _ _, ?_,q5,fun c hc=>?_⟩
   ·simp [hcl];omega
   ·simp;exact hv2
   ·simpa using hcap
   ·simp [hcl];omega
   ·simpa using hxs
   ·rw [hfs];exact qO q2 r1 _
   ·intro x hx
    rcases List.mem_or_eq_of_mem_set hx with hx|rfl
    ·exact q4 x hx
    ·exact hcl2
   ·rw [hblk] at hc;cases hc
    exact ⟨p1,fun j _=>hnc j,fun j _=>by simpa using hnc j⟩
  ·subst hcb;exact h.env.apart k' k x _ hk' hk hx rfl hne c hc hblk
theorem Wq {t:TypeId} {n:Nat} (hsz:iL P t n=true) {tm:Nat→Value} (h:Sim P glob g s B w tm env) {l o:Nat} {cs:List AV} (hl:s[l]?=some (.cells cs))
  {u:Value} {v:AV} (hr:Rep g s.length u v) (hn:v.cells.length=n) (h1:v.cells.all AV.one=true) (hfit:o+n≤cs.length):
  ∃w',(Instr.storeAt t (.pointer (some ⟨g.L l,o,none⟩)) u).run P w=.ok () w'∧Step True g s.length B w g s.length w'∧Sim P glob g (s.set l (.cells (splice cs o v.cells))) B w' tm env:=by
 have hlt:l<s.length:=(List.getElem?_eq_some_iff.1 hl).1
 obtain ⟨arr,ty,q2,q3,q4⟩:=h.base.heap.cells l cs hl
 obtain ⟨r1,r2⟩:=uH hr h1
 have hlen:arr.size=cs.length:=by simpa using q3.1
 have hus:u.cells.size=n:=by have:=r1.1;simp at this;omega
 have hfree:fP g (g.L l):=(h.base.heap.obj l _ hl).1
 refine ⟨_,zq hsz hus r2 q2 (by omega),⟨.refl _ _,by simp,fun c hc hcl=>aG _ (fun hcb=>hcl (by subst hcb;exact .L hlt)),fun _ _ _=>rfl,fun _ _=>rfl,fun b hb=>.inl hb,rfl,rfl,fun _=>⟨rfl,Nat.le_refl _⟩⟩,⟨⟨?_, ?_,h.base.glob⟩, ?_,by simpa using h.B⟩⟩
 ·refine ⟨fun c o' v' hv'=>?_,fun c es hc=>?_⟩
  ·have hcb:c≠g.L l:=fun hcb=>by subst hcb;rw [hfree.m o'] at hv';cases hv'
   rw [World.cell?_of_block (aG _ hcb)];exact h.base.imm.m c o' v' hv'
  ·have hcb:c≠g.L l:=fun hcb=>by subst hcb;rw [hfree.mm] at hc;cases hc
   exact (h.base.imm.mm c es hc).keep (aG _ hcb)
 ·refine h.base.heap.setAt hlt (.refl _ _) (fun _ _ _=>rfl) (fun b hb=>.inl hb) (fun b hb=>by simpa using h.base.heap.lt l b hlt hb) (by simp) (fun b _ hb=>⟨aG _ (fun hcb=>hb (.inl hcb.symm)),rfl,rfl⟩) ⟨hfree,_,ty,dR q2, ?_, ?_⟩
  ·simpa using qO q3 r1 o
  ·simpa using lM q4 r2 o _
 ·simp only [List.length_set]
  refine h.env.next (.refl _ _) (fun k e hk ho b hb=>⟨aG _ (fun hbl=>?_),rfl,rfl,fun ht=>ht⟩)
  exact h.env.off k e hk ho b hb (by subst hbl;exact .L hlt)
theorem Wp {t:TypeId} {n:Nat} (hsz:iL P t n=true) {tm:Nat→Value} (h:Sim P glob g s B w tm env) {l o ty sz ver:Nat} {cs:List AV} (hl:s[l]?=some (.buf ty sz ver cs))
  {b off len cap:Nat} (hh:g.hist l ver=some (.slice (some ⟨b,off,none⟩) len cap)) {u:Value} {v:AV} (hr:Rep g s.length u v) (hn:v.cells.length=n) (h1:v.cells.all AV.one=true) (hfit:o+n≤cs.length):
  ∃w',(Instr.storeAt t (.pointer (some ⟨b,off+o,none⟩)) u).run P w=.ok () w'∧Step True g s.length B w g s.length w'∧Sim P glob g (s.set l (.buf ty sz ver (splice cs o v.cells))) B w' tm env:=by
 have hlt:l<s.length:=(List.getElem?_eq_some_iff.1 hl).1
 obtain ⟨b',off',len',cap',cur,q1,q2,q3,q4,q5,q6,q7,q8,q9,q10,q11⟩:=h.base.heap.obj l _ hl
 rw [hh] at q1
 cases q1
 obtain ⟨r1,r2⟩:=uH hr h1
 have hus:u.cells.size=n:=by have:=r1.1;simp at this;omega
 have hlc:cs.length≤cap * sz:=by rw [q4];exact Nat.mul_le_mul_right sz q5
 have hbl:g.bl l b:=.inr ⟨ver,_,hh,rfl⟩
 have hul:u.cells.toList.length=n:=by simpa using hus
 refine ⟨_,zq hsz hus r2 q8 (by omega),⟨.refl _ _,by simp,fun c hc hcl=>aG _ (fun hcb=>hcl (by subst hcb;exact ⟨l,hlt,hbl⟩)),fun _ _ _=>rfl,fun _ _=>rfl,fun b hb=>.inl hb,rfl,rfl,fun _=>⟨rfl,Nat.le_refl _⟩⟩,⟨⟨?_, ?_,h.base.glob⟩, ?_,by simpa using h.B⟩⟩
 ·refine ⟨fun c o' v' hv'=>?_,fun c es hc=>?_⟩
  ·have hcb:c≠b:=fun hcb=>by subst hcb;rw [q3.m o'] at hv';cases hv'
   rw [World.cell?_of_block (aG _ hcb)];exact h.base.imm.m c o' v' hv'
  ·have hcb:c≠b:=fun hcb=>by subst hcb;rw [q3.mm] at hc;cases hc
   exact (h.base.imm.mm c es hc).keep (aG _ hcb)
 ·refine h.base.heap.setAt hlt (.refl _ _) (fun _ _ _=>rfl) (fun b hb=>.inl hb) (fun b hb=>by simpa using h.base.heap.lt l b hlt hb) (by simp) (fun c _ hc=>⟨aG _ (fun hcb=>hc (by subst hcb;exact hbl)),rfl,rfl⟩) ?_
  have hsl:(splice cs o v.cells).length=cs.length:=by simp [splice];omega
  have hpart:((cur.toList.take (off+o)++u.cells.toList++cur.toList.drop (off+o+u.cells.toList.length)).drop off).take cs.length=
    ((cur.toList.drop off).take cs.length).take o++u.cells.toList++((cur.toList.drop off).take cs.length).drop (o+u.cells.toList.length):=by
   apply List.ext_getElem?
   intro j
   simp only [List.getElem?_take,List.getElem?_drop,List.getElem?_append,List.length_append,List.length_take,List.length_drop,Array.length_toList,hul]
   by_cases c1:j<cs.length
   ·by_cases c2:j<o
    ·simp [c1,c2,show off+j<min (off+o) cur.size+n by omega,show off+j<min (off+o) cur.size by omega,show off+j<off+o by omega,show j<min o (min cs.length (cur.size - off))+n by omega,show j<min o (min cs.length (cur.size - off)) by omega]
    ·by_cases c3:j<o+n
     ·simp [c1,show off+j<min (off+o) cur.size+n by omega,show ¬off+j<min (off+o) cur.size by omega,show j<min o (min cs.length (cur.size - off))+n by omega,show ¬j<min o (min cs.length (cur.size - off)) by omega]
      congr 1;omega
     ·simp [c1,show ¬off+j<min (off+o) cur.size+n by omega,show ¬j<min o (min cs.length (cur.size - off))+n by omega]
      rw [if_pos (by omega)]
      congr 1;omega
   ·have e1:¬j<min o (min cs.length (cur.size - off))+n:=by omega
    simp [c1,e1]
    intro hx;omega
  refine ⟨b,off,len,cap,_,hh,q2,q3,by omega,q5,q6,q7,dR q8,by simp [hul];omega, ?_, ?_⟩
  ·rw [hsl];simp only [List.toList_toArray];rw [hpart];exact qO q10 r1 o
  ·rw [hsl];simp only [List.toList_toArray];rw [hpart];exact lM q11 r2 o _
 ·simp only [List.length_set]
  refine h.env.next (.refl _ _) (fun k e hk ho c hc=>⟨aG _ (fun hcb=>?_),rfl,rfl,fun ht=>ht⟩)
  exact h.env.off k e hk ho c hc (by subst hcb;exact ⟨l,hlt,hbl⟩)
theorem QZ {cx:Ctx} {t:TypeId} {n:Nat} (hsz:iL P t n=true) {x:Operand} {ix:IX} (hc:aS x ix=true) (h:Sim P glob g s B w (Act.tm a) env) {u:Value} {v:AV} (hr:Rep g s.length u v)
  {env':Env} {s':St} (hst:lS glob cx env s n ix v=some (env',s')):
  ∃w',(Instr.storeAt t (a.eval x) u).run P w=.ok () w'∧Step True g s.length B w g s'.length w'∧Sim P glob g s' B w' (Act.tm a) env':=by
 unfold lS at hst
 split at hst
 ·rename_i hcond
  obtain ⟨hn,hn0,h1⟩:=hcond
  split at hst
  ·rename_i cs k hv
   split at hst
   ·rename_i hle
    cases hst
    rcases dF (n:=s.length) hc h.base.glob hv with ⟨k',hk',hk,hx⟩|⟨v',hv',_,_⟩
    ·cases hk'
     obtain ⟨b,arr,ty,e1,_⟩:=h.env.rel k _ hk
     rw [hx,e1]
     exact Sj hsz h hk e1 hr hn h1 (by omega)
    ·cases hv'
   ·cases hst
  ·rename_i k o hv
   split at hst
   ·rename_i cs hk
    split at hst
    ·rename_i hle
     cases hst
     rcases dF (n:=s.length) hc h.base.glob hv with ⟨j,_,hj,hx⟩|⟨v',hv',_,_⟩
     ·obtain ⟨b,e1,e2⟩:=h.env.rel j _ hj
      rw [hx,e2]
      exact Sj hsz h hk e1 hr hn h1 hle
     ·cases hv'
    ·cases hst
   ·cases hst
  ·rename_i k sz i o hv
   split at hst
   ·rename_i t' sz' es hk
    split at hst
    ·rename_i e he
     split at hst
     ·rename_i hle
      obtain ⟨rfl,hle⟩:=hle
      cases hst
      rcases dF (n:=s.length) hc h.base.glob hv with ⟨j,_,hj,hx⟩|⟨v',hv',_,_⟩
      ·obtain ⟨b,len,cap,e1,e2⟩:=h.env.rel j _ hj
       rw [hx,e2]
       exact U6 hsz h hk e1 he hr hn h1 hn0 hle
      ·cases hv'
     ·cases hst
    ·cases hst
   ·cases hst
  ·rename_i l o hv
   split at hst
   ·rename_i cs hs
    split at hst
    ·rename_i hle
     cases hst
     have hrr:=ai (a:=a) hc h.env h.base.glob (v:=.pt l o) (by simp [rd,hv])
     generalize a.eval x=ax at hrr
     cases hrr with
     | pt _ _ hlt=>simpa using Wq hsz h hs hr hn h1 hle.2.2
    ·cases hst
   ·cases hst
  ·rename_i l ver o hv
   split at hst
   ·rename_i t2 sz2 ver2 cs hs
    split at hst
    ·rename_i hle
     cases hst
     have hrr:=ai (a:=a) hc h.env h.base.glob (v:=.sp l ver o) (by simp [rd,hv])
     generalize a.eval x=ax at hrr
     obtain ⟨rfl,hle⟩:=hle
     cases hrr with
     | sp _ _ _ b off len cap hlt hh=>simpa using Wp hsz h hs hh hr hn h1 hle.2.2
    ·cases hst
   ·cases hst
  ·cases hst
 ·cases hst
theorem PO {off:Nat} {x:Operand} {ix:IX} (hc:aS x ix=true) (h:Sim P glob g s B w (Act.tm a) env) {e:EV} (ha:addr glob env off ix=some e):
  ∃b o,a.eval x=.pointer (some ⟨b,o,none⟩)∧New g s.length B w (Act.tm a) env e (.pointer (some ⟨b,o+off,none⟩)):=by
 unfold addr at ha
 split at ha
 ·rename_i cs k hv
  cases ha
  rcases dF (n:=s.length) hc h.base.glob hv with ⟨k',hk',hk,hx⟩|⟨v',hv',_,_⟩
  ·cases hk'
   obtain ⟨b,arr,ty,e1,_⟩:=h.env.rel k _ hk
   refine ⟨b,0,by rw [hx,e1],⟨fun d hd=>⟨b, ?_,by simp [upd_same]⟩,fun j hj=>?_,fun ho=>by simp [EV.owns] at ho⟩⟩
   ·have:k≠d:=fun hkd=>by subst hkd;simp [EV.refers] at hd
    rw [upd_ne _ _ this,e1]
   ·simp [EV.refers] at hj;subst hj;exact ⟨_,hk,rfl⟩
  ·cases hv'
 ·rename_i k o hv
  cases ha
  rcases dF (n:=s.length) hc h.base.glob hv with ⟨j,_,hj,hx⟩|⟨v',hv',_,_⟩
  ·obtain ⟨b,e1,e2⟩:=h.env.rel j _ hj
   refine ⟨b,o,by rw [hx,e2],⟨fun d hd=>⟨b, ?_,by simp [upd_same]⟩,fun i hi=>?_,fun ho=>by simp [EV.owns] at ho⟩⟩
   ·have:k≠d:=fun hkd=>by subst hkd;simp [EV.refers] at hd
    rw [upd_ne _ _ this,e1]
   ·exact h.env.refs j _ i hj (by simpa [EV.refers] using hi)
  ·cases hv'
 ·rename_i k sz i o hv
  cases ha
  rcases dF (n:=s.length) hc h.base.glob hv with ⟨j,_,hj,hx⟩|⟨v',hv',_,_⟩
  ·obtain ⟨b,len,cap,e1,e2⟩:=h.env.rel j _ hj
   refine ⟨b,i * sz+o,by rw [hx,e2],⟨fun d hd=>⟨b,len,cap, ?_,by simp [upd_same,Nat.add_assoc]⟩,fun i hi=>?_,fun ho=>by simp [EV.owns] at ho⟩⟩
   ·have:k≠d:=fun hkd=>by subst hkd;simp [EV.refers] at hd
    rw [upd_ne _ _ this,e1]
   ·exact h.env.refs j _ i hj (by simpa [EV.refers] using hi)
  ·cases hv'
 ·rename_i cs hv
  cases ha
  have hr:=ai (a:=a) hc h.env h.base.glob (v:=.ip cs) (by simp [rd,hv])
  generalize a.eval x=ax at hr
  cases hr with
  | ip b o _ c hm hrr=>
   refine ⟨b,o,rfl,.v (.ip b (o+off) _ (fun j=>c (off+j)) (fun j hj=>?_) (fun j hj=>?_))⟩
   ·simp at hj
    rw [Nat.add_assoc];exact hm (off+j) (by omega)
   ·simp at hj
    rw [List.getElem_drop];exact hrr (off+j) (by omega)
 ·rename_i l o hv
  cases ha
  have hr:=ai (a:=a) hc h.env h.base.glob (v:=.pt l o) (by simp [rd,hv])
  generalize a.eval x=ax at hr
  cases hr with
  | pt _ _ hlt=>exact ⟨g.L l,o,rfl,.v (.pt l (o+off) hlt)⟩
 ·rename_i l ver o hv
  cases ha
  have hr:=ai (a:=a) hc h.env h.base.glob (v:=.sp l ver o) (by simp [rd,hv])
  generalize a.eval x=ax at hr
  cases hr with
  | sp _ _ _ b off2 len cap hlt hh=>exact ⟨b,off2+o,rfl,.v (by rw [Nat.add_assoc];exact .sp l ver (o+off) b off2 len cap hlt hh)⟩
 ·cases ha
end Go.Ai
namespace Go.Ai
variable {P:Program} {glob:Nat→Option (List AV)} {g:af} {s:St} {B:Nat} {w:World} {env:Env} {a:Act}
def Good (P:Program) (glob:Nat→Option (List AV)) (g:af) (s:St) (B:Nat) (w:World) (a:Act) (x:Sem Next) (e:EV) (env':Env) (s':St):Prop:=
 ∃v w' g',(x.run P w=.ok (.value v) w'∨(x.run P w=.ok .skip w'∧v=undef))∧Step True g s.length B w g' s'.length w'∧
  Sim P glob g' s' B w' (Act.tm a) env'∧New g' s'.length B w' (Act.tm a) env' e v
theorem Good.same (h:Sim P glob g s B w (Act.tm a) env) {x:Sem Next} {v:Value} {e:EV} (hx:x.run P w=.ok (.value v) w) (hn:New g s.length B w (Act.tm a) env e v):
  Good P glob g s B w a x e env s:=⟨v,w,g,.inl hx,.refl _ _ _ _,h,hn⟩
theorem Good.val (h:Sim P glob g s B w (Act.tm a) env) {x:Sem Next} {v:Value} {r:AV} (hx:x.run P w=.ok (.value v) w) (hn:Rep g s.length v r):
  Good P glob g s B w a x (.v r) env s:=.same h hx (.v hn)
theorem Good.after {g':af} {env1:Env} (hs:Step True g s.length B w g' s.length w) {x:Sem Next} {e:EV} {env':Env} {s':St} (h:Good P glob g' s B w a x e env' s') (_:env1=env1):
  Good P glob g s B w a x e env' s':=by
 obtain ⟨v,w',g'',h1,h2,h3⟩:=h
 exact ⟨v,w',g'',h1,hs.trans h2,h3⟩
theorem uJ {o:Option AV} {e:EV} {env':Env} {s':St} (h:okv env s o=.ok e env' s'):∃r,o=some r∧e=.v r∧env'=env∧s'=s:=by
 cases o with
 | none=>simp [okv] at h
 | some r=>simp [okv] at h;exact ⟨r,rfl,h.1.symm,h.2.1.symm,h.2.2.symm⟩
theorem SI {x:Operand} {ix:IX} (hc:aS x ix=true) (h:Sim P glob g s B w (Act.tm a) env) {e:EV} (hm:Jl glob env ix=some e):New g s.length B w (Act.tm a) env e (a.eval x):=by
 unfold Jl at hm
 split at hm
 ·rename_i v hv
  cases hm
  exact .v (fE hc h.env h.base.glob hv)
 ·rename_i cs k hv
  cases hm
  rcases dF (n:=s.length) hc h.base.glob hv with ⟨k',hk',hk,hx⟩|⟨v',hv',_,_⟩
  ·cases hk'
   obtain ⟨b,arr,ty,e1,_⟩:=h.env.rel k _ hk
   refine ⟨fun d hd=>⟨b, ?_,by rw [upd_same,hx,e1]⟩,fun j hj=>?_,fun ho=>by simp [EV.owns] at ho⟩
   ·have:k≠d:=fun hkd=>by subst hkd;simp [EV.refers] at hd
    rw [upd_ne _ _ this,e1]
   ·simp [EV.refers] at hj;subst hj;exact ⟨_,hk,rfl⟩
  ·cases hv'
 ·rename_i k o hv
  cases hm
  rcases dF (n:=s.length) hc h.base.glob hv with ⟨j,_,hj,hx⟩|⟨v',hv',_,_⟩
  ·obtain ⟨b,e1,e2⟩:=h.env.rel j _ hj
   refine ⟨fun d hd=>⟨b, ?_,by rw [upd_same,hx,e2]⟩,fun i hi=>?_,fun ho=>by simp [EV.owns] at ho⟩
   ·have:k≠d:=fun hkd=>by subst hkd;simp [EV.refers] at hd
    rw [upd_ne _ _ this,e1]
   ·exact h.env.refs j _ i hj hi
  ·cases hv'
 ·rename_i tip t sz es k hv
  cases hm
  rcases dF (n:=s.length) hc h.base.glob hv with ⟨k',hk',hk,hx⟩|⟨v',hv',_,_⟩
  ·cases hk'
   refine ⟨fun d hd=>?_,fun j hj=>?_,fun ho=>by simp [EV.owns] at ho⟩
   ·have:k≠d:=fun hkd=>by subst hkd;simp [EV.refers] at hd
    show upd _ d _ d=upd _ d _ k
    rw [upd_same,upd_ne _ _ this,hx]
   ·simp [EV.refers] at hj;subst hj;exact ⟨_,hk,rfl⟩
  ·cases hv'
 ·rename_i k hv
  cases hm
  rcases dF (n:=s.length) hc h.base.glob hv with ⟨j,_,hj,hx⟩|⟨v',hv',_,_⟩
  ·have e1:Act.tm a j=Act.tm a k:=h.env.rel j _ hj
   refine ⟨fun d hd=>?_,fun i hi=>h.env.refs j _ i hj hi,fun ho=>by simp [EV.owns] at ho⟩
   have:k≠d:=fun hkd=>by subst hkd;simp [EV.refers] at hd
   show upd _ d _ d=upd _ d _ k
   rw [upd_same,upd_ne _ _ this,hx,e1]
  ·cases hv'
 ·rename_i k sz i o hv
  cases hm
  rcases dF (n:=s.length) hc h.base.glob hv with ⟨j,_,hj,hx⟩|⟨v',hv',_,_⟩
  ·obtain ⟨b,len,cap,e1,e2⟩:=h.env.rel j _ hj
   refine ⟨fun d hd=>⟨b,len,cap, ?_,by rw [upd_same,hx,e2]⟩,fun i hi=>h.env.refs j _ i hj hi,fun ho=>by simp [EV.owns] at ho⟩
   have:k≠d:=fun hkd=>by subst hkd;simp [EV.refers] at hd
   rw [upd_ne _ _ this,e1]
  ·cases hv'
 ·cases hm
theorem TV {op:BinOp} {t:TypeId} {x y:Operand} {k:IntKind} {m n:Int} {r:AV} (h:Rt op k m n=some r):
  ∃u,(do eqGuard op t x y (.int k m) (.int k n);binOp op t (.int k m) (.int k n):Sem Value).run P w=.ok u w∧∀g n,Rep g n u r:=by
 cases op<;>simp [Rt] at h<;>first
  | (subst h;refine ⟨_, ?_,fun _ _=>.i _ _⟩;simp [eqGuard,binOp,Op.intArith];done)
  | (subst h;refine ⟨_, ?_,fun _ _=>.b _⟩;simp [eqGuard,binOp,Op.intCmp];done)
  | (subst h;refine ⟨_, ?_,fun _ _=>.i _ _⟩;simp [eqGuard,binOp,Op.intBits];done)
  | (obtain ⟨h0,rfl⟩:=h;refine ⟨_, ?_,fun _ _=>.i _ _⟩;simp [eqGuard,binOp,Op.intDiv,h0];done)
  | (obtain ⟨h0,rfl⟩:=h;have h1:¬n<0:=by omega
     refine ⟨_, ?_,fun _ _=>.i _ _⟩;simp [eqGuard,binOp,Op.shift,h1];done)
theorem TU {op:BinOp} {t:TypeId} {x y:Operand} {l m:List UInt8} {r:AV} (h:QY op l m=some r):
  ∃u,(do eqGuard op t x y (.string ⟨l.toArray⟩) (.string ⟨m.toArray⟩);binOp op t (.string ⟨l.toArray⟩) (.string ⟨m.toArray⟩):Sem Value).run P w=.ok u w∧∀g n,Rep g n u r:=by
 cases op<;>simp [QY] at h<;>first
  | (obtain ⟨h0,rfl⟩:=h
     refine ⟨.string ⟨(l++m).toArray⟩, ?_,fun _ _=>.s _⟩
     have hadd:=run_string_add_sum (P:=P) (w:=w) ⟨l.toArray⟩ ⟨m.toArray⟩ (by simp [ByteArray.size_mk'];omega)
     simp only [binOp]
     simp [eqGuard,hadd,ByteArray.mk_append_mk])
  | (subst h;refine ⟨_, ?_,fun _ _=>.b _⟩;simp [eqGuard,binOp,Op.stringOp];done)
theorem run_equalIn_bool {t:TypeId} (d:Nat) (h:P.underlying t=some .bool) (x y:Bool):(Op.equalIn (d+1) t (.bool x) (.bool y)).run P w=.ok (x == y) w:=by
 simp [Op.equalIn,run_underlying h]
theorem MO {t:TypeId} (d:Nat) {k:Nat} {y:Operand} (h:UD P k t y=true) {v:AV} {r:Bool} (hk:SH k v=some r) {N:Nat} {u:Value} (hr:Rep g N u v):
  ∃c,y=.const c∧(Op.equalIn (d+1) t u c).run P w=.ok r w∧(∀op x,(eqGuard op t x y u c).run P w=.ok () w)∧(∀op,op=.eql∨op=.neq→binOp op t u c=(match op with | .eql=>do pure (.bool (←Op.equal t u c)) | _=>do pure (.bool (!(←Op.equal t u c))))):=by
 unfold UD at h
 split at h
 ·rename_i hu
  refine ⟨_,rfl, ?_⟩
  unfold SH at hk
  split at hk<;>cases hk<;>(try (rename_i hh;cases hh))<;>cases hr<;>refine ⟨by simp [Op.equalIn,run_underlying hu],fun op x=>by cases op<;>simp [eqGuard],fun op ho=>by rcases ho with rfl|rfl<;>simp [binOp]⟩
 ·rename_i hu
  refine ⟨_,rfl, ?_⟩
  unfold SH at hk
  split at hk<;>cases hk<;>(try (rename_i hh;cases hh))<;>cases hr<;>refine ⟨by simp [Op.equalIn,run_underlying hu],fun op x=>by cases op<;>simp [eqGuard],fun op ho=>by rcases ho with rfl|rfl<;>simp [binOp]⟩
 ·rename_i hu
  refine ⟨_,rfl, ?_⟩
  unfold SH at hk
  split at hk<;>cases hk<;>(try (rename_i hh;cases hh))<;>cases hr<;>refine ⟨by simp [Op.equalIn,run_underlying hu],fun op x=>by cases op<;>simp [eqGuard],fun op ho=>by rcases ho with rfl|rfl<;>simp [binOp]⟩
 ·rename_i hu
  refine ⟨_,rfl, ?_⟩
  unfold SH at hk
  split at hk<;>cases hk<;>(try (rename_i hh;cases hh))<;>cases hr<;>refine ⟨by simp [Op.equalIn,run_underlying hu],fun op x=>by cases op<;>simp [eqGuard],fun op ho=>by rcases ho with rfl|rfl<;>simp [binOp]⟩
 ·rename_i hu
  refine ⟨_,rfl, ?_⟩
  unfold SH at hk
  split at hk<;>cases hk<;>(try (rename_i hh;cases hh))<;>cases hr<;>refine ⟨by simp [Op.equalIn,run_underlying hu],fun op x=>by cases op<;>simp [eqGuard],fun op ho=>by rcases ho with rfl|rfl<;>simp [binOp]⟩
 ·cases h
end Go.Ai
namespace Go.Ai
variable {P:Program} {glob:Nat→Option (List AV)} {g:af} {s:St} {B:Nat} {w:World} {env:Env} {a:Act} {o:Oper} {call:AV→List AV→St→Ctx→CO} {cx:Ctx} {e:EV} {env':Env} {s':St}
theorem ay {x:Sem Value} {u:Value} {w w':World} (h:x.run P w=.ok u w'):(do pure (Next.value (←x)):Sem Next).run P w=.ok (.value u) w':=by
 simp [Sem.run_bind,h]
theorem IW {x:Sem Unit} {w w':World} (h:x.run P w=.ok () w'):(do x;pure Next.skip:Sem Next).run P w=.ok .skip w':=by
 simp [Sem.run_bind,h]
theorem yc {x:Operand} (ho:o.op=.move x∨o.op=.assign x):(execOp a.eval o).run P w=.ok (.value (a.eval x)) w:=by
 rcases ho with ho|ho<;>simp [execOp,ho]
theorem Pm {ix:IX} (hc:(match o.op with | .move x | .assign x=>aS x ix | _=>false)=true):∃x,(o.op=.move x∨o.op=.assign x)∧aS x ix=true:=by
 split at hc
 ·rename_i x hx;exact ⟨x,.inl hx,hc⟩
 ·rename_i x hx;exact ⟨x,.inr hx,hc⟩
 ·cases hc
theorem X5 (h:Sim P glob g s B w (Act.tm a) env) {x:Operand} {k:Nat} (hc:aS x (.t k)=true) {es:List (AV×AV)} (hv:lk env k=some (.om es)) (ho:(execOp a.eval o).run P w=.ok (.value (a.eval x)) w):
  Good P glob g s B w a (execOp a.eval o) (.v (.im es)) ((k,.v (.im es))::(k,.v .u)::jL env k) s:=by
 obtain ⟨g',h1,h2,h3⟩:=TB h hv
 refine ⟨a.eval x,w,g',.inl ho,h1,h2,.v ?_⟩
 rcases dF (n:=s.length) hc h.base.glob (e:=.om es) hv with ⟨k',hk',_,hx⟩|⟨v',hv',_,_⟩
 ·cases hk';rw [hx];exact h3
 ·cases hv'
theorem Xk {ix:IX} (h:Sim P glob g s B w (Act.tm a) env) (hc:au P o.op (.mov ix)=true) (hr:aop glob call cx env s (.mov ix)=.ok e env' s'):Good P glob g s B w a (execOp a.eval o) e env' s':=by
 obtain ⟨x,ho,hx⟩:=Pm hc
 simp only [aop] at hr
 split at hr
 ·rename_i es k hv
  cases hr
  exact X5 h hx hv (yc ho)
 ·split at hr
  ·rename_i e1 hm
   cases hr
   exact .same h (yc ho) (SI hx h hm)
  ·cases hr
theorem Xr {ix:IX} (h:Sim P glob g s B w (Act.tm a) env) {x:Operand} (hx:aS x ix=true) {v:AV} (he:esc glob env ix=some (v,env')) (ho:(execOp a.eval o).run P w=.ok (.value (a.eval x)) w):
  Good P glob g s B w a (execOp a.eval o) (.v v) env' s:=by
 obtain ⟨g',h1,h2,h3⟩:=jZ hx h he
 exact ⟨_,w,g',.inl ho,h1,h2,.v h3⟩
theorem VQ {ix:IX} (h:Sim P glob g s B w (Act.tm a) env) {x:Operand} (hx:aS x ix=true) {v:AV} (he:FH glob env ix=some (v,env')) (ho:(execOp a.eval o).run P w=.ok (.value (a.eval x)) w):
  Good P glob g s B w a (execOp a.eval o) (.v v) env' s:=by
 obtain ⟨g',h1,h2,h3⟩:=yP hx h he
 exact ⟨_,w,g',.inl ho,h1,h2,.v h3⟩
theorem Xt {ix:IX} (h:Sim P glob g s B w (Act.tm a) env) (hc:au P o.op (.cpy ix)=true) (hr:aop glob call cx env s (.cpy ix)=.ok e env' s'):Good P glob g s B w a (execOp a.eval o) e env' s':=by
 obtain ⟨x,ho,hx⟩:=Pm hc
 simp only [aop] at hr
 split at hr
 ·rename_i v env1 he;cases hr;exact Xr h hx he (yc ho)
 ·cases hr
theorem Xy {ix:IX} (h:Sim P glob g s B w (Act.tm a) env) (hc:au P o.op (.asg ix)=true) (hr:aop glob call cx env s (.asg ix)=.ok e env' s'):Good P glob g s B w a (execOp a.eval o) e env' s':=by
 obtain ⟨x,ho,hx⟩:=Pm hc
 simp only [aop] at hr
 split at hr
 ·rename_i tip t sz es k hv
  cases hr
  rcases dF (n:=s.length) hx h.base.glob hv with ⟨k',hk',hk,hxx⟩|⟨v',hv',_,_⟩
  ·cases hk'
   have hrel:=h.env.rel k _ hk
   have hdrop:=h.env.dropNext k (.refl _ _) (g':=g) (n':=s.length) (w':=w) (fun k' x hk' hx hne b hb=>⟨rfl,rfl,rfl,fun ht=>ht⟩)
   refine ⟨_,w,g,.inl (yc ho),.refl _ _ _ _,⟨h.base,hdrop,h.B⟩,⟨fun d _=>?_,fun j hj=>by simp [EV.refers] at hj,fun _ b hb=>⟨fun k' e' hk' he' hb'=>?_, ?_⟩⟩⟩
   ·show oO g s.length B w (upd (Act.tm a) d (a.eval x)) d (.own tip t sz es)
    rw [hxx]
    simp only [oO,upd_same]
    exact hrel
   ·rw [hxx] at hb
    have hne:k'≠k:=fun hkk=>by
     subst hkk;rw [bF] at hk';cases hk';simp [EV.owns] at he'
    rw [aJ _ _ (Ne.symm hne),pq] at hk'
    cases hy:lk env k' with
    | none=>rw [hy] at hk';simp at hk'
    | some y=>
     rw [hy] at hk'
     simp only [Option.map_some,Option.some.injEq] at hk'
     split at hk'
     ·subst hk';simp [EV.owns] at he'
     ·subst hk'
      exact h.env.apart k' k y _ hy hk he' rfl hne b hb' hb
   ·rw [hxx] at hb;exact h.env.off k _ hk rfl b hb
  ·cases hv'
 ·split at hr
  ·rename_i v env1 he
   cases hr
   exact VQ h hx he (yc ho)
  ·split at hr
   ·rename_i e1 hm
    cases hr
    exact .same h (yc ho) (SI hx h hm)
   ·cases hr
theorem VA {t sz:Nat} (h:Sim P glob g s B w (Act.tm a) env) (hc:au P o.op (.nbuf t sz)=true) (hr:aop glob call cx env s (.nbuf t sz)=.ok e env' s'):Good P glob g s B w a (execOp a.eval o) e env' s':=by
 simp only [aop] at hr
 split at hr
 ·rename_i hsz
  cases hr
  have ho:(execOp a.eval o).run P w=.ok (.value (.slice none 0 0)) w:=by
   simp only [au] at hc
   split at hc
   ·rename_i hx;simp [execOp,hx,Act.eval]
   ·rename_i hx;simp [execOp,hx,Act.eval]
   ·cases hc
  refine .same h ho ⟨fun d _=>⟨[], ?_,.nil _ _,fun x hx=>by simp at hx,fun x hx=>by simp at hx,hsz,fun b hb=>?_⟩,fun j hj=>by simp [EV.refers] at hj,fun _ b hb=>by simp [aQ] at hb⟩
  ·rw [upd_same];exact Oi (World.ownsRow_nil w B t sz)
  ·rw [upd_same] at hb;simp [aQ] at hb
 ·cases hr
theorem Vz {c x y:IX} (h:Sim P glob g s B w (Act.tm a) env) (hc:au P o.op (.pick c x y)=true) (hr:aop glob call cx env s (.pick c x y)=.ok e env' s'):Good P glob g s B w a (execOp a.eval o) e env' s':=by
 simp only [au] at hc
 split at hc
 ·rename_i c' x' y' hop
  simp only [Bool.and_eq_true] at hc
  simp only [aop] at hr
  split at hr
  ·rename_i bb hb
   obtain ⟨r,h1,rfl,rfl,rfl⟩:=uJ hr
   have hcb:=ai (a:=a) hc.1.1 h.env h.base.glob hb
   have hcv:a.eval c'=.bool bb:=by generalize a.eval c'=z at hcb;cases hcb;rfl
   cases bb with
   | true=>exact .val h (by simp [execOp,hop,hcv,asBool]) (ai hc.1.2 h.env h.base.glob (by simpa using h1))
   | false=>exact .val h (by simp [execOp,hop,hcv,asBool]) (ai hc.2 h.env h.base.glob (by simpa using h1))
  ·cases hr
 ·cases hc
theorem BQ {n:Option Nat} {x:IX} (h:Sim P glob g s B w (Act.tm a) env) (hc:au P o.op (.load n x)=true) (hr:aop glob call cx env s (.load n x)=.ok e env' s'):Good P glob g s B w a (execOp a.eval o) e env' s':=by
 simp only [au] at hc
 split at hc
 ·rename_i t x' hop
  simp only [Bool.and_eq_true] at hc
  simp only [aop] at hr
  obtain ⟨r,h1,rfl,rfl,rfl⟩:=uJ hr
  obtain ⟨u,q1,q2⟩:=LV hc.2 hc.1 h h1
  exact .val h (by simp only [execOp,hop];exact ay q1) q2
 ·cases hc
theorem IC {n:Nat} {x y:IX} (h:Sim P glob g s B w (Act.tm a) env) (hc:au P o.op (.store n x y)=true) (hr:aop glob call cx env s (.store n x y)=.ok e env' s'):Good P glob g s B w a (execOp a.eval o) e env' s':=by
 simp only [au] at hc
 split at hc
 ·rename_i t x' y' hop
  simp only [Bool.and_eq_true] at hc
  simp only [aop] at hr
  split at hr
  ·rename_i v env1 he
   split at hr
   ·rename_i env2 s2 hst
    cases hr
    obtain ⟨g1,s1,h1,r1⟩:=yP hc.1.2 h he
    obtain ⟨w',q1,q2,q3⟩:=QZ hc.2 hc.1.1 h1 r1 hst
    exact ⟨undef,w',g1,.inr ⟨by simp only [execOp,hop];exact IW q1,rfl⟩,s1.trans q2,q3,.v (.tu #[] [] rfl (fun i hi=>by simp at hi))⟩
   ·cases hr
  ·cases hr
 ·cases hc
theorem Xp {off:Nat} {x:IX} (h:Sim P glob g s B w (Act.tm a) env) (hc:au P o.op (.fld off x)=true) (hr:aop glob call cx env s (.fld off x)=.ok e env' s'):Good P glob g s B w a (execOp a.eval o) e env' s':=by
 simp only [au] at hc
 split at hc
 ·rename_i st x' f hop
  simp only [Bool.and_eq_true] at hc
  obtain ⟨hx,hf⟩:=hc
  split at hf
  ·rename_i fd hfd
   simp only [Bool.and_eq_true,beq_iff_eq] at hf
   obtain ⟨rfl,hne⟩:=hf
   simp only [aop] at hr
   split at hr
   ·rename_i e1 ha
    cases hr
    obtain ⟨b,off',q1,q2⟩:=PO hx h ha
    refine .same h ?_ q2
    unfold UZ at hfd
    split at hfd
    ·rename_i fs hu
     cases hi:P.info? fd.type with
     | none=>simp [hi] at hne
     | some i=>
      simp [hi] at hne
      simp only [execOp,hop]
      refine ay ?_
      simp [Instr.fieldAt,Sem.run_bind,run_underlying hu,hfd,q1,Instr.sureAddr,fieldPlace,sizeOf,typeInfo,hi,hne,Addr.add_lit]
    ·cases hfd
   ·cases hr
  ·cases hf
 ·cases hc
theorem fO {g:af} {N:Nat} {u:Value} {k:IntKind} {n:Int} (h:Rep g N u (.i k n)):u=.int k n:=by cases h;rfl
theorem VK {len sz:Nat} {x i:IX} (h:Sim P glob g s B w (Act.tm a) env) (hc:au P o.op (.idxa len sz x i)=true) (hr:aop glob call cx env s (.idxa len sz x i)=.ok e env' s'):Good P glob g s B w a (execOp a.eval o) e env' s':=by
 simp only [au] at hc
 split at hc
 ·rename_i t x' i' hop
  simp only [Bool.and_eq_true] at hc
  obtain ⟨⟨hx,hi⟩,hty⟩:=hc
  simp only [aop] at hr
  split at hr
  ·rename_i k n hn
   split at hr
   ·rename_i hlt
    split at hr
    ·rename_i e1 ha
     cases hr
     obtain ⟨b,off',q1,q2⟩:=PO hx h ha
     refine .same h ?_ q2
     have hiv:=fO (ai (a:=a) hi h.env h.base.glob hn)
     unfold arrayOf at hty
     split at hty
     ·rename_i m el hu
      split at hty
      ·rename_i hm
       simp only [Bool.and_eq_true,beq_iff_eq] at hm
       obtain ⟨rfl,hsz⟩:=hm
       simp only [execOp,hop]
       refine ay ?_
       have h2:n<(m:Int):=by omega
       simp [Instr.indexAt,hiv,asIntOf,Sem.run_bind,run_underlying hu,q1,Instr.sureAddr,hlt.1,h2,run_sizeOf hsz,Addr.add_lit]
      ·simp at hty
     ·simp at hty
    ·cases hr
   ·cases hr
  ·cases hr
 ·cases hc
end Go.Ai
namespace Go.Ai
variable {P:Program} {glob:Nat→Option (List AV)} {g:af} {s:St} {B:Nat} {w:World} {env:Env} {a:Act} {o:Oper} {call:AV→List AV→St→Ctx→CO} {cx:Ctx} {e:EV} {env':Env} {s':St}
theorem Hl {t:TypeId} {sz:Nat} (h:FQ P t sz=true):∃el,P.underlying t=some (.slice el)∧iL P el sz=true:=by
 unfold FQ at h
 split at h
 ·rename_i el hu;exact ⟨el,hu,h⟩
 ·cases h
theorem Q9 {t:TypeId} {sz:Nat} (h:FQ P t sz=true) {b off len cap:Nat} {k:IntKind} {n:Int} (h0:0≤n) (hlt:n.toNat<len):
  (Instr.indexAt t (.slice (some ⟨b,off,none⟩) len cap) (.int k n)).run P w=.ok (.pointer (some ⟨b,off+n.toNat * sz,none⟩)) w:=by
 obtain ⟨el,hu,hsz⟩:=Hl h
 have h2:n<(len:Int):=by omega
 simp [Instr.indexAt,asIntOf,Sem.run_bind,run_underlying hu,h0,h2,run_sizeOf hsz,Addr.add_lit]
theorem LK {x:Operand} {ix:IX} (hc:aS x ix=true) (h:Sim P glob g s B w (Act.tm a) env) {k:Nat} (hk:gZ env ix=some k):a.eval x=Act.tm a k∧∃ow,lk env k=some ow∧ow.owns=true:=by
 unfold gZ at hk
 split at hk
 ·rename_i j
  have hx:a.eval x=Act.tm a j:=by
   unfold aS at hc
   split at hc
   ·simp at hc;subst hc;rename_i heq;cases heq;rfl
   ·rename_i heq;cases heq
   ·rename_i heq;cases heq
   ·rename_i heq;cases heq
   ·cases hc
  split at hk
  ·rename_i hj;cases hk;exact ⟨hx,_,hj,rfl⟩
  ·rename_i i hj;cases hk
   have e1:Act.tm a j=Act.tm a k:=h.env.rel j _ hj
   exact ⟨hx.trans e1,h.env.refs j _ k hj (by simp [EV.refers])⟩
  ·cases hk
 ·cases hk
theorem Xo {sz:Nat} {x i:IX} (h:Sim P glob g s B w (Act.tm a) env) (hc:au P o.op (.idx sz x i)=true) (hr:aop glob call cx env s (.idx sz x i)=.ok e env' s'):Good P glob g s B w a (execOp a.eval o) e env' s':=by
 simp only [au] at hc
 split at hc
 ·rename_i t x' i' hop
  simp only [Bool.and_eq_true] at hc
  obtain ⟨⟨hx,hi⟩,hty⟩:=hc
  simp only [aop] at hr
  split at hr
  ·rename_i kk n hn
   have hiv:=fO (ai (a:=a) hi h.env h.base.glob hn)
   split at hr
   ·rename_i k hk
    obtain ⟨hxv,_⟩:=LK hx h hk
    split at hr
    ·rename_i tip t' sz' es hown
     split at hr
     ·rename_i hcond
      obtain ⟨rfl,h0,hlt⟩:=hcond
      cases hr
      obtain ⟨xs,q1,q2,q3,q4,q5,q6⟩:=h.env.rel k _ hown
      rcases q1.2 with ⟨_,hn0⟩|⟨gb,cap',cur,hv',_⟩
      ·omega
      ·refine .same h (v:=.pointer (some ⟨gb,0+n.toNat * sz,none⟩)) ?_ ⟨fun d hd=>⟨gb,es.length,cap', ?_,by simp [upd_same]⟩,fun j hj=>?_,fun ho=>by simp [EV.owns] at ho⟩
       ·simp only [execOp,hop]
        refine ay ?_
        rw [hiv,hxv,hv']
        exact Q9 hty h0 hlt
       ·have:k≠d:=fun hkd=>by subst hkd;simp [EV.refers] at hd
        rw [upd_ne _ _ this,hv']
       ·simp [EV.refers] at hj;subst hj;exact ⟨_,hown,rfl⟩
     ·cases hr
    ·cases hr
   ·split at hr
    ·rename_i es hes
     split at hr
     ·rename_i el hel
      split at hr
      ·rename_i hcond
       obtain ⟨h0,hsz⟩:=hcond
       cases hr
       obtain ⟨hlt,rfl⟩:=List.getElem?_eq_some_iff.1 hel
       have hrep:=ai (a:=a) hx h.env h.base.glob hes
       have hgo:(execOp a.eval o)=(do pure (Next.value (←Instr.indexAt t (a.eval x') (a.eval i')))):=by simp only [execOp,hop]
       rw [hgo,hiv]
       generalize a.eval x'=ax at hrep
       cases hrep with
       | slNil=>simp at hlt
       | slE=>simp at hlt
       | sl bk off cap sz' _ c hcap hsz' hm hr'=>
        have hsz2:sz'=sz:=by rw [←hsz];exact (hsz' _ hlt).symm
        subst hsz2
        refine .val h (ay (Q9 hty h0 hlt)) (.ip bk _ _ (fun j=>c n.toNat j) (fun j hj=>?_) (fun j hj=>hr' _ hlt j hj))
        exact hm n.toNat j hlt (by omega)
      ·cases hr
     ·cases hr
    ·rename_i l ver sz2 o2 m hes
     split at hr
     ·rename_i hcond
      obtain ⟨rfl,h0,hlt⟩:=hcond
      cases hr
      have hrep:=ai (a:=a) hx h.env h.base.glob hes
      have hgo:(execOp a.eval o)=(do pure (Next.value (←Instr.indexAt t (a.eval x') (a.eval i')))):=by simp only [execOp,hop]
      rw [hgo,hiv]
      generalize a.eval x'=ax at hrep
      cases hrep with
      | skE=>omega
      | sk _ _ _ _ _ b off len cap c hl hh ho hc hcc=>
       refine .val h (ay (Q9 hty h0 hlt)) ?_
       rw [Nat.add_assoc]
       exact .sp l ver (o2+n.toNat * sz) b off len cap hl hh
     ·cases hr
    ·cases hr
  ·cases hr
 ·cases hc
theorem Q8 {t:TypeId} {n:Option Nat} (h:GI P t n=true) {vs:Array Value} {cs:List AV} {off N:Nat} {v:AV} (hr:Rep g N (.agg vs) (.ag cs)) (hp:part cs off n=some v):
  ∃u,(Go.part t vs off).run P w=.ok u w∧Rep g N u v:=by
 cases hr with
 | ag _ _ hl h1 hrr=>
  cases n with
  | none=>
   simp only [part] at hp
   obtain ⟨hlt,rfl⟩:=List.getElem?_eq_some_iff.1 hp
   have hlt':off<vs.size:=by rw [hl];exact hlt
   exact ⟨vs[off],by simp [Go.part,Sem.run_bind,QN h w,hlt'],hrr off hlt' hlt⟩
  | some n=>
   simp only [part] at hp
   split at hp
   ·rename_i hle
    cases hp
    refine ⟨.agg (vs.extract off (off+n)),by simp [Go.part,Sem.run_bind,(Gf h w).1,(Gf h w).2],.ag _ _ (by simp;omega) (fun i hi=>?_) (fun i hi hi'=>?_)⟩
    ·simp at hi;rw [Array.getElem_extract];exact h1 _ (by omega)
    ·simp at hi hi'
     rw [Array.getElem_extract,List.getElem_take,List.getElem_drop]
     exact hrr _ (by omega) (by omega)
   ·cases hp
theorem YX {g:af} {N:Nat} {u:Value} {cs:List AV} (h:Rep g N u (.ag cs)):∃vs,u=.agg vs:=by cases h;exact ⟨_,rfl⟩
theorem VI {len sz:Nat} {n:Option Nat} {x i:IX} (h:Sim P glob g s B w (Act.tm a) env) (hc:au P o.op (.idxv len sz n x i)=true) (hr:aop glob call cx env s (.idxv len sz n x i)=.ok e env' s'):Good P glob g s B w a (execOp a.eval o) e env' s':=by
 simp only [au] at hc
 split at hc
 ·rename_i t x' i' hop
  simp only [Bool.and_eq_true] at hc
  obtain ⟨⟨hx,hi⟩,hf⟩:=hc
  split at hf
  ·rename_i el hel
   simp only [aop] at hr
   split at hr
   ·rename_i cs k j hcs hj
    split at hr
    ·rename_i hlt
     obtain ⟨r,h1,rfl,rfl,rfl⟩:=uJ hr
     have hrep:=ai (a:=a) hx h.env h.base.glob hcs
     have hiv:=fO (ai (a:=a) hi h.env h.base.glob hj)
     obtain ⟨vs,hvs⟩:=YX hrep
     rw [hvs] at hrep
     obtain ⟨u,q1,q2⟩:=Q8 (w:=w) hf hrep h1
     refine .val h ?_ q2
     unfold arrayOf at hel
     split at hel
     ·rename_i m el' hu
      split at hel
      ·rename_i hm
       simp only [Bool.and_eq_true,beq_iff_eq] at hm
       obtain ⟨rfl,hsz⟩:=hm
       cases hel
       simp only [execOp,hop]
       refine ay ?_
       have h2:j<(m:Int):=by omega
       simp [Instr.index,hiv,asIntOf,Sem.run_bind,run_underlying hu,hvs,hlt.1,h2,run_sizeOf hsz,q1]
      ·cases hel
     ·cases hel
    ·cases hr
   ·cases hr
  ·cases hf
 ·cases hc
theorem iV {g:af} {N:Nat} {u:Value} {l:List UInt8} (h:Rep g N u (.s l)):u=.string ⟨l.toArray⟩:=by cases h;rfl
theorem uN {t:TypeId} (h:isStr P t=true):P.underlying t=some .string:=by
 unfold isStr at h
 split at h
 ·rename_i hu;exact hu
 ·cases h
theorem VJ {x i:IX} (h:Sim P glob g s B w (Act.tm a) env) (hc:au P o.op (.idxs x i)=true) (hr:aop glob call cx env s (.idxs x i)=.ok e env' s'):Good P glob g s B w a (execOp a.eval o) e env' s':=by
 simp only [au] at hc
 split at hc
 ·rename_i t x' i' hop
  simp only [Bool.and_eq_true] at hc
  obtain ⟨⟨hx,hi⟩,hty⟩:=hc
  simp only [aop] at hr
  split at hr
  ·rename_i l k j hl hj
   split at hr
   ·rename_i c hcc
    split at hr
    ·rename_i h0
     cases hr
     have hxv:=iV (ai (a:=a) hx h.env h.base.glob hl)
     have hiv:=fO (ai (a:=a) hi h.env h.base.glob hj)
     obtain ⟨hlt,rfl⟩:=List.getElem?_eq_some_iff.1 hcc
     have hget:(⟨l.toArray⟩:ByteArray)[j.toNat]?=some l[j.toNat]:=by
      rw [ByteArray.getElem?_lt' _ _ (by simpa [ByteArray.size_mk'] using hlt)]
      rfl
     refine .val h ?_ (.i .u8 _)
     simp only [execOp,hop]
     refine ay ?_
     simp [Instr.index,hiv,hxv,asIntOf,Sem.run_bind,run_underlying (uN hty),h0,hget]
    ·cases hr
   ·cases hr
  ·cases hr
 ·cases hc
theorem Xw {op:BinOp} {x y:IX} (h:Sim P glob g s B w (Act.tm a) env) (hc:au P o.op (.bin op x y)=true) (hr:aop glob call cx env s (.bin op x y)=.ok e env' s'):Good P glob g s B w a (execOp a.eval o) e env' s':=by
 simp only [au] at hc
 split at hc
 ·rename_i b' t x' y' t' hop
  simp only [Bool.and_eq_true,beq_iff_eq] at hc
  obtain ⟨⟨rfl,hx⟩,hy⟩:=hc
  simp only [aop] at hr
  split at hr
  ·rename_i p q hp hq
   obtain ⟨r,h1,rfl,rfl,rfl⟩:=uJ hr
   have rx:=ai (a:=a) hx h.env h.base.glob hp
   have ry:=ai (a:=a) hy h.env h.base.glob hq
   unfold U1 at h1
   split at h1
   ·rename_i k m k' n
    split at h1
    ·rename_i hk;subst hk
     obtain ⟨u,q1,q2⟩:=TV (P:=P) (w:=w) (t:=t) (x:=x') (y:=y') h1
     refine .val h ?_ (q2 _ _)
     simp only [execOp,hop]
     rw [fO rx,fO ry]
     exact ay q1
    ·cases h1
   ·rename_i l m
    obtain ⟨u,q1,q2⟩:=TU (P:=P) (w:=w) (t:=t) (x:=x') (y:=y') h1
    refine .val h ?_ (q2 _ _)
    simp only [execOp,hop]
    rw [iV rx,iV ry]
    exact ay q1
   ·cases h1
  ·cases hr
 ·cases hc
theorem jS {g:af} {N:Nat} {u:Value} {x:Bool} (h:Rep g N u (.b x)):u=.bool x:=by cases h;rfl
theorem SY {t:TypeId} (h:isBool P t=true):P.underlying t=some .bool:=by
 unfold isBool at h
 split at h
 ·rename_i hu;exact hu
 ·cases h
theorem Xx {neg:Bool} {x y:IX} (h:Sim P glob g s B w (Act.tm a) env) (hc:au P o.op (.beq neg x y)=true) (hr:aop glob call cx env s (.beq neg x y)=.ok e env' s'):Good P glob g s B w a (execOp a.eval o) e env' s':=by
 simp only [au] at hc
 split at hc
 ·rename_i b' t x' y' t' hop
  simp only [Bool.and_eq_true] at hc
  obtain ⟨⟨⟨hb,hx⟩,hy⟩,hty⟩:=hc
  simp only [aop] at hr
  split at hr
  ·rename_i p q hp hq
   cases hr
   have rx:=jS (ai (a:=a) hx h.env h.base.glob hp)
   have ry:=jS (ai (a:=a) hy h.env h.base.glob hq)
   refine .val h ?_ (.b _)
   have he:=run_equalIn_bool (P:=P) (w:=w) 9999 (SY hty) p q
   simp only [execOp,hop]
   rw [rx,ry]
   refine ay ?_
   cases neg with
   | true=>
    simp only [if_true,beq_iff_eq] at hb
    subst hb
    simp [eqGuard,binOp,Op.equal,Op.maxDepth,he]
   | false=>
    simp only [Bool.false_eq_true,if_false,beq_iff_eq] at hb
    subst hb
    simp [eqGuard,binOp,Op.equal,Op.maxDepth,he]
  ·cases hr
 ·cases hc
theorem Ut {neg:Bool} {k:Nat} {x:IX} (h:Sim P glob g s B w (Act.tm a) env) (hc:au P o.op (.nileq neg k x)=true) (hr:aop glob call cx env s (.nileq neg k x)=.ok e env' s'):Good P glob g s B w a (execOp a.eval o) e env' s':=by
 simp only [au] at hc
 split at hc
 ·rename_i b' t x' y' t' hop
  simp only [Bool.and_eq_true] at hc
  obtain ⟨⟨hb,hx⟩,hnil⟩:=hc
  simp only [aop] at hr
  split at hr
  ·rename_i p hp
   split at hr
   ·rename_i r hk
    cases hr
    have rx:=ai (a:=a) hx h.env h.base.glob hp
    obtain ⟨c,rfl,q1,q2,q3⟩:=MO (P:=P) (w:=w) 9999 hnil hk rx
    refine .val h ?_ (.b _)
    simp only [execOp,hop]
    refine ay ?_
    have hev:a.eval (.const c)=c:=rfl
    rw [hev]
    cases neg with
    | true=>
     simp only [if_true,beq_iff_eq] at hb
     subst hb
     simp [q2,q3,Op.equal,Op.maxDepth,q1]
    | false=>
     simp only [Bool.false_eq_true,if_false,beq_iff_eq] at hb
     subst hb
     simp [q2,q3,Op.equal,Op.maxDepth,q1]
   ·cases hr
  ·cases hr
 ·cases hc
theorem X4 {op:UnOp} {x:IX} (h:Sim P glob g s B w (Act.tm a) env) (hc:au P o.op (.un op x)=true) (hr:aop glob call cx env s (.un op x)=.ok e env' s'):Good P glob g s B w a (execOp a.eval o) e env' s':=by
 simp only [au] at hc
 split at hc
 ·rename_i u' t x' hop
  simp only [Bool.and_eq_true,beq_iff_eq] at hc
  obtain ⟨rfl,hx⟩:=hc
  simp only [aop] at hr
  split at hr
  ·rename_i p hp
   obtain ⟨r,h1,rfl,rfl,rfl⟩:=uJ hr
   have rx:=ai (a:=a) hx h.env h.base.glob hp
   unfold XV at h1
   split at h1
   ·split at h1
    ·cases h1
     refine .val h ?_ (.b _)
     simp only [execOp,hop]
     rw [jS rx]
     exact ay (by simp [Op.unary])
    ·cases h1
   ·split at h1
    ·cases h1
     refine .val h ?_ (.i _ _)
     simp only [execOp,hop]
     rw [fO rx]
     exact ay (by simp [Op.unary,Op.intArith])
    ·cases h1
   ·cases h1
  ·cases hr
 ·cases hc
end Go.Ai
