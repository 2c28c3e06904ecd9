/-
 Slices that lie in the heap, can be written and grow.
-/
import Derived.Test.YtpihciomhfoafaaGreatDoorAiA7
import Derived.Test.YtpihciomhfoafaaGreatDoorAiA5
import Derived.Laws.MakeOwn
import Derived.Test.YtpihciomhfoafaaGreatDoorAiA4
set_option maxRecDepth 100000
set_option linter.unusedSimpArgs false
set_option linter.unusedVariables false
set_option linter.unusedSectionVars false
namespace Go.Ai
variable {P:Program} {glob:Nat→Option (List AV)} {g:af} {s:St} {B:Nat} {w:World} {env:Env} {a:Act} {o:Oper} {call:AV→List AV→St→Ctx→CO} {cx:Ctx} {e:EV} {env':Env} {s':St}
def af.bufAt (g:af) (l b:Nat) (v:Value):af:={ g with L:=fun l'=>if l'=l then b else g.L l',hist:=fun l'=>if l'=l then fun k=>if k=0 then some v else none else g.hist l' }
def af.bufNext (g:af) (l ver:Nat) (v:Value):af:={ g with hist:=fun l'=>if l'=l then fun k=>if k=ver then some v else g.hist l k else g.hist l' }
theorem JY {tm:Nat→Value} (h:Sim P glob g s B w tm env) {w':World} (hg:Grew True w w') {b off len cap t sz:Nat} {cur:Array Value} {cs:List AV} (hb:w.heap.size≤b) (hrow:w'.heap[b]?=some (.cells cur t (0,0)))
  (hlen:cs.length=len * sz) (hlc:len≤cap) (hmax:cap≤maxLen) (hpos:0<sz) (hfit:off+cap * sz≤cur.size) (hr:aB g s.length ((cur.toList.drop off).take cs.length) cs) (h1:bH ((cur.toList.drop off).take cs.length)):
  Step True g s.length B w (g.bufAt s.length b (.slice (some ⟨b,off,none⟩) len cap)) (s++[eH.buf t sz 0 cs]).length w'∧Sim P glob (g.bufAt s.length b (.slice (some ⟨b,off,none⟩) len cap)) (s++[eH.buf t sz 0 cs]) B w' tm env∧
   g.le s.length (g.bufAt s.length b (.slice (some ⟨b,off,none⟩) len cap)) (s.length+1):=by
 let v:Value:=.slice (some ⟨b,off,none⟩) len cap
 have hle:g.le s.length (g.bufAt s.length b v) (s.length+1):=by
  refine ⟨fun _ _ _ h=>h,fun _ _ h=>h,fun l hl=>?_,fun l hl k u hk=>?_,by omega⟩
  ·have:l≠s.length:=by omega
   simp [af.bufAt,this]
  ·have:l≠s.length:=by omega
   simp only [af.bufAt,if_neg this];exact hk
 have hfr:=h.base.imm.fresh hb
 have him:=h.base.imm.grew hg
 have hp:=h.push (g':=g.bufAt s.length b v) (ob:=.buf t sz 0 cs) hg hle (fun l hl=>?_) (fun _ _=>⟨rfl,rfl⟩) (fun c hc=>?_) ⟨him.m,him.mm⟩ ?_
 ·exact ⟨hp.1,hp.2,hle⟩
 ·have:l≠s.length:=by omega
  simp [af.bufAt,this]
 ·have:c=b:=by
   rcases hc with hc|⟨k,u,hk,hu⟩
   ·simp [af.bufAt] at hc;exact hc.symm
   ·simp only [af.bufAt,if_true] at hk
    split at hk
    ·cases hk;simp [v,aQ] at hu;exact hu.symm
    ·cases hk
  subst this
  exact ⟨hb,(Array.getElem?_eq_some_iff.1 hrow).1⟩
 ·refine ⟨b,off,len,cap,cur,by simp [af.bufAt,v],fun k hk=>?_,⟨hfr.m,hfr.mm⟩,hlen,hlc,hmax,hpos,hrow,hfit,hr.mono hle,h1⟩
  simp only [af.bufAt,if_true];rw [if_neg (by omega)]
theorem XE {tm:Nat→Value} (h:Sim P glob g s B w tm env) {l t sz ver:Nat} {cs0:List AV} (hl:s[l]?=some (.buf t sz ver cs0)) {w':World} {b off len cap:Nat} {cur:Array Value} {cs:List AV}
  (hb:g.bl l b∨w.heap.size≤b) (hold:∀c,c<w.heap.size→c≠b→w'.heap[c]?=w.heap[c]?) (hsize:w.heap.size≤w'.heap.size) (hio:w'.os=w.os∧w'.output=w.output∧(True→TD w w')) (hnc:fP g b)
  (hrow:w'.heap[b]?=some (.cells cur t (0,0))) (hlen:cs.length=len * sz) (hlc:len≤cap) (hmax:cap≤maxLen) (hfit:off+cap * sz≤cur.size)
  (hr:aB g s.length ((cur.toList.drop off).take cs.length) cs) (h1:bH ((cur.toList.drop off).take cs.length)):
  Step True g s.length B w (g.bufNext l (ver+1) (.slice (some ⟨b,off,none⟩) len cap)) (s.set l (eH.buf t sz (ver+1) cs)).length w'∧
   Sim P glob (g.bufNext l (ver+1) (.slice (some ⟨b,off,none⟩) len cap)) (s.set l (eH.buf t sz (ver+1) cs)) B w' tm env:=by
 let v:Value:=.slice (some ⟨b,off,none⟩) len cap
 have hlt:l<s.length:=(List.getElem?_eq_some_iff.1 hl).1
 obtain ⟨b0,off0,len0,cap0,cur0,q1,q2,q3,q4,q5,q6,q7,q8,q9,q10,q11⟩:=h.base.heap.obj l _ hl
 have hle:g.le s.length (g.bufNext l (ver+1) v) s.length:=by
  refine ⟨fun _ _ _ h=>h,fun _ _ h=>h,fun _ _=>rfl,fun l' _ k u hk=>?_,Nat.le_refl _⟩
  simp only [af.bufNext]
  split
  ·rename_i he;subst he
   show (if k=ver+1 then some v else g.hist l' k)=some u
   rw [if_neg (fun he=>by subst he;rw [q2 _ (by omega)] at hk;cases hk)];exact hk
  ·exact hk
 have hbl:∀c,(g.bufNext l (ver+1) v).bl l c→g.bl l c∨w.heap.size≤c:=by
  rintro c (hc|⟨k,u,hk,hu⟩)
  ·exact .inl (.inl hc)
  ·simp only [af.bufNext,if_true] at hk
   split at hk
   ·cases hk;simp [v,aQ] at hu;subst hu;exact hb
   ·exact .inl (.inr ⟨k,u,hk,hu⟩)
 have htk:∀c,(g.bufNext l (ver+1) v).taken s.length c→g.taken s.length c∨w.heap.size≤c:=by
  rintro c ⟨l',hl',hc⟩
  by_cases he:l'=l
  ·subst he
   rcases hbl c hc with hc|hc
   ·exact .inl ⟨l',hl',hc⟩
   ·exact .inr hc
  ·rcases hc with hc|⟨k,u,hk,hu⟩
   ·exact .inl ⟨l',hl',.inl hc⟩
   ·simp only [af.bufNext,if_neg he] at hk;exact .inl ⟨l',hl',.inr ⟨k,u,hk,hu⟩⟩
 have hnt:∀c,c<w.heap.size→¬g.taken s.length c→c≠b:=fun c hcs hn hcb=>by
  subst hcb
  rcases hb with h' | h'
  ·exact hn ⟨l,hlt,h'⟩
  ·omega
 have hB:=h.B
 have hbs:b<w'.heap.size:=(Array.getElem?_eq_some_iff.1 hrow).1
 rw [List.length_set]
 refine ⟨⟨hle,hsize,fun c hc hn=>hold c (by omega) (hnt c (by omega) hn),fun _ _ _=>rfl,fun _ _=>rfl,fun c hc=>?_,hio⟩,⟨⟨?_, ?_,h.base.glob.mono hle⟩, ?_,by omega⟩⟩
 ·rcases htk c hc with h' | h'
  ·exact .inl h'
  ·exact .inr (by omega)
 ·refine ⟨fun c o' u hu=>?_,fun c es hc=>?_⟩
  ·have hcb:c≠b:=fun hcb=>by subst hcb;have:g.m c o'=some u:=hu;rw [hnc.m o'] at this;cases this
   rw [World.cell?_of_block (hold c (cell_lt (h.base.imm.m c o' u hu)) hcb)];exact h.base.imm.m c o' u hu
  ·have hcb:c≠b:=fun hcb=>by subst hcb;have:g.mm c=some es:=hc;rw [hnc.mm] at this;cases this
   exact (h.base.imm.mm c es hc).keep (hold c (h.base.imm.mm c es hc).lt hcb)
 ·refine h.base.heap.setAt hlt hle (fun l' _ hne=>by simp [af.bufNext,hne]) hbl (fun c hc=>?_) hsize (fun c hcs hnc'=>?_) ?_
  ·rcases hbl c hc with h' | h'
   ·exact Nat.lt_of_lt_of_le (h.base.heap.lt l c hlt h') hsize
   ·rcases hc with hc|⟨k,u,hk,hu⟩
    ·have:c<w.heap.size:=h.base.heap.lt l c hlt (.inl hc);omega
    ·simp only [af.bufNext,if_true] at hk
     split at hk
     ·cases hk;simp [v,aQ] at hu;subst hu;exact hbs
     ·have:c<w.heap.size:=h.base.heap.lt l c hlt (.inr ⟨k,u,hk,hu⟩);omega
  ·have hne:c≠b:=fun hcb=>by
    subst hcb
    rcases hb with h' | h'
    ·exact hnc' h'
    ·omega
   exact ⟨hold c hcs hne,rfl,rfl⟩
  ·refine ⟨b,off,len,cap,cur,by simp [af.bufNext,v],fun k hk=>?_,⟨hnc.m,hnc.mm⟩,hlen,hlc,hmax,q7,hrow,hfit,hr.mono hle,h1⟩
   simp only [af.bufNext,if_true];rw [if_neg (by omega)];exact q2 k (by omega)
 ·rw [List.length_set]
  refine h.env.next hle (fun j x hj hx c hcj=>?_)
  have hcs:=yt h.env hj hx hcj
  have hne:=hnt c hcs (h.env.off j x hj hx c hcj)
  refine ⟨hold c hcs hne,rfl,rfl,fun ht=>?_⟩
  rcases htk c ht with h' | h'
  ·exact h'
  ·omega
theorem WA {t t' ty el:TypeId} {d:TypeDesc} {i:TypeInfo} {z:Value} {sz n m c b off:Nat} {xs news:List Value} {x:Value} {cur:Array Value} (ht:P.underlying t=some (.slice el)) (ht':P.underlying t'=some d) (hd:(∃q,d=.slice q)∨d=.string)
  (hi:P.info? el=some i) (hz:i.zero=some z) (hsz:i.size=sz) (hzs:z.cells.size=sz) (hpos:0<m) (hrow:w.heap[b]?=some (.cells cur el (0,0))) (hfit:off+c * sz≤cur.size) (hnc:n≤c) (hcm:c≤maxLen)
  (hxs:xs=(cur.toList.drop off).take (n * sz)) (hx:Src P w sz x m news) (hmax:n+m≤dK) (hby:i.bytes≤65536):
  ∃b' off' c' cur' w',(Builtin.append_ #[t,t'] ty #[.slice (some ⟨b,off,none⟩) n c,x]).run P w=.ok (.slice (some ⟨b',off',none⟩) (n+m) c') w'∧w'.heap[b']?=some (.cells cur' el (0,0))∧n+m≤c'∧c'≤maxLen∧
   off'+c' * sz≤cur'.size∧(cur'.toList.drop off').take ((n+m) * sz)=xs++news∧(b'=b∨w.heap.size≤b')∧(∀k,k<w.heap.size→k≠b'→w'.heap[k]?=w.heap[k]?)∧w.heap.size≤w'.heap.size∧w'.os=w.os∧w'.output=w.output∧TD w w':=by
 subst hsz
 have hmax':n+m≤1073741824:=hmax
 have hnc2:=Nat.mul_le_mul_right i.size hnc
 have hxl:xs.length=n * i.size:=by rw [hxs];simp;omega
 have hlen:(xs++news).length=(n+m) * i.size:=by rw [List.length_append,hxl,hx.size,Nat.add_mul]
 have hca:jF w b off xs:=by
  rw [hxs]
  have:=((jA hrow).drop off).take (n * i.size)
  simpa using this
 by_cases hroom:n+m≤c
 ·have hrm:=Nat.mul_le_mul_right i.size hroom
  rw [Nat.add_mul] at hrm
  have hnl:=hx.size
  have hst:=run_storeCells_at P b (off+n * i.size) el news 0 cur w hrow (by omega) hx.one
  simp only [Nat.add_zero] at hst
  refine ⟨b,off,c,_,w.setRow b (cur.toList.take (off+n * i.size)++news++cur.toList.drop (off+n * i.size+news.length)).toArray, ?_,dR hrow,hroom,hcm, ?_, ?_,.inl rfl,fun k _ hk=>aG _ hk,by simp,rfl,rfl,⟨rfl,Nat.le_refl _⟩⟩
  ·rcases hd with ⟨q,rfl⟩|rfl<;>simp [Builtin.append_,run_underlying ht,run_underlying ht',sizeOf,typeInfo,hi,hx.len,hroom,hx.cells w rfl,Addr.add_lit,hst]
  ·simp;omega
  ·rw [←hlen,hxs]
   simp only [List.toList_toArray]
   apply List.ext_getElem?
   intro j
   simp only [List.getElem?_take,List.getElem?_drop,List.getElem?_append,List.length_append,List.length_take,List.length_drop,Array.length_toList]
   by_cases c1:j<n * i.size
   ·simp [c1,show j<min (n * i.size) (cur.size - off)+news.length by omega,show off+j<min (off+n * i.size) cur.size+news.length by omega,show off+j<min (off+n * i.size) cur.size by omega,show j<min (n * i.size) (cur.size - off) by omega]
   ·by_cases c2:j<n * i.size+news.length
    ·simp [show j<min (n * i.size) (cur.size - off)+news.length by omega,show off+j<min (off+n * i.size) cur.size+news.length by omega,show ¬off+j<min (off+n * i.size) cur.size by omega,show ¬j<min (n * i.size) (cur.size - off) by omega]
     congr 1;omega
    ·simp [show ¬j<min (n * i.size) (cur.size - off)+news.length by omega,show ¬j<min (n * i.size) (cur.size - off) by omega]
     omega
 ·have hge:=grownCap_ge w (n+m) c el
  have h48:¬(281474976710656<Builtin.nextslicecap (n+m) c * i.bytes):=by
   have h1:=nextslicecap_le (show c<n+m by omega)
   have h2:Builtin.nextslicecap (n+m) c * i.bytes≤2147483648 * 65536:=Nat.mul_le_mul (by omega) hby
   omega
  have h63:¬(9223372036854775807<((n:Int)+(m:Int))):=by omega
  have hfo:(Builtin.firstCells i.size n (.slice (some ⟨b,off,none⟩) n c)).run P w.drew=.ok xs.toArray w.drew:=rM hxl hca
  refine ⟨w.heap.size,0,grownCap w (n+m) c el,xs.toArray++news.toArray++Builtin.zeroCells z.cells (grownCap w (n+m) c el - (n+m)),w.drew.alloc (.cells (xs.toArray++news.toArray++Builtin.zeroCells z.cells (grownCap w (n+m) c el - (n+m))) el), ?_,heap_alloc_new w.drew _,hge,grownCap_le_maxLen w _ _ _ (by simp only [maxLen];omega), ?_, ?_,.inr (Nat.le_refl _),fun k hk _=>heap_alloc_old w.drew _ k hk,show w.heap.size≤(w.heap.push _).size by simp,rfl,rfl,⟨rfl,Nat.le_succ _⟩⟩
  ·rcases hd with ⟨q,rfl⟩|rfl<;>simp [Builtin.append_,run_underlying ht,run_underlying ht',sizeOf,typeInfo,zeroValue,hi,hz,hx.len,hroom,h63,h48,Question.forced,hfo,hx.cells w.drew rfl,newRow,grownCap]<;>(congr 2;apply Array.ext';simp [List.append_assoc])
  ·simp only [Nat.zero_add,Array.size_append,List.size_toArray,size_zeroCells,hzs]
   rw [hxl,hx.size,←Nat.add_mul,←Nat.add_mul]
   refine Nat.le_of_eq ?_
   congr 1;omega
  ·rw [←hlen]
   simp only [List.drop_zero,Array.toList_append]
   rw [List.take_left']
   rfl
theorem Ko {t t' ty el:TypeId} {d:TypeDesc} {i:TypeInfo} {z:Value} {sz m:Nat} {ad:Addr} {news:List Value} {x:Value} (ht:P.underlying t=some (.slice el)) (ht':P.underlying t'=some d) (hd:(∃q,d=.slice q)∨d=.string)
  (hi:P.info? el=some i) (hz:i.zero=some z) (hsz:i.size=sz) (hzs:z.cells.size=sz) (hpos:0<m) (hx:Src P w sz x m news) (hmax:m≤dK) (hby:i.bytes≤65536):
  ∃b' off' c' cur' w',(Builtin.append_ #[t,t'] ty #[.slice (some ad) 0 0,x]).run P w=.ok (.slice (some ⟨b',off',none⟩) m c') w'∧w'.heap[b']?=some (.cells cur' el (0,0))∧m≤c'∧c'≤maxLen∧
   off'+c' * sz≤cur'.size∧(cur'.toList.drop off').take (m * sz)=news∧w.heap.size≤b'∧(∀k,k<w.heap.size→k≠b'→w'.heap[k]?=w.heap[k]?)∧w.heap.size≤w'.heap.size∧w'.os=w.os∧w'.output=w.output∧TD w w':=by
 subst hsz
 have hmax':m≤1073741824:=hmax
 have hge:=grownCap_ge w m 0 el
 have h48:¬(281474976710656<Builtin.nextslicecap m 0 * i.bytes):=by
  have h1:=nextslicecap_le (show 0<m by omega)
  have h2:Builtin.nextslicecap m 0 * i.bytes≤2147483648 * 65536:=Nat.mul_le_mul (by omega) hby
  omega
 have h63:¬(9223372036854775807<(m:Int)):=by omega
 have hm:m≠0:=by omega
 have hfo:(Builtin.firstCells i.size 0 (.slice (some ad) 0 0)).run P w.drew=.ok #[] w.drew:=by
  simpa [Builtin.firstCells] using run_loadCells_list (P:=P) w.drew ad [] (fun j v hv=>by simp at hv)
 refine ⟨w.heap.size,0,grownCap w m 0 el,news.toArray++Builtin.zeroCells z.cells (grownCap w m 0 el - m),w.drew.alloc (.cells (news.toArray++Builtin.zeroCells z.cells (grownCap w m 0 el - m)) el), ?_,heap_alloc_new w.drew _,hge,grownCap_le_maxLen w _ _ _ (by simp only [maxLen];omega), ?_, ?_,Nat.le_refl _,fun k hk _=>heap_alloc_old w.drew _ k hk,show w.heap.size≤(w.heap.push _).size by simp,rfl,rfl,⟨rfl,Nat.le_succ _⟩⟩
 ·rcases hd with ⟨q,rfl⟩|rfl<;>simp [Builtin.append_,run_underlying ht,run_underlying ht',sizeOf,typeInfo,zeroValue,hi,hz,hx.len,hm,h63,h48,Question.forced,hfo,hx.cells w.drew rfl,newRow,grownCap]
 ·simp only [Nat.zero_add,Array.size_append,List.size_toArray,size_zeroCells,hzs]
  rw [hx.size,←Nat.add_mul]
  refine Nat.le_of_eq ?_
  congr 1;omega
 ·rw [←hx.size]
  simp only [List.drop_zero,Array.toList_append]
  rw [List.take_left']
  rfl
theorem La {el sz:Nat} {x y:IX} (h:Sim P glob g s B w (Act.tm a) env) (hc:au P o.op (.appk el sz x y)=true) (hr:aop glob call cx env s (.appk el sz x y)=.ok e env' s'):Good P glob g s B w a (execOp a.eval o) e env' s':=by
 simp only [au] at hc
 split at hc
 ·rename_i c hop
  split at hc
  ·rename_i ts x' y' hcal hargs
   split at hc
   ·rename_i t t' htys
    simp only [Bool.and_eq_true,beq_iff_eq] at hc
    obtain ⟨⟨⟨⟨rfl,hx⟩,hy⟩,hsl⟩,hinf⟩:=hc
    obtain ⟨hu,hsz⟩:=fV hsl
    obtain ⟨i,hi,hisz⟩:=gm hsz
    rw [hi] at hinf
    simp only [Option.any_some,Bool.and_eq_true,decide_eq_true_eq] at hinf
    obtain ⟨hby,hzz⟩:=hinf
    cases hz:i.zero with
    | none=>simp [hz] at hzz
    | some z=>
    simp [hz] at hzz
    simp only [aop] at hr
    split at hr
    ·-- a new row
     rename_i ys hys hxv
     split at hr
     ·rename_i hcond
      obtain ⟨hpos,hlen,hall,hmax⟩:=hcond
      cases hr
      have hall':∀y∈ys,y.cells.length=sz:=fun y hy=>by simpa using List.all_eq_true.1 hall y hy
      obtain ⟨news,q1,q2⟩:=ku hy h hys hall'
      have hx0:a.eval x'=.slice none 0 0:=by
       have:=fE (a:=a) hx h.env h.base.glob hxv
       generalize a.eval x'=ax at this
       cases this;rfl
      obtain ⟨v',w',r1,r2,r3⟩:=NE (ty:=o.type) (B:=0) hu hu (.inl ⟨_,rfl⟩) hi hz hisz hzz (World.ownsRow_nil w 0 el sz) q1 (by simpa using hmax) hby (Nat.zero_le _)
      simp only [Nat.zero_add,List.nil_append] at r2
      have hrun:(execOp a.eval o).run P w=.ok (.value v') w':=dI hop hcal hargs htys (by rw [hx0];exact r1)
      rcases r3 with ⟨gb,cur,e1,_⟩|⟨hgrew,hfresh⟩
      ·simp [aQ] at e1
      ·rcases r2.2 with ⟨_,hn⟩|⟨gb,cap,cur,hv,_,hg,hcap,hcm,hcs,htake⟩
       ·omega
       ·have hfl:(ys.flatMap AV.cells).length=ys.length * sz:=pO hall'
        obtain ⟨st,sm,hle⟩:=JY (t:=el) (sz:=sz) (len:=ys.length) (cap:=cap) (off:=0) h hgrew (hfresh gb (by simp [hv,aQ])) hg hfl hcap hcm hpos (by omega) (by rw [hfl,List.drop_zero,htake];exact q2) (by rw [hfl,List.drop_zero,htake];exact q1.one)
        refine ⟨v',w',_,.inl hrun,st,sm,.v ?_⟩
        rw [hv]
        simpa using Rep.sk (g:=g.bufAt s.length gb (.slice (some ⟨gb,0,none⟩) ys.length cap)) (n:=(s++[eH.buf el sz 0 (ys.flatMap AV.cells)]).length) s.length 0 sz 0 ys.length gb 0 ys.length cap cap (by simp) (by simp [af.bufAt]) (by omega) hcap (by omega)
     ·cases hr
    ·-- a new row,behind an empty one
     rename_i ys hys hxv
     split at hr
     ·rename_i hcond
      obtain ⟨hpos,hlen,hall,hmax⟩:=hcond
      cases hr
      have hall':∀y∈ys,y.cells.length=sz:=fun y hy=>by simpa using List.all_eq_true.1 hall y hy
      obtain ⟨news,q1,q2⟩:=ku hy h hys hall'
      obtain ⟨ad,hx0⟩:∃ad,a.eval x'=.slice (some ad) 0 0:=by
       have:=fE (a:=a) hx h.env h.base.glob hxv
       generalize a.eval x'=ax at this
       cases this;exact ⟨_,rfl⟩
      obtain ⟨b',off',c',cur',w',e1,e2,e3,e4,e5,e6,e7,e8,e9,e10,e11,e12⟩:=Ko (ty:=o.type) (ad:=ad) hu hu (.inl ⟨_,rfl⟩) hi hz hisz hzz hlen q1 (by omega) hby
      have hrun:(execOp a.eval o).run P w=.ok (.value _) w':=dI hop hcal hargs htys (by rw [hx0];exact e1)
      have hfl:(ys.flatMap AV.cells).length=ys.length * sz:=pO hall'
      obtain ⟨st,sm,hle⟩:=JY (t:=el) (sz:=sz) (len:=ys.length) (cap:=c') (off:=off') h ⟨e9,fun k hk=>e8 k hk (by omega),e10,e11,fun _=>e12⟩ e7 e2 hfl e3 e4 hpos e5 (by rw [hfl,e6];exact q2) (by rw [hfl,e6];exact q1.one)
      refine ⟨_,w',_,.inl hrun,st,sm,.v ?_⟩
      simpa using Rep.sk (g:=g.bufAt s.length b' (.slice (some ⟨b',off',none⟩) ys.length c')) (n:=(s++[eH.buf el sz 0 (ys.flatMap AV.cells)]).length) s.length 0 sz 0 ys.length b' off' ys.length c' c' (by simp) (by simp [af.bufAt]) (by omega) e3 (by omega)
     ·cases hr
    ·-- a row that is there
     rename_i ys l ver sz2 o2 m hys hxv
     split at hr
     ·rename_i t2 sz3 ver2 cs hl
      split at hr
      ·rename_i hcond
       obtain ⟨rfl,rfl,rfl,rfl,hlen,hall,hmax,hfit0,_,_⟩:=hcond
       cases hr
       have hall':∀y∈ys,y.cells.length=sz2:=fun y hy=>by simpa using List.all_eq_true.1 hall y hy
       obtain ⟨news,q1,q2⟩:=ku hy h hys hall'
       have hlt:l<s.length:=(List.getElem?_eq_some_iff.1 hl).1
       obtain ⟨b,off,len,cap,cur,p1,p2,p3,p4,p5,p6,p7,p8,p9,p10,p11⟩:=h.base.heap.obj l _ hl
       have hrep:=fE (a:=a) hx h.env h.base.glob hxv
       have hcsl:cs.length≤cap * sz2:=by rw [p4];exact Nat.mul_le_mul_right sz2 p5
       have hfl:(ys.flatMap AV.cells).length=ys.length * sz2:=pO hall'
       have hcl:((cs.drop o2).take (m * sz2)++ys.flatMap AV.cells).length=(m+ys.length) * sz2:=by
        rw [List.length_append,hfl,Nat.add_mul];simp;omega
       -- the common end
       have fin:∀b' off' c' cur' w',(Builtin.append_ #[t,t] o.type #[a.eval x',a.eval y']).run P w=.ok (.slice (some ⟨b',off',none⟩) (m+ys.length) c') w'→w'.heap[b']?=some (.cells cur' el (0,0))→m+ys.length≤c'→c'≤maxLen→
         off'+c' * sz2≤cur'.size→(cur'.toList.drop off').take ((m+ys.length) * sz2)=(((cur.toList.drop off).take cs.length).drop o2).take (m * sz2)++news→(b'=b∨w.heap.size≤b')→(∀k,k<w.heap.size→k≠b'→w'.heap[k]?=w.heap[k]?)→w.heap.size≤w'.heap.size→w'.os=w.os→w'.output=w.output→TD w w'→
         Good P glob g s B w a (execOp a.eval o) (.v (.sk l (ver+1) sz2 0 (m+ys.length))) env (s.set l (eH.buf el sz2 (ver+1) ((cs.drop o2).take (m * sz2)++ys.flatMap AV.cells))):=by
        intro b' off' c' cur' w' e1 e2 e3 e4 e5 e6 e7 e8 e9 e10 e11 e12
        have hbl:g.bl l b'∨w.heap.size≤b':=e7.imp (fun hb=>by subst hb;exact .inr ⟨ver,_,p1,rfl⟩) id
        have hnc:fP g b':=by
         rcases e7 with rfl|hb
         ·exact p3
         ·exact h.base.imm.fresh hb
        have hone:bH ((((cur.toList.drop off).take cs.length).drop o2).take (m * sz2)++news):=fun u hu=>(List.mem_append.1 hu).elim (((p11.drop o2).take _) u) (q1.one u)
        obtain ⟨st,sm⟩:=XE (len:=m+ys.length) h hl hbl e8 e9 ⟨e10,e11,fun _=>e12⟩ hnc e2 hcl e3 e4 e5 (by rw [hcl,e6];exact ((p10.drop o2).take _).append q2) (by rw [hcl,e6];exact hone)
        have hrun:(execOp a.eval o).run P w=.ok (.value _) w':=dI hop hcal hargs htys e1
        refine ⟨_,w',_,.inl hrun,st,sm,.v ?_⟩
        simpa using Rep.sk (g:=g.bufNext l (ver+1) (.slice (some ⟨b',off',none⟩) (m+ys.length) c')) (n:=(s.set l (eH.buf el sz2 (ver+1) ((cs.drop o2).take (m * sz2)++ys.flatMap AV.cells))).length) l (ver+1) sz2 0 (m+ys.length) b' off' (m+ys.length) c' c' (by simpa using hlt) (by simp [af.bufNext]) (by omega) e3 (by omega)
       generalize hax:a.eval x'=ax at hrep fin
       cases hrep with
       | skE _ _ _ _ ad hk=>
        obtain ⟨b',off',c',cur',w',e1,e2,e3,e4,e5,e6,e7,e8,e9,e10,e11,e12⟩:=Ko (ty:=o.type) (ad:=ad) hu hu (.inl ⟨_,rfl⟩) hi hz hisz hzz hlen q1 (by omega) hby
        refine fin b' off' c' cur' w' (by simpa using e1) e2 (by omega) e4 e5 ?_ (.inr e7) e8 e9 e10 e11 e12
        simpa using e6
       | sk _ _ _ _ _ b1 off1 len1 cap1 c1 hk hh ho hc2 hcc=>
        rw [p1] at hh
        cases hh
        obtain ⟨b',off',c',cur',w',e1,e2,e3,e4,e5,e6,e7,e8,e9,e10,e11,e12⟩:=WA (ty:=o.type) (off:=off+o2) (n:=m) (c:=c1) hu hu (.inl ⟨_,rfl⟩) hi hz hisz hzz hlen p8 (by omega) hc2 (by
         have:c1 * sz2≤cap * sz2:=by omega
         have:=Nat.le_of_mul_le_mul_right this p7
         omega) rfl q1 hmax hby
        refine fin b' off' c' cur' w' e1 e2 e3 e4 e5 ?_ e7 e8 e9 e10 e11 e12
        rw [e6]
        congr 1
        rw [List.drop_take,List.take_take,List.drop_drop,Nat.min_eq_left (by omega)]
      ·cases hr
     ·cases hr
    ·cases hr
   ·cases hc
  ·cases hc
 ·cases hc
theorem rO {t ty el:TypeId} {i:TypeInfo} {sz len cap:Nat} {base:Option Addr} {news:List Value} {y:Value} (ht:P.underlying t=some (.slice el)) (hi:P.info? el=some i) (hsz:i.size=sz) (hle:len≤cap) (hx:Src P w sz y 0 news):
  (Builtin.append_ #[t,t] ty #[.slice base len cap,y]).run P w=.ok (.slice base len cap) w:=by
 subst hsz
 have hn:news=[]:=List.eq_nil_of_length_eq_zero (by have:=hx.size;omega)
 subst hn
 cases base<;>simp [Builtin.append_,run_underlying ht,sizeOf,typeInfo,hi,hx.len,hle,hx.cells w rfl,storeCells]
theorem IV {sz m:Nat} {x:Operand} {ix:IX} {cs:List AV} (hc:aS x ix=true) (h:Sim P glob g s B w (Act.tm a) env) (he:EI glob env s sz ix=some (m,cs)):
  ∃news,Src P w sz (a.eval x) m news∧aB g s.length news cs∧cs.length=m * sz:=by
 unfold EI at he
 split at he
 ·rename_i ys hys
  split at he
  ·rename_i hall
   cases he
   have hall':∀y∈ys,y.cells.length=sz:=fun y hy=>by simpa using List.all_eq_true.1 hall y hy
   obtain ⟨news,q1,q2⟩:=ku hc h hys hall'
   exact ⟨news,q1,q2,pO hall'⟩
  ·cases he
 ·split at he
  ·rename_i l ver sz' o m' hxv
   split at he
   ·rename_i t sz'' ver' cs0 hl
    split at he
    ·rename_i hcond
     obtain ⟨rfl,rfl,rfl,hfit⟩:=hcond
     cases he
     obtain ⟨b,off,len,cap,cur,p1,p2,p3,p4,p5,p6,p7,p8,p9,p10,p11⟩:=h.base.heap.obj l _ hl
     have hrep:=fE (a:=a) hc h.env h.base.glob hxv
     generalize a.eval x=ax at hrep
     cases hrep with
     | skE _ _ _ _ ad hk=>
      refine ⟨[],UO sz ad, ?_,by simp⟩
      simpa using aB.nil g s.length
     | sk _ _ _ _ _ b1 off1 len1 cap1 c1 hk hh ho hc2 hcc=>
      rw [p1] at hh
      cases hh
      have hnl:(((((cur.toList.drop off).take cs0.length).drop o).take (m * sz))).length=m * sz:=by
       have:=p10.1
       simp only [List.length_take,List.length_drop] at this ⊢
       omega
      refine ⟨((((cur.toList.drop off).take cs0.length).drop o).take (m * sz)),Hu hnl ?_ ((p11.drop o).take _),(p10.drop o).take _,by simp;omega⟩
      have:=(((((jA p8).drop off).take cs0.length).drop o).take (m * sz))
      simpa using this
    ·cases he
   ·cases he
  ·cases he
theorem VU {el sz:Nat} {x y:IX} (h:Sim P glob g s B w (Act.tm a) env) (hc:au P o.op (.appv el sz x y)=true) (hr:aop glob call cx env s (.appv el sz x y)=.ok e env' s'):Good P glob g s B w a (execOp a.eval o) e env' s':=by
 simp only [au] at hc
 split at hc
 ·rename_i c hop
  split at hc
  ·rename_i ts x' y' hcal hargs
   split at hc
   ·rename_i t t' htys
    simp only [Bool.and_eq_true,beq_iff_eq] at hc
    obtain ⟨⟨⟨⟨rfl,hx⟩,hy⟩,hsl⟩,hinf⟩:=hc
    obtain ⟨hu,hsz⟩:=fV hsl
    obtain ⟨i,hi,hisz⟩:=gm hsz
    rw [hi] at hinf
    simp only [Option.any_some,Bool.and_eq_true,decide_eq_true_eq] at hinf
    obtain ⟨hby,hzz⟩:=hinf
    cases hz:i.zero with
    | none=>simp [hz] at hzz
    | some z=>
    simp [hz] at hzz
    simp only [aop] at hr
    split at hr
    ·rename_i cs hys hxv
     cases hr
     obtain ⟨news,q1,q2,hfl⟩:=IV hy h hys
     obtain ⟨ad,hx0⟩:∃ad,a.eval x'=.slice (some ad) 0 0:=by
      have:=fE (a:=a) hx h.env h.base.glob hxv
      generalize a.eval x'=ax at this
      cases this;exact ⟨_,rfl⟩
     refine ⟨.slice (some ad) 0 0,w,g,.inl ?_,.refl _ _ _ _,h,.v (.se ad)⟩
     exact dI hop hcal hargs htys (by rw [hx0];exact rO hu hi hisz (Nat.le_refl _) q1)
    ·rename_i m0 cs hys hxv
     split at hr
     ·rename_i hcond
      obtain ⟨hpos,hmax⟩:=hcond
      cases hr
      obtain ⟨m,hm⟩:∃m,m=m0+1:=⟨_,rfl⟩
      rw [←hm] at hmax ⊢
      replace hys:EI glob env s sz y=some (m,cs):=by rw [hm];exact hys
      have hlen:0<m:=by omega
      obtain ⟨news,q1,q2,hfl⟩:=IV hy h hys
      obtain ⟨ad,hx0⟩:∃ad,a.eval x'=.slice (some ad) 0 0:=by
       have:=fE (a:=a) hx h.env h.base.glob hxv
       generalize a.eval x'=ax at this
       cases this;exact ⟨_,rfl⟩
      obtain ⟨b',off',c',cur',w',e1,e2,e3,e4,e5,e6,e7,e8,e9,e10,e11,e12⟩:=Ko (ty:=o.type) (ad:=ad) hu hu (.inl ⟨_,rfl⟩) hi hz hisz hzz hlen q1 (by omega) hby
      have hrun:(execOp a.eval o).run P w=.ok (.value _) w':=dI hop hcal hargs htys (by rw [hx0];exact e1)
      obtain ⟨st,sm,hle⟩:=JY (t:=el) (sz:=sz) (len:=m) (cap:=c') (off:=off') h ⟨e9,fun k hk=>e8 k hk (by omega),e10,e11,fun _=>e12⟩ e7 e2 hfl e3 e4 hpos e5 (by rw [hfl,e6];exact q2) (by rw [hfl,e6];exact q1.one)
      refine ⟨_,w',_,.inl hrun,st,sm,.v ?_⟩
      simpa using Rep.sk (g:=g.bufAt s.length b' (.slice (some ⟨b',off',none⟩) m c')) (n:=(s++[eH.buf el sz 0 cs]).length) s.length 0 sz 0 m b' off' m c' c' (by simp) (by simp [af.bufAt]) (by omega) e3 (by omega)
     ·cases hr
    ·cases hr
   ·cases hc
  ·cases hc
 ·cases hc
theorem CX {zs:Array Value} {sz:Nat} (hz:zs.size=sz) (hpos:0<sz) (n:Nat):(madeCells zs (n * sz)).toList=(List.replicate n zs.toList).flatten:=by
 apply List.ext_getElem?
 intro j
 have key:∀n j,(List.replicate n zs.toList).flatten[j]?=if j<n * sz then zs[j % sz]? else none:=by
  intro n
  induction n with
  | zero=>intro j;simp
  | succ n ih=>
   intro j
   rw [List.replicate_succ,List.flatten_cons,List.getElem?_append]
   simp only [Array.length_toList,hz]
   by_cases hj:j<sz
   ·rw [if_pos hj,if_pos (by rw [Nat.succ_mul];omega),Nat.mod_eq_of_lt hj];simp
   ·rw [if_neg hj,ih,Nat.succ_mul]
    by_cases h2:j - sz<n * sz
    ·rw [if_pos h2,if_pos (by omega),Nat.mod_eq_sub_mod (a:=j) (b:=sz) (by omega)]
    ·rw [if_neg h2,if_neg (by omega)]
 rw [key]
 by_cases hj:j<n * sz
 ·rw [if_pos hj]
  have hm:j % sz<zs.size:=by rw [hz];exact Nat.mod_lt _ hpos
  simp [madeCells,hj,hz,hm]
  rw [Array.getElem?_eq_getElem hm]
  simp [hm,getElem!_pos]
 ·rw [if_neg hj];simp [madeCells];omega
theorem rP {vs:List Value} {as:List AV} {N:Nat} (h:aB g N vs as):∀n,aB g N (List.replicate n vs).flatten (List.replicate n as).flatten
 | 0=>.nil _ _
 | n+1=>by rw [List.replicate_succ,List.replicate_succ,List.flatten_cons,List.flatten_cons];exact h.append (rP h n)
theorem Xl {el sz:Nat} {zs:List AV} {x:IX} (h:Sim P glob g s B w (Act.tm a) env) (hc:au P o.op (.mks el sz zs x)=true) (hr:aop glob call cx env s (.mks el sz zs x)=.ok e env' s'):Good P glob g s B w a (execOp a.eval o) e env' s':=by
 simp only [au] at hc
 split at hc
 case h_2=>cases hc
 rename_i t l c hop
 simp only [Bool.and_eq_true] at hc
 obtain ⟨⟨⟨⟨hxc,hx⟩,hsl⟩,hzi⟩,hby⟩:=hc
 obtain ⟨hu,hsz⟩:=fV hsl
 obtain ⟨i,z,hi,hz,hok⟩:=kM hzi
 obtain ⟨i',hi',hisz⟩:=gm hsz
 rw [hi] at hi' hby
 cases hi'
 simp only [Option.any_some,decide_eq_true_eq] at hby
 obtain ⟨z1,z2⟩:=jy hok g s.length
 simp only [aop] at hr
 split at hr
 case h_2=>cases hr
 rename_i kk n hn
 split at hr
 case isFalse=>cases hr
 rename_i hcond
 obtain ⟨hpos,hzl,h0,hmax⟩:=hcond
 cases hr
 have hiv:=fO (ai (a:=a) hx h.env h.base.glob hn)
 have hivc:=fO (ai (a:=a) hxc h.env h.base.glob hn)
 have hzsz:z.cells.size=sz:=by have:=z1.1;simp at this;omega
 obtain ⟨k,rfl⟩:=Int.eq_ofNat_of_zero_le h0
 simp only [Int.toNat_natCast] at hmax ⊢
 have hb1:(i.bytes:Int) * (k:Int)≤281474976710656:=by
  have:i.bytes * k≤65536 * 16777216:=Nat.mul_le_mul hby hmax
  have h2:((i.bytes * k:Nat):Int)≤281474976710656:=by omega
  rwa [Int.natCast_mul] at h2
 have hrun:=run_make (P:=P) w t el i z hu hi hz kk kk (k:Int) (k:Int) h0 (Int.le_refl _) hb1 (by omega)
 simp only [Int.toNat_natCast,hisz] at hrun
 have hflat:=CX hzsz hpos k
 have hml:(madeCells z.cells (k * sz)).size=k * sz:=size_madeCells _ _
 have hfl:(List.replicate k zs).flatten.length=k * sz:=by simp [hzl]
 have hrr:=rP z1 k
 obtain ⟨st,sm,hle⟩:=JY (t:=el) (sz:=sz) (len:=k) (cap:=k) (off:=0) h (Grew.alloc (qt:=True) w (.cells (madeCells z.cells (k * sz)) el)) (Nat.le_refl _) (heap_alloc_new w _) hfl (Nat.le_refl _) (by simp only [maxLen];omega) hpos (by omega)
  (by rw [hfl,List.drop_zero,List.take_of_length_le (by simp [hml]),hflat];exact hrr) (by
   rw [hfl,List.drop_zero,List.take_of_length_le (by simp [hml]),hflat]
   intro v hv
   simp only [List.mem_flatten,List.mem_replicate] at hv
   obtain ⟨l',⟨_,rfl⟩,hv⟩:=hv
   exact z2 v hv)
 refine ⟨.slice (some ⟨w.heap.size,0,none⟩) k k,_,_,.inl ?_,st,sm,.v ?_⟩
 ·simp only [execOp,hop]
  refine ay ?_
  rw [hiv,hivc];exact hrun
 ·simpa using Rep.sk (g:=g.bufAt s.length w.heap.size (.slice (some ⟨w.heap.size,0,none⟩) k k)) (n:=(s++[eH.buf el sz 0 (List.replicate k zs).flatten]).length) s.length 0 sz 0 k w.heap.size 0 k k k (by simp) (by simp [af.bufAt]) (by omega) (Nat.le_refl _) (by omega)
theorem Wy {t t' ty el:TypeId} {i:TypeInfo} {z:Value} {sz m:Nat} (ht:P.underlying t=some (.slice el)) (ht':P.underlying t'=some (.int .i64))
  (hi:P.info? el=some i) (hz:i.zero=some z) (hsz:i.size=sz) (hzs:z.cells.size=sz) (hpos:0<m) (hps:0<sz) (hmax:m≤16777216) (hby:i.bytes≤65536):
  (Builtin.append_ #[t,t'] ty #[.slice none 0 0,.int .i64 (m:Int)]).run P w=.ok (.slice (some ⟨w.heap.size,0,none⟩) m (grownCap w m 0 el)) (w.drew.alloc (.cells (Builtin.zeroCells z.cells m++Builtin.zeroCells z.cells (grownCap w m 0 el - m)) el)):=by
 subst hsz
 have h48:¬(281474976710656<Builtin.nextslicecap m 0 * i.bytes):=by
  have h1:=nextslicecap_le (show 0<m by omega)
  have h2:Builtin.nextslicecap m 0 * i.bytes≤33554432 * 65536:=Nat.mul_le_mul (by omega) hby
  omega
 have h63:¬(9223372036854775807<(m:Int)):=by omega
 have hm:m≠0:=by omega
 have hw:IntKind.i64.wrap (m:Int)=(m:Int):=by rw [IntKind.wrap_i64];omega
 have hb:¬(281474976710656<(m:Int) * (i.bytes:Int)):=by
  have h2:m * i.bytes≤16777216 * 65536:=Nat.mul_le_mul hmax hby
  have h3:((m * i.bytes:Nat):Int)≤281474976710656:=by omega
  rw [Int.natCast_mul] at h3;omega
 have hms:¬(m * i.size=0):=by
  intro h;rcases Nat.mul_eq_zero.1 h with h|h<;>omega
 have hneg:¬((m:Int)<0):=by omega
 have hfo:(Builtin.firstCells i.size 0 (.slice none 0 0)).run P w.drew=.ok #[] w.drew:=by simp [Builtin.firstCells]
 simp [Builtin.append_,run_underlying ht,run_underlying ht',sizeOf,typeInfo,zeroValue,hi,hz,hm,h63,h48,Question.forced,hfo,newRow,grownCap,asInt,asIntOf,hw,hb,hms,hneg]
theorem VT {el sz:Nat} {zs:List AV} {x y:IX} (h:Sim P glob g s B w (Act.tm a) env) (hc:au P o.op (.appz el sz zs x y)=true) (hr:aop glob call cx env s (.appz el sz zs x y)=.ok e env' s'):Good P glob g s B w a (execOp a.eval o) e env' s':=by
 simp only [au] at hc
 split at hc
 case h_2=>cases hc
 rename_i c hop
 split at hc
 case h_2=>cases hc
 rename_i ts x' y' hcal hargs
 split at hc
 case h_2=>cases hc
 rename_i t t' htys
 simp only [Bool.and_eq_true] at hc
 obtain ⟨⟨⟨⟨⟨hint,hx⟩,hy⟩,hsl⟩,hzi⟩,hby⟩:=hc
 obtain ⟨hu,hsz⟩:=fV hsl
 obtain ⟨i,z,hi,hz,hok⟩:=kM hzi
 obtain ⟨i',hi',hisz⟩:=gm hsz
 rw [hi] at hi' hby
 cases hi'
 simp only [Option.any_some,decide_eq_true_eq] at hby
 obtain ⟨z1,z2⟩:=jy hok g s.length
 simp only [aop] at hr
 split at hr
 case h_2=>cases hr
 rename_i n hxv hn
 split at hr
 case isFalse=>cases hr
 rename_i hcond
 obtain ⟨hpos,hzl,h0,hmax⟩:=hcond
 cases hr
 have hiv:=fO (ai (a:=a) hy h.env h.base.glob hn)
 have hzsz:z.cells.size=sz:=by have:=z1.1;simp at this;omega
 obtain ⟨k,rfl⟩:=Int.eq_ofNat_of_zero_le (show 0≤n by omega)
 simp only [Int.toNat_natCast] at hmax ⊢
 have hx0:a.eval x'=.slice none 0 0:=by
  have:=fE (a:=a) hx h.env h.base.glob hxv
  generalize a.eval x'=ax at this
  cases this;rfl
 have hut:P.underlying t'=some (.int .i64):=by
  unfold isInt at hint
  split at hint
  ·rename_i k' hk;rw [hk];simp at hint;rw [hint]
  ·cases hint
 have hkp:0<k:=by omega
 have hrun:=Wy (w:=w) (ty:=o.type) hu hut hi hz hisz hzsz hkp hpos hmax hby
 have hge:=grownCap_ge w k 0 el
 have hml:(Builtin.zeroCells z.cells k).size=k * sz:=by rw [size_zeroCells,hzsz]
 have hflat:(Builtin.zeroCells z.cells k).toList=(List.replicate k z.cells.toList).flatten:=by
  have:=CX hzsz hpos k
  rw [←this]
  apply List.ext_getElem?
  intro j
  simp [madeCells,Builtin.zeroCells,hzsz]
 have hfl:(List.replicate k zs).flatten.length=k * sz:=by simp [hzl]
 have hrr:=rP z1 k
 have htk:((Builtin.zeroCells z.cells k++Builtin.zeroCells z.cells (grownCap w k 0 el - k)).toList.drop 0).take (k * sz)=(List.replicate k z.cells.toList).flatten:=by
  rw [List.drop_zero,Array.toList_append,List.take_left' (by rw [Array.length_toList,hml]),hflat]
 obtain ⟨st,sm,hle⟩:=JY (t:=el) (sz:=sz) (len:=k) (cap:=grownCap w k 0 el) (off:=0) h ⟨show w.heap.size≤(w.heap.push _).size by simp,fun b hb=>heap_alloc_old w.drew _ b hb,rfl,rfl,fun _=>⟨rfl,Nat.le_succ _⟩⟩ (Nat.le_refl _) (heap_alloc_new w.drew (.cells (Builtin.zeroCells z.cells k++Builtin.zeroCells z.cells (grownCap w k 0 el - k)) el)) hfl hge (grownCap_le_maxLen w _ _ _ (by simp only [maxLen];omega)) hpos (by
   rw [Nat.zero_add,Array.size_append,hml,size_zeroCells,hzsz,←Nat.add_mul]
   refine Nat.le_of_eq ?_
   congr 1;omega)
  (by rw [hfl,htk];exact hrr) (by
   rw [hfl,htk]
   intro v hv
   simp only [List.mem_flatten,List.mem_replicate] at hv
   obtain ⟨l',⟨_,rfl⟩,hv⟩:=hv
   exact z2 v hv)
 refine ⟨.slice (some ⟨w.heap.size,0,none⟩) k (grownCap w k 0 el),_,_,.inl ?_,st,sm,.v ?_⟩
 ·exact dI hop hcal hargs htys (by rw [hx0,hiv];exact hrun)
 ·simpa using Rep.sk (g:=g.bufAt s.length w.heap.size (.slice (some ⟨w.heap.size,0,none⟩) k (grownCap w k 0 el))) (n:=(s++[eH.buf el sz 0 (List.replicate k zs).flatten]).length) s.length 0 sz 0 k w.heap.size 0 k (grownCap w k 0 el) (grownCap w k 0 el) (by simp) (by simp [af.bufAt]) (by omega) hge (by omega)
theorem VS {x:IX} (h:Sim P glob g s B w (Act.tm a) env) (hc:au P o.op (.capn x)=true) (hr:aop glob call cx env s (.capn x)=.ok e env' s'):Good P glob g s B w a (execOp a.eval o) e env' s':=by
 simp only [au] at hc
 split at hc
 case h_2=>cases hc
 rename_i c hop
 split at hc
 case h_2=>cases hc
 rename_i x' t hcal hargs htys
 simp only [Bool.and_eq_true] at hc
 obtain ⟨hx,hsl⟩:=hc
 obtain ⟨el,hu⟩:∃el,P.underlying t=some (.slice el):=by
  split at hsl
  ·rename_i el hu;exact ⟨el,hu⟩
  ·cases hsl
 simp only [aop] at hr
 split at hr
 case h_2=>cases hr
 rename_i hxv
 cases hr
 have hx0:a.eval x'=.slice none 0 0:=by
  have:=fE (a:=a) hx h.env h.base.glob hxv
  generalize a.eval x'=ax at this
  cases this;rfl
 rw [oz (a:=a) hop hcal]
 have ha:c.args.map a.eval=#[a.eval x']:=by apply Array.toList_inj.1;simp [hargs]
 have ht:c.argTypes=#[t]:=by apply Array.toList_inj.1;simp [htys]
 rw [ha,ht,hx0]
 refine .val h ?_ (.i _ _)
 refine ay ?_
 simp [builtin,Builtin.cap_,run_underlying hu,goInt]
theorem VW {el sz:Nat} {x y:IX} (h:Sim P glob g s B w (Act.tm a) env) (hc:au P o.op (.appe el sz x y)=true) (hr:aop glob call cx env s (.appe el sz x y)=.ok e env' s'):Good P glob g s B w a (execOp a.eval o) e env' s':=by
 cases hy:elems glob env y with
 | none=>exact La (call:=call) (cx:=cx) h hc (by rw [←hr];simp only [aop,hy])
 | some ys=>
  cases ys with
  | cons y0 ys=>exact La (call:=call) (cx:=cx) h hc (by rw [←hr];simp only [aop,hy])
  | nil=>
   simp only [aop,hy] at hr
   have hc':=hc
   simp only [au] at hc
   split at hc
   case h_2=>cases hc
   rename_i c hop
   split at hc
   case h_2=>cases hc
   rename_i ts x' y' hcal hargs
   split at hc
   case h_2=>cases hc
   rename_i t t' htys
   simp only [Bool.and_eq_true,beq_iff_eq] at hc
   obtain ⟨⟨⟨⟨rfl,hx⟩,hyy⟩,hsl⟩,hinf⟩:=hc
   obtain ⟨hu,hsz⟩:=fV hsl
   obtain ⟨i,hi,hisz⟩:=gm hsz
   have hnone:∀z∈([]:List AV),z.cells.length=sz:=fun z hm=>absurd hm List.not_mem_nil
   have hsrc:=ku hyy h hy hnone
   obtain ⟨news,q1,q2⟩:=hsrc
   split at hr
   ·rename_i hxv
    simp only [RO.ok.injEq] at hr
    obtain ⟨rfl,rfl,rfl⟩:=hr
    have hx0:a.eval x'=.slice none 0 0:=by
     have:=fE (a:=a) hx h.env h.base.glob hxv
     generalize a.eval x'=ax at this
     cases this;rfl
    refine ⟨.slice none 0 0,w,g,.inl ?_,.refl _ _ _ _,h,.v .ns⟩
    exact dI hop hcal hargs htys (by rw [hx0];exact rO hu hi hisz (Nat.le_refl _) q1)
   ·rename_i l ver sz2 o2 m hxv
    simp only [RO.ok.injEq] at hr
    obtain ⟨rfl,rfl,rfl⟩:=hr
    have hrep:=fE (a:=a) hx h.env h.base.glob hxv
    refine ⟨a.eval x',w,g,.inl ?_,.refl _ _ _ _,h,.v hrep⟩
    refine dI hop hcal hargs htys ?_
    generalize a.eval x'=ax at hrep
    cases hrep with
    | skE=>exact rO hu hi hisz (Nat.le_refl _) q1
    | sk=>exact rO hu hi hisz (by assumption) q1
   ·cases hr
theorem OG {α:Type} (L F:List α) (a o n:Nat) (h1:o+F.length≤n) (h2:a+n≤L.length):
  ((L.take (a+o)++F++L.drop (a+o+F.length)).drop a).take n=((L.drop a).take n).take o++F++((L.drop a).take n).drop (o+F.length):=by
 apply List.ext_getElem?
 intro i
 simp only [List.getElem?_take,List.getElem?_drop,List.getElem?_append,List.length_append,List.length_take,List.length_drop]
 have e1:min (a+o) L.length=a+o:=by omega
 have e2:min o (min n (L.length - a))=o:=by omega
 rw [e1,e2]
 (repeat' split)<;>first|rfl|omega | (congr 1;omega)
theorem Wh {tm:Nat→Value} (h:Sim P glob g s B w tm env) {l o ty sz ver:Nat} {cs:List AV} (hl:s[l]?=some (.buf ty sz ver cs))
  {b off len cap:Nat} (hh:g.hist l ver=some (.slice (some ⟨b,off,none⟩) len cap)) {us:List Value} {vs:List AV} (r1:aB g s.length us vs) (r2:bH us) (hfit:o+vs.length≤cs.length):
  ∃w',(storeCells ⟨b,off+o,none⟩ us 0).run P w=.ok () w'∧Step True g s.length B w g s.length w'∧Sim P glob g (s.set l (.buf ty sz ver (splice cs o vs))) B w' tm env:=by
 have hlt:l<s.length:=(List.getElem?_eq_some_iff.1 hl).1
 obtain ⟨b',off',len',cap',cur,q1,q2,q3,q4,q5,q6,q7,q8,q9,q10,q11⟩:=h.base.heap.obj l _ hl
 rw [hh] at q1
 cases q1
 have hul:us.length=vs.length:=r1.1
 have hlc:cs.length≤cap * sz:=by rw [q4];exact Nat.mul_le_mul_right sz q5
 have hbl:g.bl l b:=.inr ⟨ver,_,hh,rfl⟩
 have hst:=run_storeCells_at P b (off+o) ty us 0 cur w q8 (by omega) r2
 refine ⟨_,hst,⟨.refl _ _,by simp,fun c hc hcl=>aG _ (fun hcb=>hcl (by subst hcb;exact ⟨l,hlt,hbl⟩)),fun _ _ _=>rfl,fun _ _=>rfl,fun b hb=>.inl hb,rfl,rfl,fun _=>⟨rfl,Nat.le_refl _⟩⟩,⟨⟨?_, ?_,h.base.glob⟩, ?_,by simpa using h.B⟩⟩
 ·refine ⟨fun c o' v' hv'=>?_,fun c es hc=>?_⟩
  ·have hcb:c≠b:=fun hcb=>by subst hcb;rw [q3.m o'] at hv';cases hv'
   rw [World.cell?_of_block (aG _ hcb)];exact h.base.imm.m c o' v' hv'
  ·have hcb:c≠b:=fun hcb=>by subst hcb;rw [q3.mm] at hc;cases hc
   exact (h.base.imm.mm c es hc).keep (aG _ hcb)
 ·refine h.base.heap.setAt hlt (.refl _ _) (fun _ _ _=>rfl) (fun b hb=>.inl hb) (fun b hb=>by simpa using h.base.heap.lt l b hlt hb) (by simp) (fun c _ hc=>⟨aG _ (fun hcb=>hc (by subst hcb;exact hbl)),rfl,rfl⟩) ?_
  have hsl:(splice cs o vs).length=cs.length:=by simp [splice];omega
  have hpart:=OG cur.toList us off o cs.length (by omega) (by simp;omega)
  refine ⟨b,off,len,cap,_,hh,q2,q3,by omega,q5,q6,q7,dR q8,by simp;omega, ?_, ?_⟩
  ·rw [hsl];simp only [List.toList_toArray,Nat.add_zero];rw [hpart];exact qO q10 r1 o
  ·rw [hsl];simp only [List.toList_toArray,Nat.add_zero];rw [hpart];exact lM q11 r2 o _
 ·simp only [List.length_set]
  refine h.env.next (.refl _ _) (fun k e hk ho c hc=>⟨aG _ (fun hcb=>?_),rfl,rfl,fun ht=>ht⟩)
  exact h.env.off k e hk ho c hc (by subst hcb;exact ⟨l,hlt,hbl⟩)
theorem VR {zs:List AV} {x:IX} (h:Sim P glob g s B w (Act.tm a) env) (hc:au P o.op (.clrk zs x)=true) (hr:aop glob call cx env s (.clrk zs x)=.ok e env' s'):Good P glob g s B w a (execOp a.eval o) e env' s':=by
 simp only [au] at hc
 split at hc
 case h_2=>cases hc
 rename_i c hop
 split at hc
 case h_2=>cases hc
 rename_i x' t hcal hargs htys
 simp only [Bool.and_eq_true] at hc
 obtain ⟨hx,hz⟩:=hc
 split at hz
 case h_2=>cases hz
 rename_i el hu
 obtain ⟨i,z,hi,hzz,hok⟩:=kM hz
 obtain ⟨z1,z2⟩:=jy hok g s.length
 have ha:c.args.map a.eval=#[a.eval x']:=by apply Array.toList_inj.1;simp [hargs]
 have ht:c.argTypes=#[t]:=by apply Array.toList_inj.1;simp [htys]
 have hex:=oz (a:=a) hop hcal
 rw [ha,ht] at hex
 simp only [aop] at hr
 split at hr
 case h_2=>cases hr
 rename_i l ver sz o' m hxv
 have hrep:=ai (a:=a) hx h.env h.base.glob hxv
 have htu:Rep g s.length (.tuple #[]) (.tu []):=.tu #[] [] rfl (fun i hi=>by simp at hi)
 split at hr
 ·cases hr
  refine .val h ?_ htu
  rw [hex]
  refine ay ?_
  generalize a.eval x'=ax at hrep
  cases hrep with
  | sk _ _ _ _ _ b off len cap c hl hh ho hc hcc=>simp [builtin,Builtin.clear_,run_underlying hu]
  | skE _ _ _ _ ad hl=>simp [builtin,Builtin.clear_,run_underlying hu]
 ·rename_i n ty sz' ver' cs hl
  split at hr
  case isFalse=>cases hr
  rename_i hcond
  obtain ⟨rfl,rfl,hpos,hzl,hfit,_,_⟩:=hcond
  cases hr
  have hzsz:z.cells.size=sz:=by have:=z1.1;simp at this;omega
  have hflat:(Builtin.zeroCells z.cells (n+1)).toList=(List.replicate (n+1) z.cells.toList).flatten:=by
   have:=CX hzsz hpos (n+1)
   rw [←this]
   simp [Builtin.zeroCells,madeCells,hzsz]
  generalize hax:a.eval x'=ax at hrep
  cases hrep with
  | sk _ _ _ _ _ b off len cap c hl2 hh ho hc hcc=>
   obtain ⟨w',q1,q2,q3⟩:=Wh (us:=(List.replicate (n+1) z.cells.toList).flatten) h hl hh (rP z1 (n+1)) (by
    intro v hv
    simp only [List.mem_flatten,List.mem_replicate] at hv
    obtain ⟨l',⟨_,rfl⟩,hv⟩:=hv
    exact z2 v hv) (by simp only [List.length_flatten,List.map_replicate,List.sum_replicate_nat,hzl];omega)
   refine ⟨.tuple #[],w',g,.inl ?_,by simpa using q2,q3,.v (by simpa using htu)⟩
   rw [hex]
   refine ay ?_
   rw [hax]
   simp [builtin,Builtin.clear_,run_underlying hu,zeroValue,typeInfo,hi,hzz,hflat,q1]
 ·cases hr
end Go.Ai
namespace Go.Ai
variable {P:Program} {glob:Nat→Option (List AV)} {g:af} {s:St} {B:Nat} {w:World} {env:Env} {a:Act} {call:AV→List AV→St→Ctx→CO} {cx:Ctx} {o:Oper} {e:EV} {env':Env} {s':St}
theorem VL (h:Sim P glob g s B w (Act.tm a) env) (hc:au P o.op .hmap=true) (hr:aop glob call cx env s .hmap=.ok e env' s'):Good P glob g s B w a (execOp a.eval o) e env' s':=by
 simp only [au] at hc
 split at hc
 case h_2=>cases hc
 rename_i t hop
 simp only [aop] at hr
 cases hr
 have hg:=Grew.alloc (qt:=True) w (.map #[] 0)
 have hle:g.le s.length (g.place s.length w.heap.size) (s.length+1):=⟨fun _ _ _ h=>h,fun _ _ h=>h,fun l hl=>by simp [af.place];omega,fun l hl k v hk=>by simp [af.place];rw [if_neg (by omega)];exact hk,by omega⟩
 have hLn:(g.place s.length w.heap.size).L s.length=w.heap.size:=by simp [af.place]
 have hfr:=h.base.imm.fresh (Nat.le_refl w.heap.size)
 have hnc:fP (g.place s.length w.heap.size) ((g.place s.length w.heap.size).L s.length):=by rw [hLn];exact ⟨hfr.m,hfr.mm⟩
 have hp:=h.push (ob:=eH.map []) hg hle (fun l hl=>by simp [af.place];omega) (fun _ _=>⟨rfl,rfl⟩) (fun b hb=>by
   rcases hb with hb|⟨k,v,hk,_⟩
   ·rw [hLn] at hb;subst hb;simp
   ·simp [af.place] at hk) ⟨(h.base.imm.grew hg).m,(h.base.imm.grew hg).mm⟩ ⟨hnc,#[],0,by rw [hLn];exact heap_alloc_new w _,.nil _ _,.nil _ _,.nil⟩
 refine ⟨.map (some w.heap.size),_,_,.inl ?_,hp.1,hp.2,.v ?_⟩
 ·simp only [execOp,hop]
  exact ay (by simp [Instr.makeMap,Sem.run_bind])
 ·have:=Rep.mp (g:=g.place s.length w.heap.size) (n:=(s++[eH.map []]).length) s.length (by simp)
  rwa [hLn] at this
theorem OE {kk:Nat} {k v:AV} {N:Nat} {u x:Value} (hu:Rep g N u k) (hx:Rep g N x v) {F:Nat→List MapEntry→Option (Nat×Value)→Prop} {E:Value→Bool→Prop}
  (hE:∀y k' r,Rep g N y k'→oK kk k k'=some r→E y r) (h0:∀i,F i [] none) (ht:∀i e es,E e.key true→F i (e::es) (some (i,e.val))) (hf:∀i e es r,E e.key false→F (i+1) es r→F i (e::es) r):
  ∀(es:List (AV×AV)) (ents:List MapEntry) (i:Nat) {es':List (AV×AV)},Eo kk k v es=some es'→
  aB g N (ents.map (·.key)) (es.map (·.1))→aB g N (ents.map (·.val)) (es.map (·.2))→
  (F i ents none∧es'=es++[(k,v)])∨(∃j z,j<ents.length∧F i ents (some (i+j,z))∧(∃y k',(ents[j]?).map (·.key)=some y∧Rep g N y k'∧oK kk k k'=some true)∧
   aB g N ((ents.modify j fun e=>{ e with key:=u,val:=x }).map (·.key)) (es'.map (·.1))∧aB g N ((ents.modify j fun e=>{ e with key:=u,val:=x }).map (·.val)) (es'.map (·.2))):=by
 intro es
 induction es with
 | nil=>
  intro ents i es' h hk hv
  cases ents with
  | nil=>simp [Eo] at h;subst h;exact .inl ⟨h0 i,rfl⟩
  | cons e es=>exact absurd hk.1 (by simp)
 | cons p es ih=>
  intro ents i es' h hk hv
  obtain ⟨k',v'⟩:=p
  cases ents with
  | nil=>exact absurd hk.1 (by simp)
  | cons e ents=>
   simp only [List.map_cons] at hk hv
   simp only [Eo] at h
   split at h
   ·rename_i hq
    cases h
    have hs:=hE _ _ _ hk.head hq
    refine .inr ⟨0,e.val,by simp,by simpa using ht i e ents hs,⟨e.key,k',by simp,hk.head,hq⟩, ?_, ?_⟩
    ·simpa using aB.cons hu hk.tail
    ·simpa using aB.cons hx hv.tail
   ·rename_i hq
    have hs:=hE _ _ _ hk.head hq
    cases hm:Eo kk k v es with
    | none=>rw [hm] at h;cases h
    | some r'=>
     rw [hm] at h
     simp at h
     subst h
     rcases ih ents (i+1) hm hk.tail hv.tail with ⟨h1,h2⟩|⟨j,z,hj,h1,h2,h3,h4⟩
     ·exact .inl ⟨hf i e ents _ hs h1,by rw [h2];rfl⟩
     ·refine .inr ⟨j+1,z,by simpa using hj, ?_,by simpa using h2, ?_, ?_⟩
      ·have:=hf i e ents _ hs h1
       rwa [show i+1+j=i+(j+1) by omega] at this
      ·simpa using aB.cons hk.head h3
      ·simpa using aB.cons hv.head h4
   ·cases h
theorem GV {kk:Nat} {kt:TypeId} (hk:EW P kk kt=true) {k v:AV} {N:Nat} {u x:Value} (hu:Rep g N u k) (hx:Rep g N x v) {es es':List (AV×AV)} {ents:List MapEntry} (h:Eo kk k v es=some es')
  (h1:aB g N (ents.map (·.key)) (es.map (·.1))) (h2:aB g N (ents.map (·.val)) (es.map (·.2))):
  ((Instr.findKey kt u ents).run P w=.ok none w∧es'=es++[(k,v)])∨(∃j z,j<ents.length∧(Instr.findKey kt u ents).run P w=.ok (some (j,z)) w∧(∃y k',(ents[j]?).map (·.key)=some y∧Rep g N y k'∧oK kk k k'=some true)∧
    aB g N ((ents.modify j fun e=>{ e with key:=u,val:=x }).map (·.key)) (es'.map (·.1))∧aB g N ((ents.modify j fun e=>{ e with key:=u,val:=x }).map (·.val)) (es'.map (·.2))):=by
 rcases qU hk with ⟨d,hd,hkd⟩|⟨n,fs,rfl,hut,hF,hp⟩
 ·rcases OE (F:=fun i es r=>Instr.findNow d u es i=some r) (E:=fun y r=>Instr.sameNow d u y=some r) hu hx (fun y k' r hy hq=>vN hkd hq hu hy) (fun i=>rfl)
   (fun i e es he=>by simp [Instr.findNow,he]) (fun i e es r he hr=>by simp [Instr.findNow,he,hr]) es ents 0 h h1 h2 with ⟨a1,a2⟩|⟨j,z,a1,a2,a3⟩
  ·exact .inl ⟨by simp [Instr.findKey,run_underlying hd,a1],a2⟩
  ·exact .inr ⟨j,z,a1,by simp [Instr.findKey,run_underlying hd,a2],a3⟩
 ·rw [pY hut]
  rcases OE (F:=fun i es r=>(Instr.findAsking kt u es i).run P w=.ok r w) (E:=fun y r=>(Op.equal kt u y).run P w=.ok r w) hu hx (fun y k' r hy hq=>rW hut hF hp hq hu hy) (fun i=>rfl)
   (fun i e es he=>by simp [Instr.findAsking,Sem.run_bind,he]) (fun i e es r he hr=>by simp [Instr.findAsking,Sem.run_bind,he,hr]) es ents 0 h h1 h2 with ⟨a1,a2⟩|⟨j,z,a1,a2,a3⟩
  ·exact .inl ⟨a1,a2⟩
  ·exact .inr ⟨j,z,a1,by simpa using a2,a3⟩
theorem zB {ents:Array MapEntry} {j:Nat} {f:MapEntry→MapEntry}:(ents.modify j f).toList=ents.toList.modify j f:=by simp
theorem bytes_beq (p q:List UInt8):((⟨p.toArray⟩:ByteArray) == ⟨q.toArray⟩)=(p == q):=by
 rw [Bool.eq_iff_iff]
 change (p.toArray == q.toArray)=true ↔ (p == q)=true
 simp
theorem Pq (n:Nat) (p:ByteArray):Instr.sameBits n (.string p) (.string p)=true:=by
 obtain ⟨⟨p⟩⟩:=p
 cases n<;>simp [Instr.sameBits,bytes_beq p p]
theorem Qp {N n:Nat}:∀(xs ys:List AV) (us vs:List Value),fB xs ys=some true→aB g N us xs→aB g N vs ys→(vs.zip us).all (fun (x,y)=>Instr.sameBits n x y)=true
 | [],[],us,vs,_,h1,h2=>by
  have:us=[]:=List.eq_nil_of_length_eq_zero h1.1
  subst this;simp
 | [],_::_,_,_,h,_,_=>by simp [fB] at h
 | x::xs,[],_,_,h,_,_=>by cases x<;>simp [fB] at h
 | x::xs,y::ys,us,vs,h,h1,h2=>by
  cases x<;>(try (simp [fB] at h;done))
  cases y<;>(try (simp [fB] at h;done))
  rename_i p q
  simp only [fB] at h
  cases e1:fB xs ys with
  | none=>rw [e1] at h;cases h
  | some r'=>
  rw [e1] at h
  simp only [Option.some.injEq,Bool.and_eq_true,beq_iff_eq] at h
  obtain ⟨e2,rfl⟩:=h
  subst e2
  cases us with
  | nil=>exact absurd h1.1 (by simp)
  | cons u us=>
   cases vs with
   | nil=>exact absurd h2.1 (by simp)
   | cons v vs=>
    rw [iV h1.head,iV h2.head]
    simp only [List.zip_cons_cons,List.all_cons,Bool.and_eq_true]
    refine ⟨Pq _ _, ?_⟩
    exact Qp xs ys us vs e1 h1.tail h2.tail
theorem QD {N n:Nat}:∀(ks:List Nat) (xs ys:List AV) (us vs:List Value),nO ks xs ys=some true→aB g N us xs→aB g N vs ys→(vs.zip us).all (fun (x,y)=>Instr.sameBits n x y)=true
 | [],xs,ys,us,vs,h,h1,h2=>by
  obtain ⟨rfl,rfl,_⟩:=Dy h
  have:us=[]:=List.eq_nil_of_length_eq_zero h1.1
  subst this;simp
 | k::ks,xs,ys,us,vs,h,h1,h2=>by
  obtain ⟨x,xs',y,ys',b,r',rfl,rfl,h3,h4,hk⟩:=zS h
  have h5:b=true∧r'=true:=by simpa using h4.symm
  obtain ⟨hb,rfl⟩:=h5
  cases us with
  | nil=>exact absurd h1.1 (by simp)
  | cons u us=>
   cases vs with
   | nil=>exact absurd h2.1 (by simp)
   | cons v vs=>
    simp only [List.zip_cons_cons,List.all_cons,Bool.and_eq_true]
    refine ⟨?_,QD ks xs' ys' us vs h3 h1.tail h2.tail⟩
    have ru:=h1.head
    have rv:=h2.head
    cases hk with
    | i k p q=>rw [fO ru,fO rv];simp at hb;subst hb;cases n<;>simp [Instr.sameBits]
    | s p q=>rw [iV ru,iV rv];simp at hb;subst hb;exact Pq _ _
    | b p q=>rw [jS ru,jS rv];simp at hb;subst hb;cases n<;>simp [Instr.sameBits]
theorem EK {kk:Nat} {k k':AV} {N:Nat} {u y:Value} (hu:Rep g N u k) (hy:Rep g N y k') (h:oK kk k k'=some true):Instr.sameBits 10000 y u=true:=by
 unfold oK at h
 split at h
 ·split at h
  ·rename_i hk
   subst hk
   rw [fO hu,fO hy]
   simp at h
   simp [Instr.sameBits,h]
  ·cases h
 ·rw [iV hu,iV hy]
  simp at h
  subst h
  exact Pq _ _
 ·rw [jS hu,jS hy]
  simp at h
  simp [Instr.sameBits,h]
 ·cases hu with
   | ag us _ hl1 _ hr1=>
    cases hy with
    | ag vs _ hl2 _ hr2=>
     have q1:aB g N us.toList _:=⟨by simpa using hl1,fun i hi hi'=>by rw [Array.getElem_toList];exact hr1 i (by simpa using hi) hi'⟩
     have q2:aB g N vs.toList _:=⟨by simpa using hl2,fun i hi hi'=>by rw [Array.getElem_toList];exact hr2 i (by simpa using hi) hi'⟩
     rw [show (10000:Nat)=9999+1 from rfl]
     simp only [Instr.sameBits,Bool.and_eq_true,beq_iff_eq]
     split at h
     ·split at h
      ·have hll:=NS _ _ h
       have:=Qp (n:=9999) _ _ _ _ h q1 q2
       exact ⟨by omega,this⟩
      ·cases h
     ·have hll:=OZ _ _ _ h
      have:=QD (n:=9999) _ _ _ _ _ h q1 q2
      exact ⟨by omega,this⟩
 ·cases h
theorem Lr:∀(xs ys:List AV),fB xs ys=some true→xs=ys
 | [],[],_=>rfl
 | [],_::_,h=>by simp [fB] at h
 | x::xs,[],h=>by cases x<;>simp [fB] at h
 | x::xs,y::ys,h=>by
  cases x<;>(try (simp [fB] at h;done))
  cases y<;>(try (simp [fB] at h;done))
  simp only [fB] at h
  cases e1:fB xs ys with
  | none=>rw [e1] at h;cases h
  | some r'=>
   rw [e1] at h
   simp only [Option.some.injEq,Bool.and_eq_true,beq_iff_eq] at h
   obtain ⟨rfl,rfl⟩:=h
   rw [Lr xs ys e1]
theorem LY:∀(ks:List Nat) (xs ys:List AV),nO ks xs ys=some true→xs=ys
 | [],xs,ys,h=>by obtain ⟨rfl,rfl,_⟩:=Dy h;rfl
 | k::ks,xs,ys,h=>by
  obtain ⟨x,xs',y,ys',b,r',rfl,rfl,h3,h4,hk⟩:=zS h
  have h5:b=true∧r'=true:=by simpa using h4.symm
  obtain ⟨hb,rfl⟩:=h5
  rw [LY ks xs' ys' h3]
  cases hk with
  | i k p q=>simp at hb;subst hb;rfl
  | s p q=>simp at hb;subst hb;rfl
  | b p q=>simp at hb;subst hb;rfl
theorem Ul {kk:Nat} {k k':AV} (h:oK kk k k'=some true):k=k':=by
 unfold oK at h
 split at h
 ·split at h
  ·rename_i hk;subst hk;simp at h;rw [h]
  ·cases h
 ·simp at h;rw [h]
 ·simp at h;rw [h]
 ·split at h
  ·split at h
   ·rw [Lr _ _ h]
   ·cases h
  ·rw [LY _ _ _ h]
 ·cases h
theorem map_set (h:Sim P glob g s B w (Act.tm a) env) {l:Nat} (hll:l<s.length) (hnc:fP g (g.L l)) (hlt:g.L l<w.heap.size) (ents':Array MapEntry) (clock':Nat) {ob':eH}
  (ho:∀w':World,w'.heap[g.L l]?=some (.map ents' clock')→IQ P g s.length w' l ob'):
  Step True g s.length B w g (s.set l ob').length { w with heap:=w.heap.setIfInBounds (g.L l) (.map ents' clock') }∧Sim P glob g (s.set l ob') B { w with heap:=w.heap.setIfInBounds (g.L l) (.map ents' clock') } (Act.tm a) env:=by
 let w':World:={ w with heap:=w.heap.setIfInBounds (g.L l) (.map ents' clock') }
 have hne:∀b,b≠g.L l→w'.heap[b]?=w.heap[b]?:=fun b hb=>aT hb
 have hbase:Base P glob g (s.set l ob') w':=by
  refine ⟨⟨fun c o' v1 hv1=>?_,fun c es1 hc1=>?_⟩,h.base.heap.setAt hll (.refl _ _) (fun _ _ _=>rfl) (fun b hb=>.inl hb) (fun b hb=>by simpa [w'] using h.base.heap.lt l b hll hb) (by simp [w']) (fun b _ hb=>⟨hne b (fun hbe=>hb (.inl hbe.symm)),rfl,rfl⟩) (ho w' (ou hlt)),h.base.glob⟩
  ·have hcb:c≠g.L l:=fun hcb=>by subst hcb;rw [hnc.m o'] at hv1;cases hv1
   rw [World.cell?_of_block (hne c hcb)];exact h.base.imm.m c o' v1 hv1
  ·have hcb:c≠g.L l:=fun hcb=>by subst hcb;rw [hnc.mm] at hc1;cases hc1
   exact (h.base.imm.mm c es1 hc1).keep (hne c hcb)
 refine ⟨?_,hbase, ?_,by simp;exact h.B⟩
 ·rw [List.length_set]
  refine ⟨.refl _ _,by simp,fun b hb hbt=>hne b (fun hbe=>hbt (by rw [hbe];exact .L hll)),fun _ _ _=>rfl,fun _ _=>rfl,fun b hb=>.inl hb,rfl,rfl,fun _=>⟨rfl,Nat.le_refl _⟩⟩
 ·rw [List.length_set]
  exact h.env.next (.refl _ _) (fun k2 e2 hk2 ho2 b hb=>⟨hne b (fun hbe=>h.env.off k2 e2 hk2 ho2 b hb (by rw [hbe];exact .L hll)),rfl,rfl,fun ht=>ht⟩)
theorem Ti {kk l:Nat} {key val:AV} {m' k' v':Operand} {m k v:IX} {t kt et:TypeId} {env1:Env} {es:List (AV×AV)} (h:Sim P glob g s B w (Act.tm a) env) (hop:o.op=.insert t m' k' v'∨o.op=.mapUpdate t m' k' v')
  (hm:aS m' m=true) (hk:aS k' k=true) (hv:aS v' v=true) (hu:P.underlying t=some (.map kt et)) (hkt:EW P kk kt=true)
  (hml:rd glob env m=some (.mp l)) (hkl:rd glob env k=some key) (hvl:FH glob env v=some (val,env1)) (hsl:s[l]?=some (.mapo es))
  (hr:(match Eo kk key val es with
    | some es'=>if val.one∧qj kk key∧cx.lim≤l∧(cx.base≤l∨val.flat=true) then RO.ok (.v (.tu [])) env1 (s.set l (.mapo es')) else .fail
    | none=>.fail)=.ok e env' s'):Good P glob g s B w a (execOp a.eval o) e env' s':=by
 have hgo:(execOp a.eval o)=(do Instr.mapUpdate t (a.eval m') (a.eval k') (a.eval v');pure Next.skip):=by
  rcases hop with hop|hop<;>simp only [execOp,hop]
 split at hr
 case h_2=>cases hr
 rename_i es' hput
 split at hr
 case isFalse=>cases hr
 rename_i hcond
 cases hr
 obtain ⟨g1,st1,m1,rv⟩:=yP hv h hvl
 have rm:Rep g1 s.length (a.eval m') (.mp l):=(ai (a:=a) hm h.env h.base.glob hml).mono st1.le
 have rk:Rep g1 s.length (a.eval k') key:=(ai (a:=a) hk h.env h.base.glob hkl).mono st1.le
 have hll:l<s.length:=(List.getElem?_eq_some_iff.1 hsl).1
 obtain ⟨hnc,ents,clock,q1,q2,q3,hbo⟩:=m1.base.heap.obj l _ hsl
 have hmv:a.eval m'=.map (some (g1.L l)):=by generalize a.eval m'=q at rm;cases rm;rfl
 have hlt:g1.L l<w.heap.size:=(Array.getElem?_eq_some_iff.1 q1).1
 have main:∃ents' clock',(Instr.mapUpdate t (a.eval m') (a.eval k') (a.eval v')).run P w=.ok () { w with heap:=w.heap.setIfInBounds (g1.L l) (.map ents' clock') }∧
   aB g1 s.length (ents'.toList.map (·.key)) (es'.map (·.1))∧aB g1 s.length (ents'.toList.map (·.val)) (es'.map (·.2))∧zX ents' clock':=by
  have hk3:3≤kk→qj kk key=true:=fun _=>hcond.2.1
  rcases GV (w:=w) hkt rk rv hput q2 q3 with ⟨h1,rfl⟩|⟨j,z,hj,h1,⟨y,k2,hy,ry,hsame⟩,h3,h4⟩
  ·refine ⟨ents.push { key:=a.eval k',val:=a.eval v',born:=clock },clock+1, ?_, ?_, ?_,hbo.push _ _⟩
   ·rw [hmv]
    simp [Instr.mapUpdate,Sem.run_bind,run_underlying hu,getObj,Sem.run,q1,bU hkt rk hk3,h1,setObj]
   ·simp only [Array.toList_push,List.map_append,List.map_cons,List.map_nil]
    exact q2.append (.cons rk (.nil _ _))
   ·simp only [Array.toList_push,List.map_append,List.map_cons,List.map_nil]
    exact q3.append (.cons rv (.nil _ _))
  ·have hbits:=EK rk ry hsame
   have hj':j<ents.size:=by simpa using hj
   have hy':ents[j].key=y:=by simpa [hj'] using hy
   refine ⟨ents.modify j fun e=>{ e with key:=a.eval k',val:=a.eval v' },clock, ?_,by rw [zB];exact h3,by rw [zB];exact h4,hbo.modify _ _ (fun _=>rfl)⟩
   rw [hmv]
   simp [Instr.mapUpdate,Sem.run_bind,run_underlying hu,getObj,Sem.run,q1,bU hkt rk hk3,h1,setObj,Instr.keyThatStays,hj',hy',hbits]
 obtain ⟨ents',clock',hrun,r1,r2,r3⟩:=main
 have hset:=map_set (ob':=.mapo es') m1 hll hnc hlt ents' clock' (fun w' hw'=>⟨hnc,ents',clock',hw',r1,r2,r3⟩)
 rw [hgo]
 exact ⟨undef,_,g1,.inr ⟨IW hrun,rfl⟩,st1.trans hset.1,hset.2,.v (.tu #[] [] rfl (fun i hi=>by simp at hi))⟩
theorem VN {kk:Nat} {m k v:IX} (h:Sim P glob g s B w (Act.tm a) env) (hc:au P o.op (.hins kk m k v)=true) (hr:aop glob call cx env s (.hins kk m k v)=.ok e env' s'):Good P glob g s B w a (execOp a.eval o) e env' s':=by
 simp only [au] at hc
 have hc':∃t m' k' v',(o.op=.insert t m' k' v'∨o.op=.mapUpdate t m' k' v')∧aS m' m=true∧aS k' k=true∧aS v' v=true∧IL P kk t=true:=by
  split at hc
  ·rename_i t m' k' v' hop
   simp only [Bool.and_eq_true] at hc
   exact ⟨t,m',k',v',.inl hop,hc.1.1.1,hc.1.1.2,hc.1.2,hc.2⟩
  ·rename_i t m' k' v' hop
   simp only [Bool.and_eq_true] at hc
   exact ⟨t,m',k',v',.inr hop,hc.1.1.1,hc.1.1.2,hc.1.2,hc.2⟩
  ·cases hc
 obtain ⟨t,m',k',v',hop,hm,hk,hv,hkey⟩:=hc'
 obtain ⟨kt,et,hu,hkt⟩:=zU hkey
 have hgo:(execOp a.eval o)=(do Instr.mapUpdate t (a.eval m') (a.eval k') (a.eval v');pure Next.skip):=by
  rcases hop with hop|hop<;>simp only [execOp,hop]
 simp only [aop] at hr
 split at hr
 case h_2=>cases hr
 rename_i l key val env1 hml hkl hvl
 split at hr
 case h_3=>cases hr
 case h_2=>
  rename_i es hsl
  exact Ti h (Or.elim hop Or.inl Or.inr) hm hk hv hu hkt hml hkl hvl hsl hr
 rename_i es hsl
 split at hr
 case h_2=>cases hr
 rename_i es' hput
 split at hr
 case isFalse=>cases hr
 rename_i hcond
 cases hr
 obtain ⟨g1,st1,m1,rv⟩:=yP hv h hvl
 have rm:Rep g1 s.length (a.eval m') (.mp l):=(ai (a:=a) hm h.env h.base.glob hml).mono st1.le
 have rk:Rep g1 s.length (a.eval k') key:=(ai (a:=a) hk h.env h.base.glob hkl).mono st1.le
 have hll:l<s.length:=(List.getElem?_eq_some_iff.1 hsl).1
 obtain ⟨hnc,ents,clock,q1,q2,q3,hbn⟩:=m1.base.heap.obj l _ hsl
 have hmv:a.eval m'=.map (some (g1.L l)):=by generalize a.eval m'=q at rm;cases rm;rfl
 have hlt:g1.L l<w.heap.size:=(Array.getElem?_eq_some_iff.1 q1).1
 have main:∃ob:Obj,(Instr.mapUpdate t (a.eval m') (a.eval k') (a.eval v')).run P w=.ok () { w with heap:=w.heap.setIfInBounds (g1.L l) ob }∧
   ∃ents' clock',ob=.map ents' clock'∧aB g1 s.length (ents'.toList.map (·.key)) (es'.map (·.1))∧aB g1 s.length (ents'.toList.map (·.val)) (es'.map (·.2))∧Born ents' clock':=by
  have hk3:3≤kk→qj kk key=true:=fun _=>hcond.2.1
  rcases GV (w:=w) hkt rk rv hput q2 q3 with ⟨h1,rfl⟩|⟨j,z,hj,h1,⟨y,k2,hy,ry,hsame⟩,h3,h4⟩
  ·refine ⟨.map (ents.push { key:=a.eval k',val:=a.eval v',born:=clock }) (clock+1), ?_,_,_,rfl, ?_, ?_,hbn.push _ _⟩
   ·rw [hmv]
    simp [Instr.mapUpdate,Sem.run_bind,run_underlying hu,getObj,Sem.run,q1,bU hkt rk hk3,h1,setObj]
   ·simp only [Array.toList_push,List.map_append,List.map_cons,List.map_nil]
    exact q2.append (.cons rk (.nil _ _))
   ·simp only [Array.toList_push,List.map_append,List.map_cons,List.map_nil]
    exact q3.append (.cons rv (.nil _ _))
  ·have hbits:=EK rk ry hsame
   have hj':j<ents.size:=by simpa using hj
   have hy':ents[j].key=y:=by simpa [hj'] using hy
   refine ⟨.map (ents.modify j fun e=>{ e with key:=a.eval k',val:=a.eval v' }) clock, ?_,_,_,rfl,by rw [zB];exact h3,by rw [zB];exact h4,hbn.modify _ _ _⟩
   rw [hmv]
   simp [Instr.mapUpdate,Sem.run_bind,run_underlying hu,getObj,Sem.run,q1,bU hkt rk hk3,h1,setObj,Instr.keyThatStays,hj',hy',hbits]
 obtain ⟨ob,hrun,ents',clock',rfl,r1,r2,r3⟩:=main
 let w':World:={ w with heap:=w.heap.setIfInBounds (g1.L l) (.map ents' clock') }
 have hne:∀b,b≠g1.L l→w'.heap[b]?=w.heap[b]?:=fun b hb=>aT hb
 have hbase:Base P glob g1 (s.set l (.map es')) w':=by
  refine ⟨⟨fun c o' v1 hv1=>?_,fun c es1 hc1=>?_⟩,m1.base.heap.setAt hll (.refl _ _) (fun _ _ _=>rfl) (fun b hb=>.inl hb) (fun b hb=>by simpa [w'] using m1.base.heap.lt l b hll hb) (by simp [w']) (fun b _ hb=>⟨hne b (fun hbe=>hb (.inl hbe.symm)),rfl,rfl⟩) ⟨hnc,ents',clock',ou hlt,r1,r2,r3⟩,m1.base.glob⟩
  ·have hcb:c≠g1.L l:=fun hcb=>by subst hcb;rw [hnc.m o'] at hv1;cases hv1
   rw [World.cell?_of_block (hne c hcb)];exact m1.base.imm.m c o' v1 hv1
  ·have hcb:c≠g1.L l:=fun hcb=>by subst hcb;rw [hnc.mm] at hc1;cases hc1
   exact (m1.base.imm.mm c es1 hc1).keep (hne c hcb)
 rw [hgo]
 refine ⟨undef,w',g1,.inr ⟨IW hrun,rfl⟩,st1.trans ?_,⟨hbase, ?_,by simp [w'];exact m1.B⟩,.v (.tu #[] [] rfl (fun i hi=>by simp at hi))⟩
 ·rw [List.length_set]
  refine ⟨.refl _ _,by simp [w'],fun b hb hbt=>hne b (fun hbe=>hbt (by rw [hbe];exact .L hll)),fun _ _ _=>rfl,fun _ _=>rfl,fun b hb=>.inl hb,rfl,rfl,fun _=>⟨rfl,Nat.le_refl _⟩⟩
 ·rw [List.length_set]
  exact m1.env.next (.refl _ _) (fun k2 e2 hk2 ho2 b hb=>⟨hne b (fun hbe=>m1.env.off k2 e2 hk2 ho2 b hb (by rw [hbe];exact .L hll)),rfl,rfl,fun ht=>ht⟩)
theorem OJ {kk:Nat} {k:AV} {N:Nat} {F:Nat→List MapEntry→Option (Nat×Value)→Prop} {E:Value→Bool→Prop}
  (hE:∀y k' r,Rep g N y k'→oK kk k k'=some r→E y r) (h0:∀i,F i [] none) (ht:∀i e es,E e.key true→F i (e::es) (some (i,e.val))) (hf:∀i e es r,E e.key false→F (i+1) es r→F i (e::es) r):
  ∀(es:List (AV×AV)) (ents:List MapEntry) (i:Nat) {es':List (AV×AV)},Nk kk k es=some es'→
  aB g N (ents.map (·.key)) (es.map (·.1))→aB g N (ents.map (·.val)) (es.map (·.2))→
  (F i ents none∧es'=es)∨(∃j z,F i ents (some (i+j,z))∧
   aB g N ((ents.eraseIdx j).map (·.key)) (es'.map (·.1))∧aB g N ((ents.eraseIdx j).map (·.val)) (es'.map (·.2))):=by
 intro es
 induction es with
 | nil=>
  intro ents i es' h hk hv
  cases ents with
  | nil=>simp [Nk] at h;subst h;exact .inl ⟨h0 i,rfl⟩
  | cons e es=>exact absurd hk.1 (by simp)
 | cons p es ih=>
  intro ents i es' h hk hv
  obtain ⟨k',v'⟩:=p
  cases ents with
  | nil=>exact absurd hk.1 (by simp)
  | cons e ents=>
   simp only [List.map_cons] at hk hv
   simp only [Nk] at h
   split at h
   ·rename_i hq
    cases h
    have hs:=hE _ _ _ hk.head hq
    exact .inr ⟨0,e.val,by simpa using ht i e ents hs,by simpa using hk.tail,by simpa using hv.tail⟩
   ·rename_i hq
    have hs:=hE _ _ _ hk.head hq
    cases hm:Nk kk k es with
    | none=>rw [hm] at h;cases h
    | some r'=>
     rw [hm] at h
     simp at h
     subst h
     rcases ih ents (i+1) hm hk.tail hv.tail with ⟨h1,h2⟩|⟨j,z,h1,h3,h4⟩
     ·exact .inl ⟨hf i e ents _ hs h1,by rw [h2]⟩
     ·refine .inr ⟨j+1,z, ?_, ?_, ?_⟩
      ·have:=hf i e ents _ hs h1
       rwa [show i+1+j=i+(j+1) by omega] at this
      ·simpa using aB.cons hk.head h3
      ·simpa using aB.cons hv.head h4
   ·cases h
theorem Qb {kk:Nat} {kt:TypeId} (hk:EW P kk kt=true) {k:AV} {N:Nat} {u:Value} (hu:Rep g N u k) {es es':List (AV×AV)} {ents:List MapEntry} (h:Nk kk k es=some es')
  (h1:aB g N (ents.map (·.key)) (es.map (·.1))) (h2:aB g N (ents.map (·.val)) (es.map (·.2))):
  ((Instr.findKey kt u ents).run P w=.ok none w∧es'=es)∨(∃j z,(Instr.findKey kt u ents).run P w=.ok (some (j,z)) w∧
    aB g N ((ents.eraseIdx j).map (·.key)) (es'.map (·.1))∧aB g N ((ents.eraseIdx j).map (·.val)) (es'.map (·.2))):=by
 rcases qU hk with ⟨d,hd,hkd⟩|⟨n,fs,rfl,hut,hF,hp⟩
 ·rcases OJ (F:=fun i es r=>Instr.findNow d u es i=some r) (E:=fun y r=>Instr.sameNow d u y=some r) (fun y k' r hy hq=>vN hkd hq hu hy) (fun i=>rfl)
   (fun i e es he=>by simp [Instr.findNow,he]) (fun i e es r he hr=>by simp [Instr.findNow,he,hr]) es ents 0 h h1 h2 with ⟨a1,a2⟩|⟨j,z,a2,a3⟩
  ·exact .inl ⟨by simp [Instr.findKey,run_underlying hd,a1],a2⟩
  ·exact .inr ⟨j,z,by simp [Instr.findKey,run_underlying hd,a2],a3⟩
 ·rw [pY hut]
  rcases OJ (F:=fun i es r=>(Instr.findAsking kt u es i).run P w=.ok r w) (E:=fun y r=>(Op.equal kt u y).run P w=.ok r w) (fun y k' r hy hq=>rW hut hF hp hq hu hy) (fun i=>rfl)
   (fun i e es he=>by simp [Instr.findAsking,Sem.run_bind,he]) (fun i e es r he hr=>by simp [Instr.findAsking,Sem.run_bind,he,hr]) es ents 0 h h1 h2 with ⟨a1,a2⟩|⟨j,z,a2,a3⟩
  ·exact .inl ⟨a1,a2⟩
  ·exact .inr ⟨j,z,by simpa using a2,a3⟩
theorem VO {kk:Nat} {m k:IX} (h:Sim P glob g s B w (Act.tm a) env) (hc:au P o.op (.hdel kk m k)=true) (hr:aop glob call cx env s (.hdel kk m k)=.ok e env' s'):Good P glob g s B w a (execOp a.eval o) e env' s':=by
 simp only [au] at hc
 split at hc
 case h_2=>cases hc
 rename_i c hop
 split at hc
 case h_2=>cases hc
 rename_i m' k' t t' hcal hargs htys
 simp only [Bool.and_eq_true] at hc
 obtain ⟨⟨hm,hk⟩,hkey⟩:=hc
 obtain ⟨kt,et,hu,hkt⟩:=zU hkey
 simp only [aop] at hr
 split at hr
 case h_2=>cases hr
 rename_i l key hml hkl
 split at hr
 case h_2=>cases hr
 rename_i es hsl
 split at hr
 case h_2=>cases hr
 rename_i es' hput
 split at hr
 case isFalse=>cases hr
 rename_i hcond
 cases hr
 have rm:Rep g s.length (a.eval m') (.mp l):=ai (a:=a) hm h.env h.base.glob hml
 have rk:Rep g s.length (a.eval k') key:=ai (a:=a) hk h.env h.base.glob hkl
 have hll:l<s.length:=(List.getElem?_eq_some_iff.1 hsl).1
 obtain ⟨hnc,ents,clock,q1,q2,q3,hbn⟩:=h.base.heap.obj l _ hsl
 have hmv:a.eval m'=.map (some (g.L l)):=by generalize a.eval m'=q at rm;cases rm;rfl
 have hlt:g.L l<w.heap.size:=(Array.getElem?_eq_some_iff.1 q1).1
 have hgo:execOp a.eval o=(do pure (Next.value (←Builtin.delete_ c.argTypes o.type (c.args.map a.eval)))):=oz (a:=a) hop hcal
 have ha:c.args.map a.eval=#[a.eval m',a.eval k']:=by apply Array.toList_inj.1;simp [hargs]
 have hat:c.argTypes=#[t,t']:=by apply Array.toList_inj.1;simp [htys]
 have main:∃ob:Obj,(Builtin.delete_ c.argTypes o.type (c.args.map a.eval)).run P w=.ok (.tuple #[]) { w with heap:=w.heap.setIfInBounds (g.L l) ob }∧
   ∃ents' clock',ob=.map ents' clock'∧aB g s.length (ents'.toList.map (·.key)) (es'.map (·.1))∧aB g s.length (ents'.toList.map (·.val)) (es'.map (·.2))∧Born ents' clock':=by
  have hk3:3≤kk→qj kk key=true:=fun _=>hcond.1
  rw [ha,hat,hmv]
  rcases Qb (w:=w) hkt rk hput q2 q3 with ⟨h1,rfl⟩|⟨j,z,h1,h3,h4⟩
  ·exact ⟨.map ents clock,by simp [Builtin.delete_,Sem.run_bind,run_underlying hu,getObj,Sem.run,q1,bU hkt rk hk3,h1,setObj],_,_,rfl,q2,q3,hbn⟩
  ·exact ⟨.map (ents.eraseIdxIfInBounds j) clock,by simp [Builtin.delete_,Sem.run_bind,run_underlying hu,getObj,Sem.run,q1,bU hkt rk hk3,h1,setObj],_,_,rfl,by simpa using h3,by simpa using h4,hbn.erase j⟩
 obtain ⟨ob,hrun,ents',clock',rfl,r1,r2,r3⟩:=main
 let w':World:={ w with heap:=w.heap.setIfInBounds (g.L l) (.map ents' clock') }
 have hne:∀b,b≠g.L l→w'.heap[b]?=w.heap[b]?:=fun b hb=>aT hb
 have hbase:Base P glob g (s.set l (.map es')) w':=by
  refine ⟨⟨fun c o' v1 hv1=>?_,fun c es1 hc1=>?_⟩,h.base.heap.setAt hll (.refl _ _) (fun _ _ _=>rfl) (fun b hb=>.inl hb) (fun b hb=>by simpa [w'] using h.base.heap.lt l b hll hb) (by simp [w']) (fun b _ hb=>⟨hne b (fun hbe=>hb (.inl hbe.symm)),rfl,rfl⟩) ⟨hnc,ents',clock',ou hlt,r1,r2,r3⟩,h.base.glob⟩
  ·have hcb:c≠g.L l:=fun hcb=>by subst hcb;rw [hnc.m o'] at hv1;cases hv1
   rw [World.cell?_of_block (hne c hcb)];exact h.base.imm.m c o' v1 hv1
  ·have hcb:c≠g.L l:=fun hcb=>by subst hcb;rw [hnc.mm] at hc1;cases hc1
   exact (h.base.imm.mm c es1 hc1).keep (hne c hcb)
 rw [hgo]
 refine ⟨.tuple #[],w',g,.inl (ay hrun), ?_,⟨hbase, ?_,by simp [w'];exact h.B⟩,.v (.tu #[] [] rfl (fun i hi=>by simp at hi))⟩
 ·rw [List.length_set]
  refine ⟨.refl _ _,by simp [w'],fun b hb hbt=>hne b (fun hbe=>hbt (by rw [hbe];exact .L hll)),fun _ _ _=>rfl,fun _ _=>rfl,fun b hb=>.inl hb,rfl,rfl,fun _=>⟨rfl,Nat.le_refl _⟩⟩
 ·rw [List.length_set]
  exact h.env.next (.refl _ _) (fun k2 e2 hk2 ho2 b hb=>⟨hne b (fun hbe=>h.env.off k2 e2 hk2 ho2 b hb (by rw [hbe];exact .L hll)),rfl,rfl,fun ht=>ht⟩)
theorem Uw (h:Sim P glob g s B w (Act.tm a) env) (hc:au P o.op .hmapo=true) (hr:aop glob call cx env s .hmapo=.ok e env' s'):Good P glob g s B w a (execOp a.eval o) e env' s':=by
 simp only [au] at hc
 split at hc
 case h_2=>cases hc
 rename_i t hop
 simp only [aop] at hr
 cases hr
 have hg:=Grew.alloc (qt:=True) w (.map #[] 0)
 have hle:g.le s.length (g.place s.length w.heap.size) (s.length+1):=⟨fun _ _ _ h=>h,fun _ _ h=>h,fun l hl=>by simp [af.place];omega,fun l hl k v hk=>by simp [af.place];rw [if_neg (by omega)];exact hk,by omega⟩
 have hLn:(g.place s.length w.heap.size).L s.length=w.heap.size:=by simp [af.place]
 have hfr:=h.base.imm.fresh (Nat.le_refl w.heap.size)
 have hnc:fP (g.place s.length w.heap.size) ((g.place s.length w.heap.size).L s.length):=by rw [hLn];exact ⟨hfr.m,hfr.mm⟩
 have hp:=h.push (ob:=eH.mapo []) hg hle (fun l hl=>by simp [af.place];omega) (fun _ _=>⟨rfl,rfl⟩) (fun b hb=>by
   rcases hb with hb|⟨k,v,hk,_⟩
   ·rw [hLn] at hb;subst hb;simp
   ·simp [af.place] at hk) ⟨(h.base.imm.grew hg).m,(h.base.imm.grew hg).mm⟩ ⟨hnc,#[],0,by rw [hLn];exact heap_alloc_new w _,.nil _ _,.nil _ _,.nil⟩
 refine ⟨.map (some w.heap.size),_,_,.inl ?_,hp.1,hp.2,.v ?_⟩
 ·simp only [execOp,hop]
  exact ay (by simp [Instr.makeMap,Sem.run_bind])
 ·have:=Rep.mp (g:=g.place s.length w.heap.size) (n:=(s++[eH.mapo []]).length) s.length (by simp)
  rwa [hLn] at this
theorem LP {kk:Nat} {k:AV} {N:Nat} {F:Nat→List MapEntry→Option (Nat×Value)→Prop} {E:Value→Bool→Prop}
  (hE:∀y k' r,Rep g N y k'→oK kk k k'=some r→E y r) (h0:∀i,F i [] none) (ht:∀i e es,E e.key true→F i (e::es) (some (i,e.val))) (hf:∀i e es r,E e.key false→F (i+1) es r→F i (e::es) r):
  ∀(es:List (AV×AV)) (ents:List MapEntry) (i:Nat) {r:Option (Nat×AV)},OH kk k es i=some r→
  aB g N (ents.map (·.key)) (es.map (·.1))→aB g N (ents.map (·.val)) (es.map (·.2))→
  (r=none∧F i ents none)∨(∃j v z,r=some (i+j,v)∧j<ents.length∧F i ents (some (i+j,z))∧Rep g N z v∧(ents[j]?).map (·.val)=some z∧(es[j]?).map (·.1)=some k∧∃y,(ents[j]?).map (·.key)=some y∧Rep g N y k∧oK kk k k=some true):=by
 intro es
 induction es with
 | nil=>
  intro ents i r h hk hv
  cases ents with
  | nil=>simp [OH] at h;exact .inl ⟨h.symm,h0 i⟩
  | cons e es=>exact absurd hk.1 (by simp)
 | cons p es ih=>
  intro ents i r h hk hv
  obtain ⟨k',v'⟩:=p
  cases ents with
  | nil=>exact absurd hk.1 (by simp)
  | cons e ents=>
   simp only [List.map_cons] at hk hv
   simp only [OH] at h
   split at h
   ·rename_i hq
    cases h
    have hs:=hE _ _ _ hk.head hq
    have hkk:=Ul hq
    subst hkk
    exact .inr ⟨0,v',e.val,rfl,by simp,by simpa using ht i e ents hs,hv.head,by simp,by simp,e.key,by simp,hk.head,hq⟩
   ·rename_i hq
    have hs:=hE _ _ _ hk.head hq
    rcases ih ents (i+1) h hk.tail hv.tail with ⟨h1,h2⟩|⟨j,v,z,h1,h3,h4,h5,h6,h7,y,h8,h9⟩
    ·exact .inl ⟨h1,hf i e ents _ hs h2⟩
    ·refine .inr ⟨j+1,v,z,by rw [h1];congr 2;omega,by simp;omega, ?_,h5,by simpa using h6,by simpa using h7,y,by simpa using h8,h9⟩
     have:=hf i e ents _ hs h4
     rwa [show i+1+j=i+(j+1) by omega] at this
   ·cases h
theorem ET {kk:Nat} {kt:TypeId} (hk:EW P kk kt=true) {k:AV} {N:Nat} {u:Value} (hu:Rep g N u k) {es:List (AV×AV)} {ents:List MapEntry} {r:Option (Nat×AV)} (h:OH kk k es 0=some r)
  (h1:aB g N (ents.map (·.key)) (es.map (·.1))) (h2:aB g N (ents.map (·.val)) (es.map (·.2))):
  (r=none∧(Instr.findKey kt u ents).run P w=.ok none w)∨(∃j v z,r=some (j,v)∧j<ents.length∧(Instr.findKey kt u ents).run P w=.ok (some (j,z)) w∧Rep g N z v∧(ents[j]?).map (·.val)=some z∧(es[j]?).map (·.1)=some k∧∃y,(ents[j]?).map (·.key)=some y∧Rep g N y k∧oK kk k k=some true):=by
 rcases qU hk with ⟨d,hd,hkd⟩|⟨n,fs,rfl,hut,hF,hp⟩
 ·rcases LP (F:=fun i es r=>Instr.findNow d u es i=some r) (E:=fun y r=>Instr.sameNow d u y=some r) (fun y k' r hy hq=>vN hkd hq hu hy) (fun i=>rfl)
   (fun i e es he=>by simp [Instr.findNow,he]) (fun i e es r he hr=>by simp [Instr.findNow,he,hr]) es ents 0 h h1 h2 with ⟨a1,a2⟩|⟨j,v,z,a1,a2,a3,a4⟩
  ·exact .inl ⟨a1,by simp [Instr.findKey,run_underlying hd,a2]⟩
  ·simp only [Nat.zero_add] at a1 a3
   exact .inr ⟨j,v,z,a1,a2,by simp [Instr.findKey,run_underlying hd,a3],a4⟩
 ·rw [pY hut]
  rcases LP (F:=fun i es r=>(Instr.findAsking kt u es i).run P w=.ok r w) (E:=fun y r=>(Op.equal kt u y).run P w=.ok r w) (fun y k' r hy hq=>rW hut hF hp hq hu hy) (fun i=>rfl)
   (fun i e es he=>by simp [Instr.findAsking,Sem.run_bind,he]) (fun i e es r he hr=>by simp [Instr.findAsking,Sem.run_bind,he,hr]) es ents 0 h h1 h2 with ⟨a1,a2⟩|⟨j,v,z,a1,a2,a3,a4⟩
  ·exact .inl ⟨a1,by simpa using a2⟩
  ·simp only [Nat.zero_add] at a1 a3
   exact .inr ⟨j,v,z,a1,a2,a3,a4⟩
theorem VF {kk:Nat} {z:AV} {m k:IX} (h:Sim P glob g s B w (Act.tm a) env) (hc:au P o.op (.ment kk z m k)=true) (hr:aop glob call cx env s (.ment kk z m k)=.ok e env' s'):Good P glob g s B w a (execOp a.eval o) e env' s':=by
 simp only [au] at hc
 split at hc
 case h_2=>cases hc
 rename_i t m' k' hop
 simp only [Bool.and_eq_true] at hc
 obtain ⟨⟨⟨hm,hk⟩,hkey⟩,hz⟩:=hc
 obtain ⟨kt,et,hu,hkt⟩:=zU hkey
 rw [hu] at hz
 simp only [] at hz
 unfold UM at hz
 cases hi:P.info? et with
 | none=>simp [hi] at hz
 | some info=>
 cases hzz:info.zero with
 | none=>simp [hi,hzz] at hz
 | some zv=>
 simp [hi,hzz] at hz
 have hzrep:=IK g s.length zv z hz
 simp only [aop] at hr
 split at hr
 case h_2=>cases hr
 rename_i l key hml hkl
 split at hr
 case h_2=>cases hr
 rename_i es hsl
 split at hr
 case isFalse=>cases hr
 rename_i hcond
 have rm:Rep g s.length (a.eval m') (.mp l):=ai (a:=a) hm h.env h.base.glob hml
 have rk:Rep g s.length (a.eval k') key:=ai (a:=a) hk h.env h.base.glob hkl
 have hll:l<s.length:=(List.getElem?_eq_some_iff.1 hsl).1
 obtain ⟨hnc,ents,clock,q1,q2,q3,hbo⟩:=h.base.heap.obj l _ hsl
 have hmv:a.eval m'=.map (some (g.L l)):=by generalize a.eval m'=q at rm;cases rm;rfl
 have hlt:g.L l<w.heap.size:=(Array.getElem?_eq_some_iff.1 q1).1
 have hk3:3≤kk→qj kk key=true:=fun _=>hcond.1
 have hgo:(execOp a.eval o)=(do pure (Next.value (←Instr.mapEntry t (a.eval m') (a.eval k')))):=by simp only [execOp,hop]
 have hlen:ents.size=es.length:=by have:=q2.1;simpa using this
 rw [hgo,hmv]
 split at hr
 ·rename_i i v hfind
  cases hr
  rcases ET (w:=w) hkt rk hfind q2 q3 with ⟨h1,_⟩|⟨j,v2,z2,hjv,hj,h1,rz,hval,hes,y,hy,ry,hsame⟩
  ·cases h1
  ·cases hjv
   have hbits:=EK rk ry hsame
   have hj':i<ents.size:=by simpa using hj
   have hy':ents[i].key=y:=by simpa [hj'] using hy
   have hv':ents[i].val=z2:=by simpa [hj'] using hval
   have hrun:(Instr.mapEntry t (.map (some (g.L l))) (a.eval k')).run P w=.ok (.tuple #[z2,goInt i]) { w with heap:=w.heap.setIfInBounds (g.L l) (.map (ents.modify i fun e=>{ e with key:=a.eval k' }) clock) }:=by
    simp [Instr.mapEntry,Sem.run_bind,run_underlying hu,getObj,Sem.run,q1,bU hkt rk hk3,h1,setObj,Instr.keyThatStays,hj',hy',hbits,hbo.at hj']
   have r1:aB g s.length ((ents.modify i fun e=>{ e with key:=a.eval k' }).toList.map (·.key)) (es.map (·.1)):=by
    refine ⟨by simpa using q2.1,fun n hn hn'=>?_⟩
    have hn2:n<ents.size:=by simpa using hn
    simp only [List.getElem_map,Array.getElem_toList,Array.getElem_modify]
    by_cases hin:i=n
    ·subst hin
     simp only [if_true]
     have:es[i].1=key:=by
      have hn3:i<es.length:=by omega
      simpa [hn3] using hes
     rw [this];exact rk
    ·rw [if_neg hin]
     have:=q2.2 n (by simpa using hn2) hn'
     simpa using this
   have r2:aB g s.length ((ents.modify i fun e=>{ e with key:=a.eval k' }).toList.map (·.val)) (es.map (·.2)):=by
    refine ⟨by simpa using q3.1,fun n hn hn'=>?_⟩
    have hn2:n<ents.size:=by simpa using hn
    simp only [List.getElem_map,Array.getElem_toList,Array.getElem_modify]
    have:=q3.2 n (by simpa using hn2) hn'
    by_cases hin:i=n
    ·subst hin;simpa using this
    ·rw [if_neg hin];simpa using this
   have hset:=map_set (ob':=.mapo es) h hll hnc hlt _ clock (fun w' hw'=>⟨hnc,ents.modify i fun e=>{ e with key:=a.eval k' },clock,hw',r1,r2,hbo.modify i _ (fun _=>rfl)⟩)
   have hss:s.set l (.mapo es)=s:=by
    apply List.ext_getElem?
    intro n
    by_cases hn:l=n
    ·subst hn;rw [List.getElem?_set_self hll,hsl]
    ·rw [List.getElem?_set_ne hn]
   rw [hss] at hset
   refine ⟨_,_,g,.inl (ay hrun),hset.1,hset.2,.v (.tu _ _ rfl (fun n hn1 hn2=>?_))⟩
   match n,hn1 with
   | 0,_=>exact rz
   | 1,_=>exact .i _ _
 ·rename_i hfind
  cases hr
  rcases ET (w:=w) hkt rk hfind q2 q3 with ⟨_,h1⟩|⟨j,v2,z2,hjv,_⟩
  ·have hrun:(Instr.mapEntry t (.map (some (g.L l))) (a.eval k')).run P w=.ok (.tuple #[zv,goInt clock]) { w with heap:=w.heap.setIfInBounds (g.L l) (.map (ents.push { key:=a.eval k',val:=zv,born:=clock }) (clock+1)) }:=by
    simp [Instr.mapEntry,Sem.run_bind,run_underlying hu,getObj,Sem.run,q1,bU hkt rk hk3,h1,setObj,zeroValue,typeInfo,hi,hzz]
   have hset:=map_set (ob':=.mapo (es++[(key,z)])) h hll hnc hlt _ (clock+1) (fun w' hw'=>⟨hnc,ents.push { key:=a.eval k',val:=zv,born:=clock },clock+1,hw',(by
    simp only [Array.toList_push,List.map_append,List.map_cons,List.map_nil]
    exact q2.append (.cons rk (.nil _ _))),(by
    simp only [Array.toList_push,List.map_append,List.map_cons,List.map_nil]
    exact q3.append (.cons hzrep (.nil _ _))),hbo.push _ _⟩)
   refine ⟨_,_,g,.inl (ay hrun),hset.1,hset.2,.v (.tu _ _ rfl (fun n hn1 hn2=>?_))⟩
   match n,hn1 with
   | 0,_=>simpa using hzrep
   | 1,_=>
    have:clock=es.length:=by rw [hbo.1,hlen]
    subst this
    exact .i _ _
  ·cases hjv
 ·cases hr
theorem VB {m i v:IX} (h:Sim P glob g s B w (Act.tm a) env) (hc:au P o.op (.msto m i v)=true) (hr:aop glob call cx env s (.msto m i v)=.ok e env' s'):Good P glob g s B w a (execOp a.eval o) e env' s':=by
 simp only [au] at hc
 split at hc
 case h_2=>cases hc
 rename_i t m' i' v' hop
 simp only [Bool.and_eq_true] at hc
 obtain ⟨⟨hm,hi⟩,hv⟩:=hc
 simp only [aop] at hr
 split at hr
 case h_2=>cases hr
 rename_i l n val env1 hml hil hvl
 split at hr
 case h_2=>cases hr
 rename_i es hsl
 split at hr
 case h_2=>cases hr
 rename_i key old hget
 split at hr
 case isFalse=>cases hr
 rename_i hcond
 cases hr
 obtain ⟨g1,st1,m1,rv⟩:=yP hv h hvl
 have rm:Rep g1 s.length (a.eval m') (.mp l):=(ai (a:=a) hm h.env h.base.glob hml).mono st1.le
 have ri:Rep g1 s.length (a.eval i') (.i .i64 n):=(ai (a:=a) hi h.env h.base.glob hil).mono st1.le
 have hll:l<s.length:=(List.getElem?_eq_some_iff.1 hsl).1
 obtain ⟨hnc,ents,clock,q1,q2,q3,hbo⟩:=m1.base.heap.obj l _ hsl
 have hmv:a.eval m'=.map (some (g1.L l)):=by generalize a.eval m'=q at rm;cases rm;rfl
 have hiv:=fO ri
 have hlt:g1.L l<w.heap.size:=(Array.getElem?_eq_some_iff.1 q1).1
 have hlen:ents.size=es.length:=by have:=q2.1;simpa using this
 have hn:n.toNat<es.length:=(List.getElem?_eq_some_iff.1 hget).1
 have hgo:(execOp a.eval o)=(do Instr.entryStore t (a.eval m') (a.eval i') (a.eval v');pure Next.skip):=by simp only [execOp,hop]
 have hfi:ents.findIdx? (fun e=>(e.born:Int) == n)=some n.toNat:=by
  rw [Array.findIdx?_eq_some_iff_getElem]
  refine ⟨by omega,by rw [hbo.at (by omega)];simp;omega,fun j hj=>?_⟩
  rw [hbo.at (by omega)]
  simp;omega
 have hrun:(Instr.entryStore t (a.eval m') (a.eval i') (a.eval v')).run P w=.ok () { w with heap:=w.heap.setIfInBounds (g1.L l) (.map (ents.modify n.toNat fun e=>{ e with val:=a.eval v' }) clock) }:=by
  rw [hmv,hiv]
  simp [Instr.entryStore,Sem.run_bind,getObj,Sem.run,q1,asInt,asIntOf,hfi,setObj]
 have r1:aB g1 s.length ((ents.modify n.toNat fun e=>{ e with val:=a.eval v' }).toList.map (·.key)) ((es.set n.toNat (key,val)).map (·.1)):=by
  refine ⟨by simpa using q2.1,fun j hj hj'=>?_⟩
  have hj2:j<ents.size:=by simpa using hj
  have hj3:j<es.length:=by omega
  have:=q2.2 j (by simpa using hj2) (by simpa using hj3)
  simp only [List.getElem_map,Array.getElem_toList,Array.getElem_modify,List.getElem_set] at this ⊢
  by_cases hin:n.toNat=j
  ·subst hin
   have hk2:es[n.toNat].1=key:=by
    have:=(List.getElem?_eq_some_iff.1 hget).2;rw [this]
   rw [hk2] at this
   simpa using this
  ·rw [if_neg hin,if_neg hin];exact this
 have r2:aB g1 s.length ((ents.modify n.toNat fun e=>{ e with val:=a.eval v' }).toList.map (·.val)) ((es.set n.toNat (key,val)).map (·.2)):=by
  refine ⟨by simpa using q3.1,fun j hj hj'=>?_⟩
  have hj2:j<ents.size:=by simpa using hj
  have hj3:j<es.length:=by omega
  have:=q3.2 j (by simpa using hj2) (by simpa using hj3)
  simp only [List.getElem_map,Array.getElem_toList,Array.getElem_modify,List.getElem_set] at this ⊢
  by_cases hin:n.toNat=j
  ·subst hin;simpa using rv
  ·rw [if_neg hin,if_neg hin];exact this
 have hset:=map_set (ob':=.mapo (es.set n.toNat (key,val))) m1 hll hnc hlt _ clock (fun w' hw'=>⟨hnc,ents.modify n.toNat fun e=>{ e with val:=a.eval v' },clock,hw',r1,r2,hbo.modify _ _ (fun _=>rfl)⟩)
 rw [hgo]
 exact ⟨undef,_,g1,.inr ⟨IW hrun,rfl⟩,st1.trans hset.1,hset.2,.v (.tu #[] [] rfl (fun i hi=>by simp at hi))⟩
end Go.Ai
namespace Go.Ai
variable {P:Program} {glob:Nat→Option (List AV)} {g:af} {s:St} {B:Nat} {w:World} {env:Env} {a:Act} {call:AV→List AV→St→Ctx→CO} {cx:Ctx} {o:Oper} {e:EV} {env':Env} {s':St}
theorem Xv (h:Sim P glob g s B w (Act.tm a) env) (hc:au P o.op .bse=true) (hr:aop glob call cx env s .bse=.ok e env' s'):Good P glob g s B w a (execOp a.eval o) e env' s':=by
 simp only [au] at hc
 split at hc
 case h_2=>cases hc
 rename_i t qs hop
 simp only [Bool.and_eq_true] at hc
 obtain ⟨hq,hc⟩:=hc
 have hqs:qs=#[]:=by
  apply Array.toList_inj.1
  simpa using hq
 subst hqs
 simp only [aop] at hr
 cases hr
 cases hu:P.underlying t with
 | none=>simp [hu] at hc
 | some d=>
  cases d<;>simp only [hu] at hc<;>(try (cases hc;done))
  rename_i el
  cases hi:P.info? el with
  | none=>simp [hi] at hc
  | some i=>
   have hsz:iL P el i.size=true:=by simp [iL,hi]
   have hrun:(Instr.buildSlice t 0 #[]).run P w=.ok (.slice (some ⟨w.heap.size,0,none⟩) 0 0) (w.alloc (.cells #[] el)):=by
    simp [Instr.buildSlice,Sem.run_bind,run_underlying hu,run_sizeOf hsz,newRow,Instr.fill,Array.range_zero']
   obtain ⟨h2,s2⟩:=h.grew (Grew.alloc (qt:=True) w (.cells #[] el))
   refine ⟨.slice (some ⟨w.heap.size,0,none⟩) 0 0,_,g,.inl ?_,s2,h2,.v (.se _)⟩
   simp only [execOp,hop]
   exact ay (by simpa using hrun)
theorem Tc {n:Nat} {x y:IX} (h:Sim P glob g s B w (Act.tm a) env) (hc:au P o.op (.storep n x y)=true) (hr:aop glob call cx env s (.storep n x y)=.ok e env' s'):Good P glob g s B w a (execOp a.eval o) e env' s':=by
 have hc':au P o.op (.store n x y)=true:=by simpa only [au] using hc
 refine IC (cx:=cx) (call:=call) h hc' ?_
 simp only [aop] at hr ⊢
 split at hr
 ·rename_i av xv ha hx
  have he:FH glob env y=some (xv,env):=by unfold FH;rw [hx]
  rw [he]
  simp only []
  split at hr
  ·rename_i env1 s1 hst
   cases hr
   have:env1=env:=by
    unfold lS at hst
    rw [ha] at hst
    split at hst
    ·cases av<;>simp only [] at hst<;>(try (cases hst;done))<;>(split at hst<;>(try (cases hst;done))<;>(split at hst<;>cases hst<;>rfl))
    ·cases hst
   subst this
   simp [hst]
  ·cases hr
 ·cases hr
end Go.Ai
namespace Go.Ai
variable {P:Program} {glob:Nat→Option (List AV)} {g:af} {s:St} {B:Nat} {w:World} {env:Env} {a:Act} {o:Oper} {call:AV→List AV→St→Ctx→CO} {cx:Ctx} {e:EV} {env':Env} {s':St}
theorem Xn {neg:Bool} {ks:List Nat} {x y:IX} (h:Sim P glob g s B w (Act.tm a) env) (hc:au P o.op (.ieq neg ks x y)=true) (hr:aop glob call cx env s (.ieq neg ks x y)=.ok e env' s'):Good P glob g s B w a (execOp a.eval o) e env' s':=by
 simp only [au] at hc
 split at hc
 ·rename_i b' t x' y' t' hop
  simp only [Bool.and_eq_true] at hc
  obtain ⟨⟨⟨hb,hx⟩,hy⟩,hty⟩:=hc
  simp only [aop] at hr
  split at hr
  ·rename_i p q hp hq
   split at hr
   ·rename_i r hpq
    cases hr
    have rx:=ai (a:=a) hx h.env h.base.glob hp
    have ry:=ai (a:=a) hy h.env h.base.glob hq
    unfold Xb at hty
    split at hty
    ·rename_i fs hu
     simp only [Bool.and_eq_true,Bool.not_eq_true'] at hty
     obtain ⟨⟨hf,hst⟩,hg⟩:=hty
     have hfo:P.fieldsOf t=fs:=by simp [Program.fieldsOf,hu]
     refine .val h ?_ (.b _)
     generalize hxe:a.eval x'=ux at rx
     generalize hye:a.eval y'=uy at ry
     cases rx with
     | ag us _ hl1 _ hr1=>
      cases ry with
      | ag vs _ hl2 _ hr2=>
       have key:(Op.equalIn 10000 t (.agg us) (.agg vs)).run P w=.ok r w:=by
        have:=run_equalIn_struct (P:=P) w 9999 t us vs (by rw [hfo];exact hu) hst
        rw [this,hfo]
        refine Hy (g:=g) (N:=s.length) (d:=9998) fs.toList 0 ks p q hf hpq ⟨by simpa using hl1,fun i hi hi'=>?_⟩ ⟨by simpa using hl2,fun i hi hi'=>?_⟩
        ·simp only [List.drop_zero];rw [Array.getElem_toList];exact hr1 i (by simpa using hi) hi'
        ·simp only [List.drop_zero];rw [Array.getElem_toList];exact hr2 i (by simpa using hi) hi'
       simp only [execOp,hop]
       rw [hxe,hye]
       refine ay ?_
       cases neg with
       | true=>
        simp only [if_true,beq_iff_eq] at hb
        subst hb
        simp [eqGuard,hg,binOp,Op.equal,Op.maxDepth,key]
       | false=>
        simp only [Bool.false_eq_true,if_false,beq_iff_eq] at hb
        subst hb
        simp [eqGuard,hg,binOp,Op.equal,Op.maxDepth,key]
    ·cases hty
   ·cases hr
  ·cases hr
 ·cases hc
end Go.Ai
