/-
 Slices that lie in the heap, can be written and grow.
-/
import Derived.Test.YtpnlnnfcaeednaaGreatDoorAiA7
import Derived.Test.YtpnlnnfcaeednaaGreatDoorAiA5
import Derived.Laws.MakeOwn
import Derived.Test.YtpnlnnfcaeednaaGreatDoorAiA4
set_option maxRecDepth 100000
set_option linter.unusedSimpArgs false
set_option linter.unusedVariables false
set_option linter.unusedSectionVars false
namespace Go.Ai
variable {P:Program} {glob:Nat→Option (List AV)} {g:aj} {s:St} {B:Nat} {w:World} {env:Env} {a:Act} {o:Oper} {call:AV→List AV→St→Ctx→CO} {cx:Ctx} {e:EV} {env':Env} {s':St}
def aj.bufAt (g:aj) (l b:Nat) (v:Value):aj:={ g with L:=fun l'=>if l'=l then b else g.L l',hist:=fun l'=>if l'=l then fun k=>if k=0 then some v else none else g.hist l' }
def aj.bufNext (g:aj) (l ver:Nat) (v:Value):aj:={ g with hist:=fun l'=>if l'=l then fun k=>if k=ver then some v else g.hist l k else g.hist l' }
theorem aax {tm:Nat→Value} (h:Sim P glob g s B w tm env) {w':World} (hg:Grew True w w') {b off len cap t sz:Nat} {cur:Array Value} {cs:List AV} (hb:w.heap.size≤b) (hrow:w'.heap[b]?=some (.cells cur t (0,0)))
  (hlen:cs.length=len * sz) (hlc:len≤cap) (hmax:cap≤maxLen) (hpos:0<sz) (hfit:off+cap * sz≤cur.size) (hr:dF g s.length ((cur.toList.drop off).take cs.length) cs) (h1:gY ((cur.toList.drop off).take cs.length)):
  Step True g s.length B w (g.bufAt s.length b (.slice (some ⟨b,off,none⟩) len cap)) (s++[dZ.buf t sz 0 cs]).length w'∧Sim P glob (g.bufAt s.length b (.slice (some ⟨b,off,none⟩) len cap)) (s++[dZ.buf t sz 0 cs]) B w' tm env∧
   g.le s.length (g.bufAt s.length b (.slice (some ⟨b,off,none⟩) len cap)) (s.length+1):=by
 let v:Value:=.slice (some ⟨b,off,none⟩) len cap
 have hle:g.le s.length (g.bufAt s.length b v) (s.length+1):=by
  refine ⟨fun _ _ _ h=>h,fun _ _ h=>h,fun l hl=>?_,fun l hl k u hk=>?_,by omega⟩
  ·have:l≠s.length:=by omega
   simp [aj.bufAt,this]
  ·have:l≠s.length:=by omega
   simp only [aj.bufAt,if_neg this];exact hk
 have hfr:=h.base.imm.fresh hb
 have him:=h.base.imm.grew hg
 have hp:=h.push (g':=g.bufAt s.length b v) (ob:=.buf t sz 0 cs) hg hle (fun l hl=>?_) (fun _ _=>⟨rfl,rfl⟩) (fun c hc=>?_) ⟨him.m,him.mm⟩ ?_
 ·exact ⟨hp.1,hp.2,hle⟩
 ·have:l≠s.length:=by omega
  simp [aj.bufAt,this]
 ·have:c=b:=by
   rcases hc with hc|⟨k,u,hk,hu⟩
   ·simp [aj.bufAt] at hc;exact hc.symm
   ·simp only [aj.bufAt,if_true] at hk
    split at hk
    ·cases hk;simp [v,dO] at hu;exact hu.symm
    ·cases hk
  subst this
  exact ⟨hb,(Array.getElem?_eq_some_iff.1 hrow).1⟩
 ·refine ⟨b,off,len,cap,cur,by simp [aj.bufAt,v],fun k hk=>?_,⟨hfr.m,hfr.mm⟩,hlen,hlc,hmax,hpos,hrow,hfit,hr.mono hle,h1⟩
  simp only [aj.bufAt,if_true];rw [if_neg (by omega)]
theorem adX {tm:Nat→Value} (h:Sim P glob g s B w tm env) {l t sz ver:Nat} {cs0:List AV} (hl:s[l]?=some (.buf t sz ver cs0)) {w':World} {b off len cap:Nat} {cur:Array Value} {cs:List AV}
  (hb:g.bl l b∨w.heap.size≤b) (hold:∀c,c<w.heap.size→c≠b→w'.heap[c]?=w.heap[c]?) (hsize:w.heap.size≤w'.heap.size) (hio:w'.os=w.os∧w'.output=w.output∧(True→TD w w')) (hnc:pK g b)
  (hrow:w'.heap[b]?=some (.cells cur t (0,0))) (hlen:cs.length=len * sz) (hlc:len≤cap) (hmax:cap≤maxLen) (hfit:off+cap * sz≤cur.size)
  (hr:dF g s.length ((cur.toList.drop off).take cs.length) cs) (h1:gY ((cur.toList.drop off).take cs.length)):
  Step True g s.length B w (g.bufNext l (ver+1) (.slice (some ⟨b,off,none⟩) len cap)) (s.set l (dZ.buf t sz (ver+1) cs)).length w'∧
   Sim P glob (g.bufNext l (ver+1) (.slice (some ⟨b,off,none⟩) len cap)) (s.set l (dZ.buf t sz (ver+1) cs)) B w' tm env:=by
 let v:Value:=.slice (some ⟨b,off,none⟩) len cap
 have hlt:l<s.length:=(List.getElem?_eq_some_iff.1 hl).1
 obtain ⟨b0,off0,len0,cap0,cur0,q1,q2,q3,q4,q5,q6,q7,q8,q9,q10,q11⟩:=h.base.heap.obj l _ hl
 have hle:g.le s.length (g.bufNext l (ver+1) v) s.length:=by
  refine ⟨fun _ _ _ h=>h,fun _ _ h=>h,fun _ _=>rfl,fun l' _ k u hk=>?_,Nat.le_refl _⟩
  simp only [aj.bufNext]
  split
  ·rename_i he;subst he
   show (if k=ver+1 then some v else g.hist l' k)=some u
   rw [if_neg (fun he=>by subst he;rw [q2 _ (by omega)] at hk;cases hk)];exact hk
  ·exact hk
 have hbl:∀c,(g.bufNext l (ver+1) v).bl l c→g.bl l c∨w.heap.size≤c:=by
  rintro c (hc|⟨k,u,hk,hu⟩)
  ·exact .inl (.inl hc)
  ·simp only [aj.bufNext,if_true] at hk
   split at hk
   ·cases hk;simp [v,dO] at hu;subst hu;exact hb
   ·exact .inl (.inr ⟨k,u,hk,hu⟩)
 have htk:∀c,(g.bufNext l (ver+1) v).taken s.length c→g.taken s.length c∨w.heap.size≤c:=by
  rintro c ⟨l',hl',hc⟩
  by_cases he:l'=l
  ·subst he
   rcases hbl c hc with hc|hc
   ·exact .inl ⟨l',hl',hc⟩
   ·exact .inr hc
  ·rcases hc with hc|⟨k,u,hk,hu⟩
   ·exact .inl ⟨l',hl',.inl hc⟩
   ·simp only [aj.bufNext,if_neg he] at hk;exact .inl ⟨l',hl',.inr ⟨k,u,hk,hu⟩⟩
 have hnt:∀c,c<w.heap.size→¬g.taken s.length c→c≠b:=fun c hcs hn hcb=>by
  subst hcb
  rcases hb with h' | h'
  ·exact hn ⟨l,hlt,h'⟩
  ·omega
 have hB:=h.B
 have hbs:b<w'.heap.size:=(Array.getElem?_eq_some_iff.1 hrow).1
 rw [List.length_set]
 refine ⟨⟨hle,hsize,fun c hc hn=>hold c (by omega) (hnt c (by omega) hn),fun _ _ _=>rfl,fun _ _=>rfl,fun c hc=>?_,hio⟩,⟨⟨?_, ?_,h.base.glob.mono hle⟩, ?_,by omega⟩⟩
 ·rcases htk c hc with h' | h'
  ·exact .inl h'
  ·exact .inr (by omega)
 ·refine ⟨fun c o' u hu=>?_,fun c es hc=>?_⟩
  ·have hcb:c≠b:=fun hcb=>by subst hcb;have:g.m c o'=some u:=hu;rw [hnc.m o'] at this;cases this
   rw [World.cell?_of_block (hold c (cell_lt (h.base.imm.m c o' u hu)) hcb)];exact h.base.imm.m c o' u hu
  ·have hcb:c≠b:=fun hcb=>by subst hcb;have:g.mm c=some es:=hc;rw [hnc.mm] at this;cases this
   exact (h.base.imm.mm c es hc).keep (hold c (h.base.imm.mm c es hc).lt hcb)
 ·refine h.base.heap.setAt hlt hle (fun l' _ hne=>by simp [aj.bufNext,hne]) hbl (fun c hc=>?_) hsize (fun c hcs hnc'=>?_) ?_
  ·rcases hbl c hc with h' | h'
   ·exact Nat.lt_of_lt_of_le (h.base.heap.lt l c hlt h') hsize
   ·rcases hc with hc|⟨k,u,hk,hu⟩
    ·have:c<w.heap.size:=h.base.heap.lt l c hlt (.inl hc);omega
    ·simp only [aj.bufNext,if_true] at hk
     split at hk
     ·cases hk;simp [v,dO] at hu;subst hu;exact hbs
     ·have:c<w.heap.size:=h.base.heap.lt l c hlt (.inr ⟨k,u,hk,hu⟩);omega
  ·have hne:c≠b:=fun hcb=>by
    subst hcb
    rcases hb with h' | h'
    ·exact hnc' h'
    ·omega
   exact ⟨hold c hcs hne,rfl,rfl⟩
  ·refine ⟨b,off,len,cap,cur,by simp [aj.bufNext,v],fun k hk=>?_,⟨hnc.m,hnc.mm⟩,hlen,hlc,hmax,q7,hrow,hfit,hr.mono hle,h1⟩
   simp only [aj.bufNext,if_true];rw [if_neg (by omega)];exact q2 k (by omega)
 ·rw [List.length_set]
  refine h.env.next hle (fun j x hj hx c hcj=>?_)
  have hcs:=Aj h.env hj hx hcj
  have hne:=hnt c hcs (h.env.off j x hj hx c hcj)
  refine ⟨hold c hcs hne,rfl,rfl,fun ht=>?_⟩
  rcases htk c ht with h' | h'
  ·exact h'
  ·omega
theorem acF {t ty el:TypeId} {i:TypeInfo} {z:Value} {sz n m c b off:Nat} {xs news:List Value} {x:Value} {cur:Array Value} (ht:P.underlying t=some (.slice el))
  (hi:P.info? el=some i) (hz:i.zero=some z) (hsz:i.size=sz) (hzs:z.cells.size=sz) (hpos:0<m) (hrow:w.heap[b]?=some (.cells cur el (0,0))) (hfit:off+c * sz≤cur.size) (hnc:n≤c) (hcm:c≤maxLen)
  (hxs:xs=(cur.toList.drop off).take (n * sz)) (hx:Src P w sz x m news) (hmax:n+m≤eu) (hby:i.bytes≤65536):
  ∃b' off' c' cur' w',(Builtin.append_ #[t,t] ty #[.slice (some ⟨b,off,none⟩) n c,x]).run P w=.ok (.slice (some ⟨b',off',none⟩) (n+m) c') w'∧w'.heap[b']?=some (.cells cur' el (0,0))∧n+m≤c'∧c'≤maxLen∧
   off'+c' * sz≤cur'.size∧(cur'.toList.drop off').take ((n+m) * sz)=xs++news∧(b'=b∨w.heap.size≤b')∧(∀k,k<w.heap.size→k≠b'→w'.heap[k]?=w.heap[k]?)∧w.heap.size≤w'.heap.size∧w'.os=w.os∧w'.output=w.output∧TD w w':=by
 subst hsz
 have hmax':n+m≤1073741824:=hmax
 have hnc2:=Nat.mul_le_mul_right i.size hnc
 have hxl:xs.length=n * i.size:=by rw [hxs];simp;omega
 have hlen:(xs++news).length=(n+m) * i.size:=by rw [List.length_append,hxl,hx.size,Nat.add_mul]
 have hca:qG w b off xs:=by
  rw [hxs]
  have:=((rZ hrow).drop off).take (n * i.size)
  simpa using this
 by_cases hroom:n+m≤c
 ·have hrm:=Nat.mul_le_mul_right i.size hroom
  rw [Nat.add_mul] at hrm
  have hnl:=hx.size
  have hst:=run_storeCells_at P b (off+n * i.size) el news 0 cur w hrow (by omega) hx.one
  simp only [Nat.add_zero] at hst
  refine ⟨b,off,c,_,w.setRow b (cur.toList.take (off+n * i.size)++news++cur.toList.drop (off+n * i.size+news.length)).toArray, ?_,jE hrow,hroom,hcm, ?_, ?_,.inl rfl,fun k _ hk=>bg _ hk,by simp,rfl,rfl,⟨rfl,Nat.le_refl _⟩⟩
  ·simp [Builtin.append_,run_underlying ht,sizeOf,typeInfo,hi,hx.len,hroom,hx.cells w rfl,Addr.add_lit,hst]
  ·simp;omega
  ·rw [←hlen,hxs]
   simp only [List.toList_toArray]
   apply List.ext_getElem?
   intro j
   simp only [List.getElem?_take,List.getElem?_drop,List.getElem?_append,List.length_append,List.length_take,List.length_drop,Array.length_toList]
   by_cases c1:j<n * i.size
   ·simp [c1,show j<min (n * i.size) (cur.size - off)+news.length by omega,show off+j<min (off+n * i.size) cur.size+news.length by omega,show off+j<min (off+n * i.size) cur.size by omega,show j<min (n * i.size) (cur.size - off) by omega]
   ·by_cases c2:j<n * i.size+news.length
    ·simp [show j<min (n * i.size) (cur.size - off)+news.length by omega,show off+j<min (off+n * i.size) cur.size+news.length by omega,show ¬off+j<min (off+n * i.size) cur.size by omega,show ¬j<min (n * i.size) (cur.size - off) by omega]
     congr 1;omega
    ·simp [show ¬j<min (n * i.size) (cur.size - off)+news.length by omega,show ¬j<min (n * i.size) (cur.size - off) by omega]
     omega
 ·have hge:=grownCap_ge w (n+m) c el
  have h48:¬(281474976710656<Builtin.nextslicecap (n+m) c * i.bytes):=by
   have h1:=nextslicecap_le (show c<n+m by omega)
   have h2:Builtin.nextslicecap (n+m) c * i.bytes≤2147483648 * 65536:=Nat.mul_le_mul (by omega) hby
   omega
  have h63:¬(9223372036854775807<((n:Int)+(m:Int))):=by omega
  have hfo:(Builtin.firstCells i.size n (.slice (some ⟨b,off,none⟩) n c)).run P w.drew=.ok xs.toArray w.drew:=xI hxl hca
  refine ⟨w.heap.size,0,grownCap w (n+m) c el,xs.toArray++news.toArray++Builtin.zeroCells z.cells (grownCap w (n+m) c el - (n+m)),w.drew.alloc (.cells (xs.toArray++news.toArray++Builtin.zeroCells z.cells (grownCap w (n+m) c el - (n+m))) el), ?_,heap_alloc_new w.drew _,hge,grownCap_le_maxLen w _ _ _ (by simp only [maxLen];omega), ?_, ?_,.inr (Nat.le_refl _),fun k hk _=>heap_alloc_old w.drew _ k hk,show w.heap.size≤(w.heap.push _).size by simp,rfl,rfl,⟨rfl,Nat.le_succ _⟩⟩
  ·simp [Builtin.append_,run_underlying ht,sizeOf,typeInfo,zeroValue,hi,hz,hx.len,hroom,h63,h48,Question.forced,hfo,hx.cells w.drew rfl,newRow,grownCap]<;>(congr 2;apply Array.ext';simp [List.append_assoc])
  ·simp only [Nat.zero_add,Array.size_append,List.size_toArray,size_zeroCells,hzs]
   rw [hxl,hx.size,←Nat.add_mul,←Nat.add_mul]
   refine Nat.le_of_eq ?_
   congr 1;omega
  ·rw [←hlen]
   simp only [List.drop_zero,Array.toList_append]
   rw [List.take_left']
   rfl
theorem TQ {t ty el:TypeId} {i:TypeInfo} {z:Value} {sz m:Nat} {ad:Addr} {news:List Value} {x:Value} (ht:P.underlying t=some (.slice el))
  (hi:P.info? el=some i) (hz:i.zero=some z) (hsz:i.size=sz) (hzs:z.cells.size=sz) (hpos:0<m) (hx:Src P w sz x m news) (hmax:m≤eu) (hby:i.bytes≤65536):
  ∃b' off' c' cur' w',(Builtin.append_ #[t,t] ty #[.slice (some ad) 0 0,x]).run P w=.ok (.slice (some ⟨b',off',none⟩) m c') w'∧w'.heap[b']?=some (.cells cur' el (0,0))∧m≤c'∧c'≤maxLen∧
   off'+c' * sz≤cur'.size∧(cur'.toList.drop off').take (m * sz)=news∧w.heap.size≤b'∧(∀k,k<w.heap.size→k≠b'→w'.heap[k]?=w.heap[k]?)∧w.heap.size≤w'.heap.size∧w'.os=w.os∧w'.output=w.output∧TD w w':=by
 subst hsz
 have hmax':m≤1073741824:=hmax
 have hge:=grownCap_ge w m 0 el
 have h48:¬(281474976710656<Builtin.nextslicecap m 0 * i.bytes):=by
  have h1:=nextslicecap_le (show 0<m by omega)
  have h2:Builtin.nextslicecap m 0 * i.bytes≤2147483648 * 65536:=Nat.mul_le_mul (by omega) hby
  omega
 have h63:¬(9223372036854775807<(m:Int)):=by omega
 have hm:m≠0:=by omega
 have hfo:(Builtin.firstCells i.size 0 (.slice (some ad) 0 0)).run P w.drew=.ok #[] w.drew:=by
  simpa [Builtin.firstCells] using run_loadCells_list (P:=P) w.drew ad [] (fun j v hv=>by simp at hv)
 refine ⟨w.heap.size,0,grownCap w m 0 el,news.toArray++Builtin.zeroCells z.cells (grownCap w m 0 el - m),w.drew.alloc (.cells (news.toArray++Builtin.zeroCells z.cells (grownCap w m 0 el - m)) el), ?_,heap_alloc_new w.drew _,hge,grownCap_le_maxLen w _ _ _ (by simp only [maxLen];omega), ?_, ?_,Nat.le_refl _,fun k hk _=>heap_alloc_old w.drew _ k hk,show w.heap.size≤(w.heap.push _).size by simp,rfl,rfl,⟨rfl,Nat.le_succ _⟩⟩
 ·simp [Builtin.append_,run_underlying ht,sizeOf,typeInfo,zeroValue,hi,hz,hx.len,hm,h63,h48,Question.forced,hfo,hx.cells w.drew rfl,newRow,grownCap]
 ·simp only [Nat.zero_add,Array.size_append,List.size_toArray,size_zeroCells,hzs]
  rw [hx.size,←Nat.add_mul]
  refine Nat.le_of_eq ?_
  congr 1;omega
 ·rw [←hx.size]
  simp only [List.drop_zero,Array.toList_append]
  rw [List.take_left']
  rfl
theorem abw {el sz:Nat} {x y:IX} (h:Sim P glob g s B w (Act.tm a) env) (hc:aU P o.op (.appk el sz x y)=true) (hr:aop glob call cx env s (.appk el sz x y)=.ok e env' s'):Good P glob g s B w a (execOp a.eval o) e env' s':=by
 simp only [aU] at hc
 split at hc
 ·rename_i c hop
  split at hc
  ·rename_i ts x' y' hcal hargs
   split at hc
   ·rename_i t t' htys
    simp only [Bool.and_eq_true,beq_iff_eq] at hc
    obtain ⟨⟨⟨⟨rfl,hx⟩,hy⟩,hsl⟩,hinf⟩:=hc
    obtain ⟨hu,hsz⟩:=xH hsl
    obtain ⟨i,hi,hisz⟩:=wZ hsz
    rw [hi] at hinf
    simp only [Option.any_some,Bool.and_eq_true,decide_eq_true_eq] at hinf
    obtain ⟨hby,hzz⟩:=hinf
    cases hz:i.zero with
    | none=>simp [hz] at hzz
    | some z=>
    simp [hz] at hzz
    simp only [aop] at hr
    split at hr
    ·-- a new row
     rename_i ys hys hxv
     split at hr
     ·rename_i hcond
      obtain ⟨hpos,hlen,hall,hmax⟩:=hcond
      cases hr
      have hall':∀y∈ys,y.cells.length=sz:=fun y hy=>by simpa using List.all_eq_true.1 hall y hy
      obtain ⟨news,q1,q2⟩:=vG hy h hys hall'
      have hx0:a.eval x'=.slice none 0 0:=by
       have:=xB (a:=a) hx h.env h.base.glob hxv
       generalize a.eval x'=ax at this
       cases this;rfl
      obtain ⟨v',w',r1,r2,r3⟩:=O9 (ty:=o.type) (B:=0) hu hu (.inl ⟨_,rfl⟩) hi hz hisz hzz (World.ownsRow_nil w 0 el sz) q1 (by simpa using hmax) hby (Nat.zero_le _)
      simp only [Nat.zero_add,List.nil_append] at r2
      have hrun:(execOp a.eval o).run P w=.ok (.value v') w':=oh hop hcal hargs htys (by rw [hx0];exact r1)
      rcases r3 with ⟨gb,cur,e1,_⟩|⟨hgrew,hfresh⟩
      ·simp [dO] at e1
      ·rcases r2.2 with ⟨_,hn⟩|⟨gb,cap,cur,hv,_,hg,hcap,hcm,hcs,htake⟩
       ·omega
       ·have hfl:(ys.flatMap AV.cells).length=ys.length * sz:=rH hall'
        obtain ⟨st,sm,hle⟩:=aax (t:=el) (sz:=sz) (len:=ys.length) (cap:=cap) (off:=0) h hgrew (hfresh gb (by simp [hv,dO])) hg hfl hcap hcm hpos (by omega) (by rw [hfl,List.drop_zero,htake];exact q2) (by rw [hfl,List.drop_zero,htake];exact q1.one)
        refine ⟨v',w',_,.inl hrun,st,sm,.v ?_⟩
        rw [hv]
        simpa using Rep.sk (g:=g.bufAt s.length gb (.slice (some ⟨gb,0,none⟩) ys.length cap)) (n:=(s++[dZ.buf el sz 0 (ys.flatMap AV.cells)]).length) s.length 0 sz 0 ys.length gb 0 ys.length cap cap (by simp) (by simp [aj.bufAt]) (by omega) hcap (by omega)
     ·cases hr
    ·-- a new row,behind an empty one
     rename_i ys hys hxv
     split at hr
     ·rename_i hcond
      obtain ⟨hpos,hlen,hall,hmax⟩:=hcond
      cases hr
      have hall':∀y∈ys,y.cells.length=sz:=fun y hy=>by simpa using List.all_eq_true.1 hall y hy
      obtain ⟨news,q1,q2⟩:=vG hy h hys hall'
      obtain ⟨ad,hx0⟩:∃ad,a.eval x'=.slice (some ad) 0 0:=by
       have:=xB (a:=a) hx h.env h.base.glob hxv
       generalize a.eval x'=ax at this
       cases this;exact ⟨_,rfl⟩
      obtain ⟨b',off',c',cur',w',e1,e2,e3,e4,e5,e6,e7,e8,e9,e10,e11,e12⟩:=TQ (ty:=o.type) (ad:=ad) hu hi hz hisz hzz hlen q1 (by omega) hby
      have hrun:(execOp a.eval o).run P w=.ok (.value _) w':=oh hop hcal hargs htys (by rw [hx0];exact e1)
      have hfl:(ys.flatMap AV.cells).length=ys.length * sz:=rH hall'
      obtain ⟨st,sm,hle⟩:=aax (t:=el) (sz:=sz) (len:=ys.length) (cap:=c') (off:=off') h ⟨e9,fun k hk=>e8 k hk (by omega),e10,e11,fun _=>e12⟩ e7 e2 hfl e3 e4 hpos e5 (by rw [hfl,e6];exact q2) (by rw [hfl,e6];exact q1.one)
      refine ⟨_,w',_,.inl hrun,st,sm,.v ?_⟩
      simpa using Rep.sk (g:=g.bufAt s.length b' (.slice (some ⟨b',off',none⟩) ys.length c')) (n:=(s++[dZ.buf el sz 0 (ys.flatMap AV.cells)]).length) s.length 0 sz 0 ys.length b' off' ys.length c' c' (by simp) (by simp [aj.bufAt]) (by omega) e3 (by omega)
     ·cases hr
    ·-- a row that is there
     rename_i ys l ver sz2 o2 m hys hxv
     split at hr
     ·rename_i t2 sz3 ver2 cs hl
      split at hr
      ·rename_i hcond
       obtain ⟨rfl,rfl,rfl,rfl,hlen,hall,hmax,hfit0,_,_⟩:=hcond
       cases hr
       have hall':∀y∈ys,y.cells.length=sz2:=fun y hy=>by simpa using List.all_eq_true.1 hall y hy
       obtain ⟨news,q1,q2⟩:=vG hy h hys hall'
       have hlt:l<s.length:=(List.getElem?_eq_some_iff.1 hl).1
       obtain ⟨b,off,len,cap,cur,p1,p2,p3,p4,p5,p6,p7,p8,p9,p10,p11⟩:=h.base.heap.obj l _ hl
       have hrep:=xB (a:=a) hx h.env h.base.glob hxv
       have hcsl:cs.length≤cap * sz2:=by rw [p4];exact Nat.mul_le_mul_right sz2 p5
       have hfl:(ys.flatMap AV.cells).length=ys.length * sz2:=rH hall'
       have hcl:((cs.drop o2).take (m * sz2)++ys.flatMap AV.cells).length=(m+ys.length) * sz2:=by
        rw [List.length_append,hfl,Nat.add_mul];simp;omega
       -- the common end
       have fin:∀b' off' c' cur' w',(Builtin.append_ #[t,t] o.type #[a.eval x',a.eval y']).run P w=.ok (.slice (some ⟨b',off',none⟩) (m+ys.length) c') w'→w'.heap[b']?=some (.cells cur' el (0,0))→m+ys.length≤c'→c'≤maxLen→
         off'+c' * sz2≤cur'.size→(cur'.toList.drop off').take ((m+ys.length) * sz2)=(((cur.toList.drop off).take cs.length).drop o2).take (m * sz2)++news→(b'=b∨w.heap.size≤b')→(∀k,k<w.heap.size→k≠b'→w'.heap[k]?=w.heap[k]?)→w.heap.size≤w'.heap.size→w'.os=w.os→w'.output=w.output→TD w w'→
         Good P glob g s B w a (execOp a.eval o) (.v (.sk l (ver+1) sz2 0 (m+ys.length))) env (s.set l (dZ.buf el sz2 (ver+1) ((cs.drop o2).take (m * sz2)++ys.flatMap AV.cells))):=by
        intro b' off' c' cur' w' e1 e2 e3 e4 e5 e6 e7 e8 e9 e10 e11 e12
        have hbl:g.bl l b'∨w.heap.size≤b':=e7.imp (fun hb=>by subst hb;exact .inr ⟨ver,_,p1,rfl⟩) id
        have hnc:pK g b':=by
         rcases e7 with rfl|hb
         ·exact p3
         ·exact h.base.imm.fresh hb
        have hone:gY ((((cur.toList.drop off).take cs.length).drop o2).take (m * sz2)++news):=fun u hu=>(List.mem_append.1 hu).elim (((p11.drop o2).take _) u) (q1.one u)
        obtain ⟨st,sm⟩:=adX (len:=m+ys.length) h hl hbl e8 e9 ⟨e10,e11,fun _=>e12⟩ hnc e2 hcl e3 e4 e5 (by rw [hcl,e6];exact ((p10.drop o2).take _).append q2) (by rw [hcl,e6];exact hone)
        have hrun:(execOp a.eval o).run P w=.ok (.value _) w':=oh hop hcal hargs htys e1
        refine ⟨_,w',_,.inl hrun,st,sm,.v ?_⟩
        simpa using Rep.sk (g:=g.bufNext l (ver+1) (.slice (some ⟨b',off',none⟩) (m+ys.length) c')) (n:=(s.set l (dZ.buf el sz2 (ver+1) ((cs.drop o2).take (m * sz2)++ys.flatMap AV.cells))).length) l (ver+1) sz2 0 (m+ys.length) b' off' (m+ys.length) c' c' (by simpa using hlt) (by simp [aj.bufNext]) (by omega) e3 (by omega)
       generalize hax:a.eval x'=ax at hrep fin
       cases hrep with
       | skE _ _ _ _ ad hk=>
        obtain ⟨b',off',c',cur',w',e1,e2,e3,e4,e5,e6,e7,e8,e9,e10,e11,e12⟩:=TQ (ty:=o.type) (ad:=ad) hu hi hz hisz hzz hlen q1 (by omega) hby
        refine fin b' off' c' cur' w' (by simpa using e1) e2 (by omega) e4 e5 ?_ (.inr e7) e8 e9 e10 e11 e12
        simpa using e6
       | sk _ _ _ _ _ b1 off1 len1 cap1 c1 hk hh ho hc2 hcc=>
        rw [p1] at hh
        cases hh
        obtain ⟨b',off',c',cur',w',e1,e2,e3,e4,e5,e6,e7,e8,e9,e10,e11,e12⟩:=acF (ty:=o.type) (off:=off+o2) (n:=m) (c:=c1) hu hi hz hisz hzz hlen p8 (by omega) hc2 (by
         have:c1 * sz2≤cap * sz2:=by omega
         have:=Nat.le_of_mul_le_mul_right this p7
         omega) rfl q1 hmax hby
        refine fin b' off' c' cur' w' e1 e2 e3 e4 e5 ?_ e7 e8 e9 e10 e11 e12
        rw [e6]
        congr 1
        rw [List.drop_take,List.take_take,List.drop_drop,Nat.min_eq_left (by omega)]
      ·cases hr
     ·cases hr
    ·cases hr
   ·cases hc
  ·cases hc
 ·cases hc
theorem Vm {zs:Array Value} {sz:Nat} (hz:zs.size=sz) (hpos:0<sz) (n:Nat):(madeCells zs (n * sz)).toList=(List.replicate n zs.toList).flatten:=by
 apply List.ext_getElem?
 intro j
 have key:∀n j,(List.replicate n zs.toList).flatten[j]?=if j<n * sz then zs[j % sz]? else none:=by
  intro n
  induction n with
  | zero=>intro j;simp
  | succ n ih=>
   intro j
   rw [List.replicate_succ,List.flatten_cons,List.getElem?_append]
   simp only [Array.length_toList,hz]
   by_cases hj:j<sz
   ·rw [if_pos hj,if_pos (by rw [Nat.succ_mul];omega),Nat.mod_eq_of_lt hj];simp
   ·rw [if_neg hj,ih,Nat.succ_mul]
    by_cases h2:j - sz<n * sz
    ·rw [if_pos h2,if_pos (by omega),Nat.mod_eq_sub_mod (a:=j) (b:=sz) (by omega)]
    ·rw [if_neg h2,if_neg (by omega)]
 rw [key]
 by_cases hj:j<n * sz
 ·rw [if_pos hj]
  have hm:j % sz<zs.size:=by rw [hz];exact Nat.mod_lt _ hpos
  simp [madeCells,hj,hz,hm]
  rw [Array.getElem?_eq_getElem hm]
  simp [hm,getElem!_pos]
 ·rw [if_neg hj];simp [madeCells];omega
theorem Fz {vs:List Value} {as:List AV} {N:Nat} (h:dF g N vs as):∀n,dF g N (List.replicate n vs).flatten (List.replicate n as).flatten
 | 0=>.nil _ _
 | n+1=>by rw [List.replicate_succ,List.replicate_succ,List.flatten_cons,List.flatten_cons];exact h.append (Fz h n)
theorem QF {α:Type} (L F:List α) (a o n:Nat) (h1:o+F.length≤n) (h2:a+n≤L.length):
  ((L.take (a+o)++F++L.drop (a+o+F.length)).drop a).take n=((L.drop a).take n).take o++F++((L.drop a).take n).drop (o+F.length):=by
 apply List.ext_getElem?
 intro i
 simp only [List.getElem?_take,List.getElem?_drop,List.getElem?_append,List.length_append,List.length_take,List.length_drop]
 have e1:min (a+o) L.length=a+o:=by omega
 have e2:min o (min n (L.length - a))=o:=by omega
 rw [e1,e2]
 (repeat' split)<;>first|rfl|omega | (congr 1;omega)
theorem abV {tm:Nat→Value} (h:Sim P glob g s B w tm env) {l o ty sz ver:Nat} {cs:List AV} (hl:s[l]?=some (.buf ty sz ver cs))
  {b off len cap:Nat} (hh:g.hist l ver=some (.slice (some ⟨b,off,none⟩) len cap)) {us:List Value} {vs:List AV} (r1:dF g s.length us vs) (r2:gY us) (hfit:o+vs.length≤cs.length):
  ∃w',(storeCells ⟨b,off+o,none⟩ us 0).run P w=.ok () w'∧Step True g s.length B w g s.length w'∧Sim P glob g (s.set l (.buf ty sz ver (splice cs o vs))) B w' tm env:=by
 have hlt:l<s.length:=(List.getElem?_eq_some_iff.1 hl).1
 obtain ⟨b',off',len',cap',cur,q1,q2,q3,q4,q5,q6,q7,q8,q9,q10,q11⟩:=h.base.heap.obj l _ hl
 rw [hh] at q1
 cases q1
 have hul:us.length=vs.length:=r1.1
 have hlc:cs.length≤cap * sz:=by rw [q4];exact Nat.mul_le_mul_right sz q5
 have hbl:g.bl l b:=.inr ⟨ver,_,hh,rfl⟩
 have hst:=run_storeCells_at P b (off+o) ty us 0 cur w q8 (by omega) r2
 refine ⟨_,hst,⟨.refl _ _,by simp,fun c hc hcl=>bg _ (fun hcb=>hcl (by subst hcb;exact ⟨l,hlt,hbl⟩)),fun _ _ _=>rfl,fun _ _=>rfl,fun b hb=>.inl hb,rfl,rfl,fun _=>⟨rfl,Nat.le_refl _⟩⟩,⟨⟨?_, ?_,h.base.glob⟩, ?_,by simpa using h.B⟩⟩
 ·refine ⟨fun c o' v' hv'=>?_,fun c es hc=>?_⟩
  ·have hcb:c≠b:=fun hcb=>by subst hcb;rw [q3.m o'] at hv';cases hv'
   rw [World.cell?_of_block (bg _ hcb)];exact h.base.imm.m c o' v' hv'
  ·have hcb:c≠b:=fun hcb=>by subst hcb;rw [q3.mm] at hc;cases hc
   exact (h.base.imm.mm c es hc).keep (bg _ hcb)
 ·refine h.base.heap.setAt hlt (.refl _ _) (fun _ _ _=>rfl) (fun b hb=>.inl hb) (fun b hb=>by simpa using h.base.heap.lt l b hlt hb) (by simp) (fun c _ hc=>⟨bg _ (fun hcb=>hc (by subst hcb;exact hbl)),rfl,rfl⟩) ?_
  have hsl:(splice cs o vs).length=cs.length:=by simp [splice];omega
  have hpart:=QF cur.toList us off o cs.length (by omega) (by simp;omega)
  refine ⟨b,off,len,cap,_,hh,q2,q3,by omega,q5,q6,q7,jE q8,by simp;omega, ?_, ?_⟩
  ·rw [hsl];simp only [List.toList_toArray,Nat.add_zero];rw [hpart];exact xk q10 r1 o
  ·rw [hsl];simp only [List.toList_toArray,Nat.add_zero];rw [hpart];exact tX q11 r2 o _
 ·simp only [List.length_set]
  refine h.env.next (.refl _ _) (fun k e hk ho c hc=>⟨bg _ (fun hcb=>?_),rfl,rfl,fun ht=>ht⟩)
  exact h.env.off k e hk ho c hc (by subst hcb;exact ⟨l,hlt,hbl⟩)
theorem abu {zs:List AV} {x:IX} (h:Sim P glob g s B w (Act.tm a) env) (hc:aU P o.op (.clrk zs x)=true) (hr:aop glob call cx env s (.clrk zs x)=.ok e env' s'):Good P glob g s B w a (execOp a.eval o) e env' s':=by
 simp only [aU] at hc
 split at hc
 case h_2=>cases hc
 rename_i c hop
 split at hc
 case h_2=>cases hc
 rename_i x' t hcal hargs htys
 simp only [Bool.and_eq_true] at hc
 obtain ⟨hx,hz⟩:=hc
 split at hz
 case h_2=>cases hz
 rename_i el hu
 obtain ⟨i,z,hi,hzz,hok⟩:=yV hz
 obtain ⟨z1,z2⟩:=xU hok g s.length
 have ha:c.args.map a.eval=#[a.eval x']:=by apply Array.toList_inj.1;simp [hargs]
 have ht:c.argTypes=#[t]:=by apply Array.toList_inj.1;simp [htys]
 have hex:=zN (a:=a) hop hcal
 rw [ha,ht] at hex
 simp only [aop] at hr
 split at hr
 case h_2=>cases hr
 rename_i l ver sz o' m hxv
 have hrep:=aP (a:=a) hx h.env h.base.glob hxv
 have htu:Rep g s.length (.tuple #[]) (.tu []):=.tu #[] [] rfl (fun i hi=>by simp at hi)
 split at hr
 ·cases hr
  refine .val h ?_ htu
  rw [hex]
  refine aZ ?_
  generalize a.eval x'=ax at hrep
  cases hrep with
  | sk _ _ _ _ _ b off len cap c hl hh ho hc hcc=>simp [builtin,Builtin.clear_,run_underlying hu]
  | skE _ _ _ _ ad hl=>simp [builtin,Builtin.clear_,run_underlying hu]
 ·rename_i n ty sz' ver' cs hl
  split at hr
  case isFalse=>cases hr
  rename_i hcond
  obtain ⟨rfl,rfl,hpos,hzl,hfit,_,_⟩:=hcond
  cases hr
  have hzsz:z.cells.size=sz:=by have:=z1.1;simp at this;omega
  have hflat:(Builtin.zeroCells z.cells (n+1)).toList=(List.replicate (n+1) z.cells.toList).flatten:=by
   have:=Vm hzsz hpos (n+1)
   rw [←this]
   simp [Builtin.zeroCells,madeCells,hzsz]
  generalize hax:a.eval x'=ax at hrep
  cases hrep with
  | sk _ _ _ _ _ b off len cap c hl2 hh ho hc hcc=>
   obtain ⟨w',q1,q2,q3⟩:=abV (us:=(List.replicate (n+1) z.cells.toList).flatten) h hl hh (Fz z1 (n+1)) (by
    intro v hv
    simp only [List.mem_flatten,List.mem_replicate] at hv
    obtain ⟨l',⟨_,rfl⟩,hv⟩:=hv
    exact z2 v hv) (by simp only [List.length_flatten,List.map_replicate,List.sum_replicate_nat,hzl];omega)
   refine ⟨.tuple #[],w',g,.inl ?_,by simpa using q2,q3,.v (by simpa using htu)⟩
   rw [hex]
   refine aZ ?_
   rw [hax]
   simp [builtin,Builtin.clear_,run_underlying hu,zeroValue,typeInfo,hi,hzz,hflat,q1]
 ·cases hr
end Go.Ai
namespace Go.Ai
variable {P:Program} {glob:Nat→Option (List AV)} {g:aj} {s:St} {B:Nat} {w:World} {env:Env} {a:Act} {call:AV→List AV→St→Ctx→CO} {cx:Ctx} {o:Oper} {e:EV} {env':Env} {s':St}
end Go.Ai
namespace Go.Ai
variable {P:Program} {glob:Nat→Option (List AV)} {g:aj} {s:St} {B:Nat} {w:World} {env:Env} {a:Act} {call:AV→List AV→St→Ctx→CO} {cx:Ctx} {o:Oper} {e:EV} {env':Env} {s':St}
theorem adF (h:Sim P glob g s B w (Act.tm a) env) (hc:aU P o.op .bse=true) (hr:aop glob call cx env s .bse=.ok e env' s'):Good P glob g s B w a (execOp a.eval o) e env' s':=by
 simp only [aU] at hc
 split at hc
 case h_2=>cases hc
 rename_i t qs hop
 simp only [Bool.and_eq_true] at hc
 obtain ⟨hq,hc⟩:=hc
 have hqs:qs=#[]:=by
  apply Array.toList_inj.1
  simpa using hq
 subst hqs
 simp only [aop] at hr
 cases hr
 cases hu:P.underlying t with
 | none=>simp [hu] at hc
 | some d=>
  cases d<;>simp only [hu] at hc<;>(try (cases hc;done))
  rename_i el
  cases hi:P.info? el with
  | none=>simp [hi] at hc
  | some i=>
   have hsz:oU P el i.size=true:=by simp [oU,hi]
   have hrun:(Instr.buildSlice t 0 #[]).run P w=.ok (.slice (some ⟨w.heap.size,0,none⟩) 0 0) (w.alloc (.cells #[] el)):=by
    simp [Instr.buildSlice,Sem.run_bind,run_underlying hu,run_sizeOf hsz,newRow,Instr.fill,Array.range_zero']
   obtain ⟨h2,s2⟩:=h.grew (Grew.alloc (qt:=True) w (.cells #[] el))
   refine ⟨.slice (some ⟨w.heap.size,0,none⟩) 0 0,_,g,.inl ?_,s2,h2,.v (.se _)⟩
   simp only [execOp,hop]
   exact aZ (by simpa using hrun)
theorem XE {n:Nat} {x y:IX} (h:Sim P glob g s B w (Act.tm a) env) (hc:aU P o.op (.storep n x y)=true) (hr:aop glob call cx env s (.storep n x y)=.ok e env' s'):Good P glob g s B w a (execOp a.eval o) e env' s':=by
 have hc':aU P o.op (.store n x y)=true:=by simpa only [aU] using hc
 refine Jc (cx:=cx) (call:=call) h hc' ?_
 simp only [aop] at hr ⊢
 split at hr
 ·rename_i av xv ha hx
  have he:Kz glob env y=some (xv,env):=by unfold Kz;rw [hx]
  rw [he]
  simp only []
  split at hr
  ·rename_i env1 s1 hst
   cases hr
   have:env1=env:=by
    unfold vP at hst
    rw [ha] at hst
    split at hst
    ·cases av<;>simp only [] at hst<;>(try (cases hst;done))<;>(split at hst<;>(try (cases hst;done))<;>(split at hst<;>cases hst<;>rfl))
    ·cases hst
   subst this
   simp [hst]
  ·cases hr
 ·cases hr
theorem aaE {k1 k2:List UInt8} {v:AV} (es:List (List UInt8×AV)):BQ k1 v (BQ k2 v es)=BQ k2 v (BQ k1 v es):=by
 have main:∀k1 k2:List UInt8,k1<k2→∀es,BQ k1 v (BQ k2 v es)=BQ k2 v (BQ k1 v es):=by
  intro k1 k2 hlt es
  have hne:k1≠k2:=fun h=>by subst h;exact List.lt_irrefl k1 hlt
  have hnlt:¬k2<k1:=List.lt_asymm hlt
  induction es with
  | nil=>simp [BQ,hne,Ne.symm hne,hlt,hnlt]
  | cons p r ih=>
   obtain ⟨k',v'⟩:=p
   by_cases c1:k1=k'
   ·subst c1
    simp [BQ,hne,Ne.symm hne,hlt,hnlt]
   ·by_cases c2:k1<k'
    ·by_cases c3:k2=k'
     ·subst c3;simp [BQ,hne,Ne.symm hne,hlt,hnlt]
     ·by_cases c4:k2<k'<;>simp [BQ,c1,c2,c3,c4,hne,Ne.symm hne,hlt,hnlt]
    ·have c5:k'<k1:=by
      rcases List.le_iff_lt_or_eq.1 (List.not_lt.1 c2) with h|h
      ·exact h
      ·exact absurd h.symm c1
     have c6:k'<k2:=List.lt_trans c5 hlt
     have c7:k2≠k':=fun h=>by subst h;exact List.lt_irrefl k2 c6
     have c8:¬k2<k':=List.lt_asymm c6
     simp [BQ,c1,c2,c7,c8,ih]
 by_cases h1:k1<k2
 ·exact main k1 k2 h1 es
 ·by_cases h2:k1=k2
  ·subst h2;rfl
  ·have:k2<k1:=by
    rcases List.le_iff_lt_or_eq.1 (List.not_lt.1 h1) with h|h
    ·exact h
    ·exact absurd h.symm h2
   exact (main k2 k1 this es).symm
end Go.Ai
namespace Go.Ai
variable {P:Program} {glob:Nat→Option (List AV)} {g:aj} {s:St} {B:Nat} {w:World} {env:Env} {a:Act} {o:Oper} {call:AV→List AV→St→Ctx→CO} {cx:Ctx} {e:EV} {env':Env} {s':St}
theorem NT {t:TypeId} (h:Vw P t=true):∃k,P.underlying t=some (.int k):=by
 unfold Vw at h
 split at h
 ·rename_i k hu;exact ⟨k,hu⟩
 ·cases h
theorem JA {w:World} {t:TypeId} (h:Vw P t=true) {us:Array Value} {i:Nat} {v:Value} (hv:us[i]?=some v):(Go.part t us i).run P w=.ok v w:=by
 obtain ⟨k,hu⟩:=NT h
 obtain ⟨hi,rfl⟩:=Array.getElem?_eq_some_iff.1 hv
 simp [Go.part,isAgg,Sem.run_bind,run_underlying hu,hi]
theorem QY:∀(xs ys:List AV) {r:Bool},uK xs ys=some r→xs.length=ys.length
 | [],[],_,_=>rfl
 | [],_::_,_,h=>by simp [uK] at h
 | x::xs,[],_,h=>by cases x<;>simp [uK] at h
 | x::xs,y::ys,r,h=>by
  cases x<;>(try (simp [uK] at h;done))
  cases y<;>(try (simp [uK] at h;done))
  simp only [uK] at h
  split at h
  ·split at h
   ·rename_i r' h1;simp [QY xs ys h1]
   ·cases h
  ·cases h
theorem Qg {w:World} {d N:Nat} {us vs:Array Value}:∀(fs:List Field) (i:Nat) (xs ys:List AV) {r:Bool},GN P i fs=true→uK xs ys=some r→fs.length=xs.length→
  dF g N (us.toList.drop i) xs→dF g N (vs.toList.drop i) ys→(Op.eqFields (d+1) us vs fs).run P w=.ok r w
 | [],i,xs,ys,r,hf,h,hl,hu,hv=>by
  have:xs=[]:=List.eq_nil_of_length_eq_zero hl.symm
  subst this
  cases ys with
  | nil=>simp [uK] at h;subst h;simp [Op.eqFields]
  | cons y ys=>simp [uK] at h
 | f::fs,i,xs,ys,r,hf,h,hl,hu,hv=>by
  simp only [GN,Bool.and_eq_true,beq_iff_eq,bne_iff_ne] at hf
  obtain ⟨⟨⟨rfl,hn⟩,hs⟩,hf⟩:=hf
  cases xs with
  | nil=>simp at hl
  | cons x xs=>
   cases ys with
   | nil=>cases x<;>simp [uK] at h
   | cons y ys=>
    cases x<;>(try (simp [uK] at h;done))
    cases y<;>(try (simp [uK] at h;done))
    rename_i k p k' q
    simp only [uK] at h
    split at h
    case isFalse=>cases h
    rename_i hkk
    subst hkk
    cases h1:uK xs ys with
    | none=>rw [h1] at h;cases h
    | some r'=>
    rw [h1] at h
    simp only [Option.some.injEq] at h
    have h2:=h
    have tail:∀{us:Array Value} {x:AV} {xs:List AV},dF g N (us.toList.drop f.offset) (x::xs)→∃v,us[f.offset]?=some v∧Rep g N v x∧dF g N (us.toList.drop (f.offset+1)) xs:=by
     intro us x xs hr
     have hlt:f.offset<us.toList.length:=by have:=hr.1;simp at this ⊢;omega
     rw [List.drop_eq_getElem_cons hlt] at hr
     exact ⟨us[f.offset]'(by simpa using hlt),by simp at hlt;simp [hlt],by simpa using hr.head,hr.tail⟩
    obtain ⟨u1,e1,r1,t1⟩:=tail hu
    obtain ⟨v1,e2,r2,t2⟩:=tail hv
    have q1:u1=.int k p:=by cases r1;rfl
    have q2:v1=.int k q:=by cases r2;rfl
    subst q1 q2
    have ih:=Qg (w:=w) (d:=d) fs (f.offset+1) xs ys hf h1 (by simpa using hl) t1 t2
    obtain ⟨kd,hk⟩:=NT hs
    have heq:(Op.equalIn (d+1) f.type (.int k p) (.int k q)).run P w=.ok (p == q) w:=by
     simp [Op.equalIn,run_underlying hk]
    simp only [Op.eqFields,Sem.run_ite,Sem.run_bind,JA hs e1,JA hs e2,Result.andThen_ok,heq]
    rw [if_pos hn]
    cases hpq:(p == q) with
    | true=>
     have:p=q:=by simpa using hpq
     simp [this] at h2
     subst h2
     simpa [hpq] using ih
    | false=>
     have:p≠q:=by simpa using hpq
     rw [hpq] at h2
     simp at h2
     subst h2
     simp
theorem ady {neg:Bool} {n:Nat} {x y:IX} (h:Sim P glob g s B w (Act.tm a) env) (hc:aU P o.op (.ieq neg n x y)=true) (hr:aop glob call cx env s (.ieq neg n x y)=.ok e env' s'):Good P glob g s B w a (execOp a.eval o) e env' s':=by
 simp only [aU] at hc
 split at hc
 ·rename_i b' t x' y' t' hop
  simp only [Bool.and_eq_true] at hc
  obtain ⟨⟨⟨hb,hx⟩,hy⟩,hty⟩:=hc
  simp only [aop] at hr
  split at hr
  ·rename_i p q hp hq
   split at hr
   ·rename_i r hpq
    split at hr
    case isFalse=>cases hr
    rename_i hpn
    cases hr
    have rx:=aP (a:=a) hx h.env h.base.glob hp
    have ry:=aP (a:=a) hy h.env h.base.glob hq
    unfold adg at hty
    split at hty
    ·rename_i fs hu
     simp only [Bool.and_eq_true,Bool.not_eq_true',beq_iff_eq] at hty
     obtain ⟨⟨⟨hsz,hf⟩,hst⟩,hg⟩:=hty
     have hfo:P.fieldsOf t=fs:=by simp [Program.fieldsOf,hu]
     refine .val h ?_ (.b _)
     generalize hxe:a.eval x'=ux at rx
     generalize hye:a.eval y'=uy at ry
     cases rx with
     | ag us _ hl1 _ hr1=>
      cases ry with
      | ag vs _ hl2 _ hr2=>
       have hlen:=QY _ _ hpq
       have key:(Op.equalIn 10000 t (.agg us) (.agg vs)).run P w=.ok r w:=by
        have:=run_equalIn_struct (P:=P) w 9999 t us vs (by rw [hfo];exact hu) hst
        rw [this,hfo]
        refine Qg (g:=g) (N:=s.length) (d:=9998) fs.toList 0 p q hf hpq (by simp;omega) ⟨by simpa using hl1,fun i hi hi'=>?_⟩ ⟨by simpa using hl2,fun i hi hi'=>?_⟩
        ·simp only [List.drop_zero];rw [Array.getElem_toList];exact hr1 i (by simpa using hi) hi'
        ·simp only [List.drop_zero];rw [Array.getElem_toList];exact hr2 i (by simpa using hi) hi'
       simp only [execOp,hop]
       rw [hxe,hye]
       refine aZ ?_
       cases neg with
       | true=>
        simp only [if_true,beq_iff_eq] at hb
        subst hb
        simp [eqGuard,hg,binOp,Op.equal,Op.maxDepth,key]
       | false=>
        simp only [Bool.false_eq_true,if_false,beq_iff_eq] at hb
        subst hb
        simp [eqGuard,hg,binOp,Op.equal,Op.maxDepth,key]
    ·cases hty
   ·cases hr
  ·cases hr
 ·cases hc
end Go.Ai
