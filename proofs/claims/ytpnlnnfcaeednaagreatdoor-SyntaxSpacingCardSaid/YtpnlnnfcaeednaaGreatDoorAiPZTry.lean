/-
 syntax.try calls the function it is given, and answers that nothing went wrong, or the fault with which it panicked.
-/
import Derived.Test.YtpnlnnfcaeednaaGreatDoorAiRn5
import Derived.Test.YtpnlnnfcaeednaaGreatDoorChecked
import Derived.Tactics
import Derived.Tactics2
import Derived.Defers
import Derived.Recover
import Derived.Shelf.Abstract
import Derived.Laws.Pointers
set_option maxRecDepth 100000
set_option linter.unusedSimpArgs false
set_option linter.unusedVariables false
set_option linter.unusedSectionVars false
namespace Go.Proofs
set_option maxRecDepth 100000 in
set_option maxHeartbeats 1000000 in
theorem Tryz.catch_idle (p q:Addr) (w:World):
  CallsD Tryz.prog 135 #[.pointer (some p),.pointer (some q)] .returning w fun e u' w'=>e=.returned (.tuple #[])∧u'=.returning∧w'=w:=by
 refine callsD_of_wpS Tryz.func135 rfl fun c₀ cs hu=>?_
 apply wpS_seq
 apply wpS_region
 simp [wpOpsS,go_sem,recoverD,hu,Tryz.ntmps135,Exit.thenS]
 apply wpS_seq
 apply wpS_region
 simp [wpOpsS,go_sem,recoverD,hu,Exit.thenS]
 refine wpS_cond (t:=false) (by simp [Act.eval,Act.put,Array.replicate]) ?_
 simp only [Bool.false_eq_true,if_false]
 refine wpS_of_wp (wp_skip ?_)
 cases c₀
 simp_all [bodyPostS,results,Tryz.results135,Act.put]
set_option maxRecDepth 100000 in
set_option maxHeartbeats 1000000 in
theorem Tryz.catch_busy (p q:Nat) (x y:Int) (w:World) (h0:w.heap[p]?=some (.cells #[.int .i64 0,.int .i64 0] 112 (0,0))) (h1:w.heap[q]?=some (.cells #[.bool false] 4 (0,0))) (hpq:p≠q):
  CallsD Tryz.prog 135 #[.pointer (some ⟨p,0,none⟩),.pointer (some ⟨q,0,none⟩)] (.panicking [{ v:=.iface 112 (.agg #[.int .i64 x,.int .i64 y]),recovered:=false }]) w fun e u' w'=>
   e=.returned (.tuple #[])∧u'=.panicking [{ v:=.iface 112 (.agg #[.int .i64 x,.int .i64 y]),recovered:=true }]∧w'=((w.setCell ⟨p,0,none⟩ (.int .i64 x)).setCell ⟨p,1,none⟩ (.int .i64 y)).setCell ⟨q,0,none⟩ (.bool true):=by
 refine callsD_of_wpS Tryz.func135 rfl fun c₀ cs hu=>?_
 have c1:w.cell? ⟨p,0,none⟩=some (.int .i64 0):=by simp [World.cell?,h0]
 have c2:w.cell? ⟨p,1,none⟩=some (.int .i64 0):=by simp [World.cell?,h0]
 have c3:w.cell? ⟨q,0,none⟩=some (.bool false):=by simp [World.cell?,h1]
 have f1:w.frozen? ⟨p,0,none⟩=false:=by simp [World.frozen?,h0]
 have f2:w.frozen? ⟨p,1,none⟩=false:=by simp [World.frozen?,h0]
 have f3:w.frozen? ⟨q,0,none⟩=false:=by simp [World.frozen?,h1]
 apply wpS_seq
 apply wpS_region
 simp [wpOpsS,go_sem,recoverD,hu,Tryz.ntmps135,Exit.thenS]
 apply wpS_seq
 apply wpS_region
 simp [wpOpsS,go_sem,recoverD,hu,Exit.thenS]
 refine wpS_cond (t:=true) (by simp [Act.eval,Act.put,Array.replicate]) ?_
 simp only [if_true]
 apply wpS_region
 have hta:∀(v:Value) (w:World),(Instr.typeAssert (.iface 112 v) 20 112 false).run Tryz.prog w=.ok v w:=fun v w=>by kernel_rfl
 have hqp:¬q=p:=fun h=>hpq h.symm
 simp [wpOpsS,go_sem,hta,c1,c2,c3,f1,f2,f3,hpq,hqp,bodyPostS,results,Tryz.results135]
set_option maxRecDepth 100000 in
set_option maxHeartbeats 1000000 in
theorem Tryz.try_walk (g:Nat) (us ws:Array Value) (w:World) (Q:World→Prop) (eg:∀args w,(callFunc g args).run Tryz.prog w=.ok (.enter g args) w)
  (hC:Calls Tryz.prog g (us++ws) ((w.alloc (.cells #[.int .i64 0,.int .i64 0] 112)).alloc (.cells #[.bool false] 4)) fun e w'=>∃v,e=.returned v∧Q w')
  (hQ:∀w',Q w'→w'.heap[w.heap.size]?=some (.cells #[.int .i64 0,.int .i64 0] 112 (0,0))∧w'.heap[w.heap.size+1]?=some (.cells #[.bool false] 4 (0,0))):
  Calls Tryz.prog 96 #[.func (.func g) us ws] w fun e w'=>e=.returned (.tuple #[.agg #[.int .i64 0,.int .i64 0],.bool false])∧
   ∃w2,Q w2∧w'=((w2.setCell ⟨w.heap.size,0,none⟩ (.int .i64 0)).setCell ⟨w.heap.size,1,none⟩ (.int .i64 0)).setCell ⟨w.heap.size+1,0,none⟩ (.bool false):=by
 have hmf:∀(fn:Fn) (first cap:Array Value) (w:World),(Instr.makeFunc fn first cap).run Tryz.prog w=.ok (.func fn first cap) w:=fun _ _ _ _=>rfl
 go_enter_defers Tryz.func96,Tryz.ntmps96
 have hbd:∀w:World,(Instr.build 112 #[]).run Tryz.prog w=.ok (.agg #[.int .i64 0,.int .i64 0]) w:=fun w=>by kernel_rfl
 have hcl:∀w':World,w'.heap[w.heap.size]?=some (.cells #[.int .i64 0,.int .i64 0] 112 (0,0))∧w'.heap[w.heap.size+1]?=some (.cells #[.bool false] 4 (0,0))→
   w'.cell? ⟨w.heap.size,0,none⟩=some (.int .i64 0)∧w'.cell? ⟨w.heap.size,1,none⟩=some (.int .i64 0)∧w'.cell? ⟨w.heap.size+1,0,none⟩=some (.bool false)∧
   w'.frozen? ⟨w.heap.size,0,none⟩=false∧w'.frozen? ⟨w.heap.size,1,none⟩=false∧w'.frozen? ⟨w.heap.size+1,0,none⟩=false:=by
  rintro w' ⟨h1,h2⟩
  refine ⟨?_, ?_, ?_, ?_, ?_, ?_⟩<;>simp [World.cell?,World.frozen?,h1,h2]
 go_wp2_with (go_at_fn g;refine hC.mono ?_;rintro e w2 ⟨v,rfl,hq⟩;obtain ⟨c1,c2,c3,f1,f2,f3⟩:=hcl w2 (hQ w2 hq))
 refine leaves_cons (f:=135) (args:=#[.pointer (some ⟨w.heap.size,0,none⟩),.pointer (some ⟨w.heap.size+1,0,none⟩)]) (by simp) (by simp [go_sem]) ?_
 refine (Tryz.catch_idle _ _ _).mono ?_
 rintro e u' w'' ⟨rfl,rfl,rfl⟩
 have d1:(((w2.setCell ⟨w.heap.size,0,none⟩ (.int .i64 0)).setCell ⟨w.heap.size,1,none⟩ (.int .i64 0)).setCell ⟨w.heap.size+1,0,none⟩ (.bool false)).cell? ⟨w.heap.size,0,none⟩=some (.int .i64 0):=by
  simp [go_sem,c1,c2,c3]
 have d2:(((w2.setCell ⟨w.heap.size,0,none⟩ (.int .i64 0)).setCell ⟨w.heap.size,1,none⟩ (.int .i64 0)).setCell ⟨w.heap.size+1,0,none⟩ (.bool false)).cell? ⟨w.heap.size,1,none⟩=some (.int .i64 0):=by
  simp [go_sem,c1,c2,c3]
 have d3:(((w2.setCell ⟨w.heap.size,0,none⟩ (.int .i64 0)).setCell ⟨w.heap.size,1,none⟩ (.int .i64 0)).setCell ⟨w.heap.size+1,0,none⟩ (.bool false)).cell? ⟨w.heap.size+1,0,none⟩=some (.bool false):=by
  simp [go_sem,c1,c2,c3]
 simp [Leaves,settle,results,Tryz.results96,go_sem,d1,d2,d3]
 exact ⟨w2,hq,rfl⟩
set_option maxRecDepth 100000 in
set_option maxHeartbeats 1000000 in
theorem Tryz.try_panic (g:Nat) (us ws:Array Value) (x y:Int) (w:World) (Q:World→Prop) (eg:∀args w,(callFunc g args).run Tryz.prog w=.ok (.enter g args) w)
  (hC:Calls Tryz.prog g (us++ws) ((w.alloc (.cells #[.int .i64 0,.int .i64 0] 112)).alloc (.cells #[.bool false] 4)) fun e w'=>e=.panicked [{ v:=.iface 112 (.agg #[.int .i64 x,.int .i64 y]),recovered:=false }]∧Q w')
  (hQ:∀w',Q w'→w'.heap[w.heap.size]?=some (.cells #[.int .i64 0,.int .i64 0] 112 (0,0))∧w'.heap[w.heap.size+1]?=some (.cells #[.bool false] 4 (0,0))):
  Calls Tryz.prog 96 #[.func (.func g) us ws] w fun e w'=>e=.returned (.tuple #[.agg #[.int .i64 x,.int .i64 y],.bool true])∧
   ∃w2,Q w2∧w'=((w2.setCell ⟨w.heap.size,0,none⟩ (.int .i64 x)).setCell ⟨w.heap.size,1,none⟩ (.int .i64 y)).setCell ⟨w.heap.size+1,0,none⟩ (.bool true):=by
 have hmf:∀(fn:Fn) (first cap:Array Value) (w:World),(Instr.makeFunc fn first cap).run Tryz.prog w=.ok (.func fn first cap) w:=fun _ _ _ _=>rfl
 go_enter_defers Tryz.func96,Tryz.ntmps96
 go_wp2_with (go_at_fn g;refine hC.mono ?_;rintro e w2 ⟨rfl,hq⟩)
 refine leaves_cons (f:=135) (args:=#[.pointer (some ⟨w.heap.size,0,none⟩),.pointer (some ⟨w.heap.size+1,0,none⟩)]) (by simp) (by simp [go_sem]) ?_
 obtain ⟨k1,k2⟩:=hQ w2 hq
 refine (Tryz.catch_busy w.heap.size (w.heap.size+1) x y w2 k1 k2 (by omega)).mono ?_
 rintro e u' w'' ⟨rfl,rfl,rfl⟩
 have c1:w2.cell? ⟨w.heap.size,0,none⟩=some (.int .i64 0):=by simp [World.cell?,k1]
 have c2:w2.cell? ⟨w.heap.size,1,none⟩=some (.int .i64 0):=by simp [World.cell?,k1]
 have c3:w2.cell? ⟨w.heap.size+1,0,none⟩=some (.bool false):=by simp [World.cell?,k2]
 have d1:(((w2.setCell ⟨w.heap.size,0,none⟩ (.int .i64 x)).setCell ⟨w.heap.size,1,none⟩ (.int .i64 y)).setCell ⟨w.heap.size+1,0,none⟩ (.bool true)).cell? ⟨w.heap.size,0,none⟩=some (.int .i64 x):=by
  simp [go_sem,c1,c2,c3]
 have d2:(((w2.setCell ⟨w.heap.size,0,none⟩ (.int .i64 x)).setCell ⟨w.heap.size,1,none⟩ (.int .i64 y)).setCell ⟨w.heap.size+1,0,none⟩ (.bool true)).cell? ⟨w.heap.size,1,none⟩=some (.int .i64 y):=by
  simp [go_sem,c1,c2,c3]
 have d3:(((w2.setCell ⟨w.heap.size,0,none⟩ (.int .i64 x)).setCell ⟨w.heap.size,1,none⟩ (.int .i64 y)).setCell ⟨w.heap.size+1,0,none⟩ (.bool true)).cell? ⟨w.heap.size+1,0,none⟩=some (.bool true):=by
  simp [go_sem,c1,c2,c3]
 simp [Leaves,settle,results,Tryz.results96,go_sem,d1,d2,d3]
 exact ⟨w2,hq,rfl⟩
end Go.Proofs
namespace Go.Ai.Z
open Go.Proofs
theorem IQ {w:World} {b i:Nat} {cs:Array Value} {t:TypeId} {fr:Nat×Nat} (h:w.heap[b]?=some (.cells cs t fr)) {v:Value} (hv:cs[i]?=some v):w.setCell ⟨b,i,none⟩ v=w:=by
 have hlt:i<cs.size:=(Array.getElem?_eq_some_iff.1 hv).1
 have hcs:cs.setIfInBounds i v=cs:=by
  apply Array.ext_getElem?
  intro j
  rw [Array.getElem?_setIfInBounds]
  by_cases hij:i=j
  ·subst hij;rw [if_pos rfl,if_pos hlt,hv]
  ·rw [if_neg hij]
 have hh:(w.setCell ⟨b,i,none⟩ v).heap=w.heap:=by
  apply Array.ext_getElem?
  intro j
  simp only [World.setCell,Array.getElem?_modify]
  by_cases hj:b=j
  ·subst hj;rw [if_pos rfl,h];simp [hcs]
  ·rw [if_neg hj]
 have h2:({ w with heap:=(w.setCell ⟨b,i,none⟩ v).heap }:World)=w:=by rw [hh]
 exact h2
theorem ND {g:aj} {n:Nat} {vs:Array Value} {a:AV} (h:dF g n vs.toList [a]):∃v,vs=#[v]∧Rep g n v a:=by
 obtain ⟨l⟩:=vs
 match l,h.1 with
 | [v],_=>exact ⟨v,rfl,h.head⟩
theorem Zz {P:Program} {glob:Nat→Option (List AV)} {g:aj} {s:St} {w w':World} (h:Base P glob g s w) (bs:Nat→Prop) (hsz:w.heap.size≤w'.heap.size) (hsame:∀b,¬bs b→w'.heap[b]?=w.heap[b]?)
  (hoff:∀b,bs b→(∀o,g.m b o=none)∧g.mm b=none∧¬g.taken s.length b):Base P glob g s w':=by
 refine ⟨⟨fun c o v hv=>?_,fun c es hc=>?_⟩,h.heap.next (.refl _ _) (fun _ _=>rfl) hsz (fun b hb=>⟨hsame b (fun hbs=>(hoff b hbs).2.2 hb),rfl,rfl⟩),h.glob⟩
 ·have hcb:¬bs c:=fun hcb=>by rw [(hoff c hcb).1 o] at hv;cases hv
  rw [World.cell?_of_block (hsame c hcb)];exact h.imm.m c o v hv
 ·have hcb:¬bs c:=fun hcb=>by rw [(hoff c hcb).2.1] at hc;cases hc
  exact (h.imm.mm c es hc).keep (hsame c hcb)
theorem IL {w:World} {b i c:Nat} {v:Value} (h:c≠b):(w.setCell ⟨b,i,none⟩ v).heap[c]?=w.heap[c]?:=by
 simp only [World.setCell,Array.getElem?_modify]
 rw [if_neg (Ne.symm h)]
theorem agk {g:aj} {w:World} (h:Imm g w) {b o:Nat} {v:Value} (hm:g.m b o=some v):b<w.heap.size:=by
 have:=h.m b o v hm
 by_cases hb:b<w.heap.size
 ·exact hb
 ·have hn:w.heap[b]?=none:=Array.getElem?_eq_none (by omega)
  simp [World.cell?,hn] at this
theorem agb {glob:Nat→Option (List AV)}:ae8 Tryz.prog glob 96 (.tryK (.tu [.ag [.i .i64 0,.i .i64 0],.b false]) 112):=by
 refine ⟨⟨Tryz.f96,Tryz.func96,by kernel_rfl,by kernel_rfl⟩,fun call qcall hcall hext hq hcf hqf args s cx r s' hcx h g w vs hb hv m=>callsIn_wide.2 ?_⟩
 unfold l7 at h
 split at h
 ·rename_i r0 t0 f xs cs hk
  cases hk
  split at h
  ·rename_i r1 s0 hc
   cases h
   obtain ⟨v0,rfl,rv⟩:=ND hv
   cases rv with
   | fn _ us ws _ _ hl hl' hr1 hr2=>
    obtain ⟨rf,q1,q2,q3⟩:=hcf _ _ _ _ _ _ _ _ (.inl hc)
    have hb1:Base Tryz.prog glob g s ((w.alloc (.cells #[.int .i64 0,.int .i64 0] 112)).alloc (.cells #[.bool false] 4)):=
     (hb.grew (Grew.alloc (qt:=True) w _)).grew (Grew.alloc (qt:=True) (w.alloc (.cells #[.int .i64 0,.int .i64 0] 112)) _)
    obtain ⟨fid,args',p1,p2⟩:=hcall.fn (.fn (.func f) xs cs) [] s cx r1 s' hcx (fun l=>by simp) hc g _ (.func (.func f) us ws) #[] hb1 (.fn _ us ws _ _ hl hl' hr1 hr2) (.nil _ _)
    rw [oW q1 q2 q3] at p1
    cases p1
    have hC:=callsIn_wide.1 (p2 0)
    simp only [Array.append_empty] at hC
    have hsz:((w.alloc (.cells #[.int .i64 0,.int .i64 0] 112)).alloc (.cells #[.bool false] 4)).heap.size=w.heap.size+2:=by simp
    have hk0:((w.alloc (.cells #[.int .i64 0,.int .i64 0] 112)).alloc (.cells #[.bool false] 4)).heap[w.heap.size]?=some (.cells #[.int .i64 0,.int .i64 0] 112 (0,0)):=by
     rw [heap_alloc_old _ _ _ (by simp)];exact heap_alloc_new w _
    have hk1:((w.alloc (.cells #[.int .i64 0,.int .i64 0] 112)).alloc (.cells #[.bool false] 4)).heap[w.heap.size+1]?=some (.cells #[.bool false] 4 (0,0)):=by
     have:=heap_alloc_new (w.alloc (.cells #[.int .i64 0,.int .i64 0] 112)) (.cells #[.bool false] 4)
     simpa using this
    have hst1:Step False g s.length w.heap.size w g s.length ((w.alloc (.cells #[.int .i64 0,.int .i64 0] 112)).alloc (.cells #[.bool false] 4)):=
     ⟨.refl _ _,by rw [hsz];omega,fun b hb' _=>by rw [heap_alloc_old _ _ _ (by simp;omega),heap_alloc_old _ _ _ hb'],fun _ _ _=>rfl,fun _ _=>rfl,fun b hb'=>.inl hb',rfl,rfl,fun hF=>hF.elim⟩
    have hkeep:∀w2,(∃g',Step False g s.length ((w.alloc (.cells #[.int .i64 0,.int .i64 0] 112)).alloc (.cells #[.bool false] 4)).heap.size ((w.alloc (.cells #[.int .i64 0,.int .i64 0] 112)).alloc (.cells #[.bool false] 4)) g' s'.length w2∧Base Tryz.prog glob g' s' w2)→
      w2.heap[w.heap.size]?=some (.cells #[.int .i64 0,.int .i64 0] 112 (0,0))∧w2.heap[w.heap.size+1]?=some (.cells #[.bool false] 4 (0,0)):=by
     rintro w2 ⟨g',hst,_⟩
     have hn:∀b,w.heap.size≤b→¬g.taken s.length b:=fun b hb' ht=>by have:=hb.heap.taken_lt ht;omega
     exact ⟨(hst.keep _ (by rw [hsz];omega) (hn _ (Nat.le_refl _))).trans hk0,(hst.keep _ (by rw [hsz];omega) (hn _ (by omega))).trans hk1⟩
    refine (Tryz.try_walk f us ws w _ (fun args w=>by
     have:=oW (w:=w) q1 q2 q3 #[] #[] args
     simpa [callOf,Deferred.ofValue,invoke,Sem.run_bind] using this) (hC.mono fun e w' he=>?_) hkeep).mono fun e w' he=>?_
    ·obtain ⟨v,g',rfl,hst,hb2,_⟩:=he
     exact ⟨v,rfl,g',hst,hb2⟩
    ·obtain ⟨rfl,w2,hq2,rfl⟩:=he
     obtain ⟨h0,h1⟩:=hkeep w2 hq2
     obtain ⟨g',hst,hb2⟩:=hq2
     rw [IQ (i:=0) h0 (v:=.int .i64 0) (by simp),IQ (i:=1) h0 (v:=.int .i64 0) (by simp),IQ (i:=0) h1 (v:=.bool false) (by simp)]
     refine ⟨_,g',rfl,hst1.trans (hst.lower (by rw [hsz];omega)),hb2,.tu _ _ rfl fun i hi hi'=>?_⟩
     match i,hi with
     | 0,_=>exact .ag _ _ rfl (fun i hi=>by match i,hi with | 0,_=>rfl | 1,_=>rfl) (fun i hi hi'=>by match i,hi with | 0,_=>exact .i _ _ | 1,_=>exact .i _ _)
     | 1,_=>exact .b _
  ·rename_i t' x y s0 hc
   split at h
   case isFalse=>cases h
   rename_i htt
   subst htt
   cases h
   obtain ⟨v0,rfl,rv⟩:=ND hv
   cases rv with
   | fn _ us ws _ _ hl hl' hr1 hr2=>
    obtain ⟨rf,q1,q2,q3⟩:=hcf _ _ _ _ _ _ _ _ (.inr hc)
    have hb1:Base Tryz.prog glob g s ((w.alloc (.cells #[.int .i64 0,.int .i64 0] 112)).alloc (.cells #[.bool false] 4)):=
     (hb.grew (Grew.alloc (qt:=True) w _)).grew (Grew.alloc (qt:=True) (w.alloc (.cells #[.int .i64 0,.int .i64 0] 112)) _)
    obtain ⟨fid,args',p1,p2⟩:=hcall.pan (.fn (.func f) xs cs) [] s cx _ s' hcx hc g _ (.func (.func f) us ws) #[] hb1 (.fn _ us ws _ _ hl hl' hr1 hr2) (.nil _ _)
    rw [oW q1 q2 q3] at p1
    cases p1
    have hC:=callsIn_wide.1 (p2 0)
    simp only [Array.append_empty] at hC
    have hsz:((w.alloc (.cells #[.int .i64 0,.int .i64 0] 112)).alloc (.cells #[.bool false] 4)).heap.size=w.heap.size+2:=by simp
    have hk0:((w.alloc (.cells #[.int .i64 0,.int .i64 0] 112)).alloc (.cells #[.bool false] 4)).heap[w.heap.size]?=some (.cells #[.int .i64 0,.int .i64 0] 112 (0,0)):=by
     rw [heap_alloc_old _ _ _ (by simp)];exact heap_alloc_new w _
    have hk1:((w.alloc (.cells #[.int .i64 0,.int .i64 0] 112)).alloc (.cells #[.bool false] 4)).heap[w.heap.size+1]?=some (.cells #[.bool false] 4 (0,0)):=by
     have:=heap_alloc_new (w.alloc (.cells #[.int .i64 0,.int .i64 0] 112)) (.cells #[.bool false] 4)
     simpa using this
    have hst1:Step False g s.length w.heap.size w g s.length ((w.alloc (.cells #[.int .i64 0,.int .i64 0] 112)).alloc (.cells #[.bool false] 4)):=
     ⟨.refl _ _,by rw [hsz];omega,fun b hb' _=>by rw [heap_alloc_old _ _ _ (by simp;omega),heap_alloc_old _ _ _ hb'],fun _ _ _=>rfl,fun _ _=>rfl,fun b hb'=>.inl hb',rfl,rfl,fun hF=>hF.elim⟩
    have hn:∀b,w.heap.size≤b→¬g.taken s.length b:=fun b hb' ht=>by have:=hb.heap.taken_lt ht;omega
    have hkeep:∀w2,(∃g',Step False g s.length ((w.alloc (.cells #[.int .i64 0,.int .i64 0] 112)).alloc (.cells #[.bool false] 4)).heap.size ((w.alloc (.cells #[.int .i64 0,.int .i64 0] 112)).alloc (.cells #[.bool false] 4)) g' s'.length w2∧Base Tryz.prog glob g' s' w2)→
      w2.heap[w.heap.size]?=some (.cells #[.int .i64 0,.int .i64 0] 112 (0,0))∧w2.heap[w.heap.size+1]?=some (.cells #[.bool false] 4 (0,0)):=by
     rintro w2 ⟨g',hst,_⟩
     exact ⟨(hst.keep _ (by rw [hsz];omega) (hn _ (Nat.le_refl _))).trans hk0,(hst.keep _ (by rw [hsz];omega) (hn _ (by omega))).trans hk1⟩
    refine (Tryz.try_panic f us ws x y w _ (fun args w=>by
     have:=oW (w:=w) q1 q2 q3 #[] #[] args
     simpa [callOf,Deferred.ofValue,invoke,Sem.run_bind] using this) (hC.mono fun e w' he=>?_) hkeep).mono fun e w' he=>?_
    ·obtain ⟨u,g',rfl,hst,hb2,hru⟩:=he
     refine ⟨?_,g',hst,hb2⟩
     cases hru with
     | ifc _ vv _ hr=>
      cases hr with
      | ag vs _ hl1 _ hr=>
       have e0:vs.size=2:=by simpa using hl1
       obtain ⟨vl⟩:=vs
       match vl,e0 with
       | [p,q],_=>
        have r0:=hr 0 (by simp) (by simp)
        have r1:=hr 1 (by simp) (by simp)
        simp at r0 r1
        cases r0
        cases r1
        rfl
    ·obtain ⟨rfl,w2,hq2,rfl⟩:=he
     obtain ⟨h0,h1⟩:=hkeep w2 hq2
     obtain ⟨g',hst,hb2⟩:=hq2
     have hother:∀b,¬(b=w.heap.size∨b=w.heap.size+1)→(((w2.setCell ⟨w.heap.size,0,none⟩ (.int .i64 x)).setCell ⟨w.heap.size,1,none⟩ (.int .i64 y)).setCell ⟨w.heap.size+1,0,none⟩ (.bool true)).heap[b]?=w2.heap[b]?:=by
      intro b hb'
      rw [IL (fun h=>hb' (.inr h)),IL (fun h=>hb' (.inl h)),IL (fun h=>hb' (.inl h))]
     have hsize:(((w2.setCell ⟨w.heap.size,0,none⟩ (.int .i64 x)).setCell ⟨w.heap.size,1,none⟩ (.int .i64 y)).setCell ⟨w.heap.size+1,0,none⟩ (.bool true)).heap.size=w2.heap.size:=by simp [World.setCell]
     have hoff:∀b,(b=w.heap.size∨b=w.heap.size+1)→(∀o,g'.m b o=none)∧g'.mm b=none∧¬g'.taken s'.length b:=by
      intro b hb'
      have hlt:b<((w.alloc (.cells #[.int .i64 0,.int .i64 0] 112)).alloc (.cells #[.bool false] 4)).heap.size:=by rw [hsz];omega
      have hge:w.heap.size≤b:=by omega
      refine ⟨fun o=>?_, ?_,fun ht=>?_⟩
      ·rw [hst.m b hlt (hn b hge)]
       cases hm:g.m b o with
       | none=>rfl
       | some v=>have:=agk hb.imm hm;omega
      ·rw [hst.mm b hlt]
       cases hm:g.mm b with
       | none=>rfl
       | some es=>have:=(hb.imm.mm b es hm).lt;omega
      ·rcases hst.new b ht with h2|h2
       ·exact hn b hge h2
       ·omega
     have hb3:=Zz hb2 (fun b=>b=w.heap.size∨b=w.heap.size+1) (by rw [hsize];exact Nat.le_refl _) hother hoff
     have hst3:Step False g' s'.length w.heap.size w2 g' s'.length (((w2.setCell ⟨w.heap.size,0,none⟩ (.int .i64 x)).setCell ⟨w.heap.size,1,none⟩ (.int .i64 y)).setCell ⟨w.heap.size+1,0,none⟩ (.bool true)):=
      ⟨.refl _ _,by rw [hsize];exact Nat.le_refl _,fun b hb' _=>hother b (by omega),fun _ _ _=>rfl,fun _ _=>rfl,fun b hb'=>.inl hb',rfl,rfl,fun hF=>hF.elim⟩
     refine ⟨_,g',rfl,(hst1.trans (hst.lower (by rw [hsz];omega))).trans hst3,hb3,.tu _ _ rfl fun i hi hi'=>?_⟩
     match i,hi with
     | 0,_=>exact .ag _ _ rfl (fun i hi=>by match i,hi with | 0,_=>rfl | 1,_=>rfl) (fun i hi hi'=>by match i,hi with | 0,_=>exact .i _ _ | 1,_=>exact .i _ _)
     | 1,_=>exact .b _
  ·cases h
 ·rename_i hk;cases hk
 ·rename_i hk;cases hk
 ·cases h
end Go.Ai.Z
