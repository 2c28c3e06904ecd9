/-
 reply.Decode's closure: it recovers, and tells what went wrong.
-/
import Derived.Test.YtdjjghikaijfpaaGreatDoorAiC3
import Derived.Tactics
import Derived.Tactics2
import Derived.Defers
import Derived.Recover
import Derived.RegionTactic
import Derived.Shelf.Abstract
import Derived.Laws.Pointers
set_option maxRecDepth 100000
set_option linter.unusedSimpArgs false
set_option linter.unusedVariables false
set_option linter.unusedSectionVars false
namespace Go.Proofs
open Go.Ai
set_option maxRecDepth 100000 in
set_option maxHeartbeats 1000000 in
theorem Tryz.dcatch_idle (p q:Addr) (w:World):
  CallsD Tryz.prog 34 #[.pointer (some p),.pointer (some q)] .returning w fun e u' w'=>e=.returned (.tuple #[])∧u'=.returning∧w'=w:=by
 refine callsD_of_wpS Tryz.func34 rfl fun c₀ cs hu=>?_
 apply wpS_seq
 apply wpS_region
 simp [wpOpsS,go_sem,recoverD,hu,Tryz.ntmps34,Exit.thenS]
 apply wpS_seq
 apply wpS_region
 simp [wpOpsS,go_sem,recoverD,hu,Exit.thenS]
 refine wpS_cond (t:=false) (by simp [Act.eval,Act.put,Array.replicate]) ?_
 simp only [Bool.false_eq_true,if_false]
 refine wpS_of_wp (wp_skip ?_)
 cases c₀
 simp_all [bodyPostS,results,Tryz.results34,Act.put,Exit.thenS]
set_option maxRecDepth 100000 in
set_option maxHeartbeats 4000000 in
theorem Tryz.dcatch_busy (p q:Nat) (a0 a1 a2 a3 a4 b0:Value) (t0 t1:TypeId) (x:Int) (w:World) (h0:w.heap[p]?=some (.cells #[a0,a1,a2,a3,a4] t0 (0,0))) (h1:w.heap[q]?=some (.cells #[b0] t1 (0,0))) (hpq:p≠q):
  CallsD Tryz.prog 34 #[.pointer (some ⟨p,0,none⟩),.pointer (some ⟨q,0,none⟩)] (.panicking [{ v:=.iface 75 (.agg #[.int .i64 x]),recovered:=false }]) w fun e u' w'=>
   e=.returned (.tuple #[])∧u'=.panicking [{ v:=.iface 75 (.agg #[.int .i64 x]),recovered:=true }]∧
    w'=(((((((w.alloc (.cells #[.int .i64 0] 75)).setCell ⟨w.heap.size,0,none⟩ (.int .i64 x)).drew.setCell ⟨p,0,none⟩ (.int .i64 0)).setCell ⟨p,1,none⟩ (.int .i64 0)).setCell ⟨p,2,none⟩ (.slice none 0 0)).setCell ⟨p,3,none⟩ (.slice none 0 0)).setCell ⟨p,4,none⟩ (.slice none 0 0)).setCell ⟨q,0,none⟩ (.int .i64 x):=by
 refine callsD_of_wpS Tryz.func34 rfl fun c₀ cs hu=>?_
 have lp:p<w.heap.size:=(Array.getElem?_eq_some_iff.1 h0).1
 have lq:q<w.heap.size:=(Array.getElem?_eq_some_iff.1 h1).1
 apply wpS_seq
 apply wpS_region
 simp [wpOpsS,go_sem,recoverD,hu,Tryz.ntmps34,Exit.thenS]
 apply wpS_seq
 apply wpS_region
 simp [wpOpsS,go_sem,recoverD,hu,Exit.thenS]
 refine wpS_cond (t:=true) (by simp [Act.eval,Act.put,Array.replicate]) ?_
 simp only [if_true]
 have hta:∀(v:Value) (w:World),(Instr.typeAssert (.iface 75 v) 20 75 true).run Tryz.prog w=.ok (.tuple #[v,.bool true]) w:=fun v w=>by kernel_rfl
 apply wpS_seq
 apply wpS_region
 simp [wpOpsS,go_sem,hta,Exit.thenS]
 apply wpS_seq
 apply wpS_seq
 apply wpS_region
 simp [wpOpsS,go_sem,Exit.thenS]
 refine wpS_cond (t:=false) (by simp [Act.eval,Act.put,Array.replicate]) ?_
 simp only [Bool.false_eq_true,if_false]
 refine wpS_of_wp (wp_skip ?_)
 simp only [Exit.thenS]
 have hbd:∀w:World,(Instr.build 26 #[]).run Tryz.prog w=.ok (.agg #[.int .i64 0,.int .i64 0,.slice none 0 0,.slice none 0 0,.slice none 0 0]) w:=fun w=>by kernel_rfl
 have hold:∀k,k<w.heap.size→((w.alloc (.cells #[.int .i64 0] 75)).setCell ⟨w.heap.size,0,none⟩ (.int .i64 x)).heap[k]?=w.heap[k]?:=by
  intro k hk
  simp only [World.setCell,Array.getElem?_modify]
  rw [if_neg (by omega)]
  exact heap_alloc_old w _ k hk
 have hnew:((w.alloc (.cells #[.int .i64 0] 75)).setCell ⟨w.heap.size,0,none⟩ (.int .i64 x)).heap[w.heap.size]?=some (.cells #[.int .i64 x] 75 (0,0)):=by
  simp only [World.setCell,Array.getElem?_modify]
  rw [if_pos trivial,heap_alloc_new w _]
  rfl
 rw [←hold p lp] at h0
 rw [←hold q lq] at h1
 have hbp:w.heap.size≠p:=by omega
 have hbq:w.heap.size≠q:=by omega
 generalize ((w.alloc (.cells #[.int .i64 0] 75)).setCell ⟨w.heap.size,0,none⟩ (.int .i64 x))=W at h0 h1 hnew ⊢
 clear hold lp lq
 generalize w.heap.size=b at hnew hbp hbq ⊢
 have c0:W.cell? ⟨p,0,none⟩=some a0:=by simp [World.cell?,h0]
 have c1:W.cell? ⟨p,1,none⟩=some a1:=by simp [World.cell?,h0]
 have c2:W.cell? ⟨p,2,none⟩=some a2:=by simp [World.cell?,h0]
 have c3:W.cell? ⟨p,3,none⟩=some a3:=by simp [World.cell?,h0]
 have c4:W.cell? ⟨p,4,none⟩=some a4:=by simp [World.cell?,h0]
 have c5:W.cell? ⟨q,0,none⟩=some b0:=by simp [World.cell?,h1]
 have c6:W.cell? ⟨b,0,none⟩=some (.int .i64 x):=by simp [World.cell?,hnew]
 have f0:W.frozen? ⟨p,0,none⟩=false:=by simp [World.frozen?,h0]
 have f1:W.frozen? ⟨p,1,none⟩=false:=by simp [World.frozen?,h0]
 have f2:W.frozen? ⟨p,2,none⟩=false:=by simp [World.frozen?,h0]
 have f3:W.frozen? ⟨p,3,none⟩=false:=by simp [World.frozen?,h0]
 have f4:W.frozen? ⟨p,4,none⟩=false:=by simp [World.frozen?,h0]
 have f5:W.frozen? ⟨q,0,none⟩=false:=by simp [World.frozen?,h1]
 have hqp:=Ne.symm hpq
 have hpb:=Ne.symm hbp
 have hqb:=Ne.symm hbq
 refine wpS_of_wp ?_
 go_region
 all_goals simp [bodyPostS,results,Tryz.results34]
end Go.Proofs
