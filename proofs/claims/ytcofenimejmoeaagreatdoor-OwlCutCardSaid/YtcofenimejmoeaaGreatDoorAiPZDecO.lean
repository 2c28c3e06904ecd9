/-
 owl.Read's closure: it recovers, and tells what went wrong.
-/
import Derived.Test.YtcofenimejmoeaaGreatDoorAiC3
import Derived.Tactics
import Derived.Tactics2
import Derived.Defers
import Derived.Recover
import Derived.RegionTactic
import Derived.Shelf.Abstract
import Derived.Laws.Pointers
set_option maxRecDepth 100000
set_option linter.unusedSimpArgs false
set_option linter.unusedVariables false
set_option linter.unusedSectionVars false
namespace Go.Proofs
open Go.Ai
set_option maxRecDepth 100000 in
set_option maxHeartbeats 1000000 in
theorem Tryz.dcatch_idle (p q r z:Addr) (w:World):
  CallsD Tryz.prog 31 #[.pointer (some p),.pointer (some q),.pointer (some r),.pointer (some z)] .returning w fun e u' w'=>e=.returned (.tuple #[])∧u'=.returning∧w'=w:=by
 refine callsD_of_wpS Tryz.func31 rfl fun c₀ cs hu=>?_;apply wpS_seq;apply wpS_region;simp [wpOpsS,go_sem,recoverD,hu,Tryz.ntmps31,Exit.thenS];apply wpS_seq;apply wpS_region;simp [wpOpsS,go_sem,recoverD,hu,Exit.thenS];refine wpS_cond (t:=false) (by simp [Act.eval,Act.put,Array.replicate]) ?_;simp only [Bool.false_eq_true,if_false];refine wpS_of_wp (wp_skip ?_);cases c₀
 simp_all [bodyPostS,results,Tryz.results31,Act.put,Exit.thenS]
set_option maxRecDepth 100000 in
set_option maxHeartbeats 4000000 in
theorem Tryz.dcatch_busy (p q r z:Nat) (a0 b0 c0 d0:Value) (t0 t1 t2 t3:TypeId) (x y:Int) (w:World) (h0:w.heap[p]?=some (.cells #[a0] t0 (0,0))) (h1:w.heap[q]?=some (.cells #[b0] t1 (0,0))) (h2:w.heap[r]?=some (.cells #[c0] t2 (0,0))) (h3:w.heap[z]?=some (.cells #[d0] t3 (0,0)))
  (b1:p≠q) (a4:p≠r) (a6:p≠z) (a7:q≠r) (b4:q≠z) (a5:r≠z):
  CallsD Tryz.prog 31 #[.pointer (some ⟨p,0,none⟩),.pointer (some ⟨q,0,none⟩),.pointer (some ⟨r,0,none⟩),.pointer (some ⟨z,0,none⟩)] (.panicking [{ v:=.iface 62 (.agg #[.int .i64 x,.int .i64 y]),recovered:=false }]) w fun e u' w'=>
   e=.returned (.tuple #[])∧u'=.panicking [{ v:=.iface 62 (.agg #[.int .i64 x,.int .i64 y]),recovered:=true }]∧
    w'=((((((((w.alloc (.cells #[.int .i64 0,.int .i64 0] 62)).setCell ⟨w.heap.size,0,none⟩ (.int .i64 x)).setCell ⟨w.heap.size,1,none⟩ (.int .i64 y)).drew.setCell ⟨p,0,none⟩ (.slice none 0 0)).setCell ⟨q,0,none⟩ (.string ⟨#[]⟩)).setCell ⟨r,0,none⟩ (.int .i64 x)).setCell ⟨z,0,none⟩ (.int .i64 y))):=by
 refine callsD_of_wpS Tryz.func31 rfl fun c₀ cs hu=>?_;have lp:p<w.heap.size:=(Array.getElem?_eq_some_iff.1 h0).1;have lq:q<w.heap.size:=(Array.getElem?_eq_some_iff.1 h1).1;have lr:r<w.heap.size:=(Array.getElem?_eq_some_iff.1 h2).1;have lz:z<w.heap.size:=(Array.getElem?_eq_some_iff.1 h3).1;apply wpS_seq;apply wpS_region;simp [wpOpsS,go_sem,recoverD,hu,Tryz.ntmps31,Exit.thenS];apply wpS_seq;apply wpS_region;simp [wpOpsS,go_sem,recoverD,hu,Exit.thenS];refine wpS_cond (t:=true) (by simp [Act.eval,Act.put,Array.replicate]) ?_;simp only [if_true];have Q:∀(v:Value) (w:World),(Instr.typeAssert (.iface 62 v) 20 62 false).run Tryz.prog w=.ok v w:=fun v w=>by kernel_rfl
 apply wpS_seq;apply wpS_region;simp [wpOpsS,go_sem,Q,Exit.thenS]
 have A:∀k,k<w.heap.size→(((w.alloc (.cells #[.int .i64 0,.int .i64 0] 62)).setCell ⟨w.heap.size,0,none⟩ (.int .i64 x)).setCell ⟨w.heap.size,1,none⟩ (.int .i64 y)).heap[k]?=w.heap[k]?:=by
  intro k hk;simp only [World.setCell,Array.getElem?_modify];rw [if_neg (by omega),if_neg (by omega)];exact heap_alloc_old w _ k hk
 have I:(((w.alloc (.cells #[.int .i64 0,.int .i64 0] 62)).setCell ⟨w.heap.size,0,none⟩ (.int .i64 x)).setCell ⟨w.heap.size,1,none⟩ (.int .i64 y)).heap[w.heap.size]?=some (.cells #[.int .i64 x,.int .i64 y] 62 (0,0)):=by
  simp only [World.setCell,Array.getElem?_modify];rw [if_pos trivial,if_pos trivial,heap_alloc_new w _];rfl
 rw [←A p lp] at h0;rw [←A q lq] at h1;rw [←A r lr] at h2;rw [←A z lz] at h3;have P:w.heap.size≠p:=by omega
 have K:w.heap.size≠q:=by omega
 have J:w.heap.size≠r:=by omega
 have O:w.heap.size≠z:=by omega
 generalize (((w.alloc (.cells #[.int .i64 0,.int .i64 0] 62)).setCell ⟨w.heap.size,0,none⟩ (.int .i64 x)).setCell ⟨w.heap.size,1,none⟩ (.int .i64 y))=W at h0 h1 h2 h3 I ⊢;clear A lp lq lr lz;generalize w.heap.size=b at I P K J O ⊢;have a3:W.cell? ⟨p,0,none⟩=some a0:=by simp [World.cell?,h0]
 have c1:W.cell? ⟨q,0,none⟩=some b0:=by simp [World.cell?,h1]
 have c2:W.cell? ⟨r,0,none⟩=some c0:=by simp [World.cell?,h2]
 have c3:W.cell? ⟨z,0,none⟩=some d0:=by simp [World.cell?,h3]
 have c4:W.cell? ⟨b,0,none⟩=some (.int .i64 x):=by simp [World.cell?,I]
 have c5:W.cell? ⟨b,1,none⟩=some (.int .i64 y):=by simp [World.cell?,I]
 have f0:W.frozen? ⟨p,0,none⟩=false:=by simp [World.frozen?,h0]
 have f1:W.frozen? ⟨q,0,none⟩=false:=by simp [World.frozen?,h1]
 have f2:W.frozen? ⟨r,0,none⟩=false:=by simp [World.frozen?,h2]
 have f3:W.frozen? ⟨z,0,none⟩=false:=by simp [World.frozen?,h3]
 have R:=Ne.symm b1;have Y:=Ne.symm a4;have Z:=Ne.symm a6;have a1:=Ne.symm a7;have a2:=Ne.symm b4;have S:=Ne.symm a5;have a8:=Ne.symm P;have b2:=Ne.symm K;have b3:=Ne.symm J;have a9:=Ne.symm O;refine wpS_of_wp ?_
 go_region
 all_goals simp [bodyPostS,results,Tryz.results31]
end Go.Proofs
