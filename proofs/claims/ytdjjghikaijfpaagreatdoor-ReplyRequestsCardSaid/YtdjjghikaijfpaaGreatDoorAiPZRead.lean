/-
 query.read reads a query, or tells where it panicked.
-/
import Derived.Test.YtdjjghikaijfpaaGreatDoorAiRn5
import Derived.Test.YtdjjghikaijfpaaGreatDoorChecked
import Derived.Tactics
import Derived.Tactics2
import Derived.Defers
import Derived.Recover
import Derived.RegionTactic
import Derived.Shelf.Abstract
import Derived.Laws.Pointers
set_option maxRecDepth 100000
set_option linter.unusedSimpArgs false
set_option linter.unusedVariables false
set_option linter.unusedSectionVars false
namespace Go.Proofs
set_option maxRecDepth 100000 in
set_option maxHeartbeats 1000000 in
theorem Tryz.rcatch_idle (p q r:Addr) (w:World):
  CallsD Tryz.prog 142 #[.pointer (some p),.pointer (some q),.pointer (some r)] .returning w fun e u' w'=>e=.returned (.tuple #[])∧u'=.returning∧w'=w:=by
 refine callsD_of_wpS Tryz.func142 rfl fun c₀ cs hu=>?_
 apply wpS_seq
 apply wpS_region
 simp [wpOpsS,go_sem,recoverD,hu,Tryz.ntmps142,Exit.thenS]
 apply wpS_seq
 apply wpS_seq
 apply wpS_region
 simp [wpOpsS,go_sem,recoverD,hu,Exit.thenS]
 refine wpS_cond (t:=true) (by simp [Act.eval,Act.put,Array.replicate]) ?_
 simp only [if_true]
 refine wpS_of_wp (wp_ret ?_)
 cases c₀
 simp_all [bodyPostS,results,Tryz.results142,Act.put,Exit.thenS]
set_option maxRecDepth 100000 in
set_option maxHeartbeats 2000000 in
theorem Tryz.rcatch_busy (p q r:Nat) (x:Int) (w:World) (h0:w.heap[p]?=some (.cells #[.slice none 0 0,.slice none 0 0] 40 (0,0))) (h1:w.heap[q]?=some (.cells #[.int .i64 0] 3 (0,0))) (h2:w.heap[r]?=some (.cells #[.int .i64 0] 22 (0,0))) (hpq:p≠q) (hpr:p≠r) (hqr:q≠r):
  CallsD Tryz.prog 142 #[.pointer (some ⟨p,0,none⟩),.pointer (some ⟨q,0,none⟩),.pointer (some ⟨r,0,none⟩)] (.panicking [{ v:=.iface 200 (.agg #[.int .i64 x]),recovered:=false }]) w fun e u' w'=>
   e=.returned (.tuple #[])∧u'=.panicking [{ v:=.iface 200 (.agg #[.int .i64 x]),recovered:=true }]∧
    w'=(((((w.alloc (.cells #[.int .i64 0] 200)).setCell ⟨w.heap.size,0,none⟩ (.int .i64 x)).drew.setCell ⟨p,0,none⟩ (.slice none 0 0)).setCell ⟨p,1,none⟩ (.slice none 0 0)).setCell ⟨q,0,none⟩ (.int .i64 x)).setCell ⟨r,0,none⟩ (.int .i64 30):=by
 refine callsD_of_wpS Tryz.func142 rfl fun c₀ cs hu=>?_
 have lp:p<w.heap.size:=(Array.getElem?_eq_some_iff.1 h0).1
 have lq:q<w.heap.size:=(Array.getElem?_eq_some_iff.1 h1).1
 have lr:r<w.heap.size:=(Array.getElem?_eq_some_iff.1 h2).1
 apply wpS_seq
 apply wpS_region
 simp [wpOpsS,go_sem,recoverD,hu,Tryz.ntmps142,Exit.thenS]
 apply wpS_seq
 apply wpS_seq
 apply wpS_region
 simp [wpOpsS,go_sem,recoverD,hu,Exit.thenS]
 refine wpS_cond (t:=false) (by simp [Act.eval,Act.put,Array.replicate]) ?_
 simp only [Bool.false_eq_true,if_false]
 refine wpS_of_wp (wp_skip ?_)
 simp only [Exit.thenS]
 have hta:∀(v:Value) (w:World),(Instr.typeAssert (.iface 200 v) 20 200 true).run Tryz.prog w=.ok (.tuple #[v,.bool true]) w:=fun v w=>by kernel_rfl
 apply wpS_seq
 apply wpS_region
 simp [wpOpsS,go_sem,hta,Exit.thenS]
 apply wpS_seq
 apply wpS_seq
 apply wpS_region
 simp [wpOpsS,go_sem,Exit.thenS]
 refine wpS_cond (t:=false) (by simp [Act.eval,Act.put,Array.replicate]) ?_
 simp only [Bool.false_eq_true,if_false]
 refine wpS_of_wp (wp_skip ?_)
 simp only [Exit.thenS]
 have hbd:∀w:World,(Instr.build 40 #[]).run Tryz.prog w=.ok (.agg #[.slice none 0 0,.slice none 0 0]) w:=fun w=>by kernel_rfl
 have hold:∀k,k<w.heap.size→((w.alloc (.cells #[.int .i64 0] 200)).setCell ⟨w.heap.size,0,none⟩ (.int .i64 x)).heap[k]?=w.heap[k]?:=by
  intro k hk
  simp only [World.setCell,Array.getElem?_modify]
  rw [if_neg (by omega)]
  exact heap_alloc_old w _ k hk
 have hnew:((w.alloc (.cells #[.int .i64 0] 200)).setCell ⟨w.heap.size,0,none⟩ (.int .i64 x)).heap[w.heap.size]?=some (.cells #[.int .i64 x] 200 (0,0)):=by
  simp only [World.setCell,Array.getElem?_modify]
  rw [if_pos trivial,heap_alloc_new w _]
  rfl
 rw [←hold p lp] at h0
 rw [←hold q lq] at h1
 rw [←hold r lr] at h2
 have hbp:w.heap.size≠p:=by omega
 have hbq:w.heap.size≠q:=by omega
 have hbr:w.heap.size≠r:=by omega
 generalize ((w.alloc (.cells #[.int .i64 0] 200)).setCell ⟨w.heap.size,0,none⟩ (.int .i64 x))=W at h0 h1 h2 hnew ⊢
 clear hold lp lq lr
 generalize w.heap.size=b at hnew hbp hbq hbr ⊢
 have c1:W.cell? ⟨p,0,none⟩=some (.slice none 0 0):=by simp [World.cell?,h0]
 have c2:W.cell? ⟨p,1,none⟩=some (.slice none 0 0):=by simp [World.cell?,h0]
 have c3:W.cell? ⟨q,0,none⟩=some (.int .i64 0):=by simp [World.cell?,h1]
 have c4:W.cell? ⟨r,0,none⟩=some (.int .i64 0):=by simp [World.cell?,h2]
 have c5:W.cell? ⟨b,0,none⟩=some (.int .i64 x):=by simp [World.cell?,hnew]
 have f1:W.frozen? ⟨p,0,none⟩=false:=by simp [World.frozen?,h0]
 have f2:W.frozen? ⟨p,1,none⟩=false:=by simp [World.frozen?,h0]
 have f3:W.frozen? ⟨q,0,none⟩=false:=by simp [World.frozen?,h1]
 have f4:W.frozen? ⟨r,0,none⟩=false:=by simp [World.frozen?,h2]
 have hqp:=Ne.symm hpq
 have hrp:=Ne.symm hpr
 have hrq:=Ne.symm hqr
 have hpb:=Ne.symm hbp
 have hqb:=Ne.symm hbq
 have hrb:=Ne.symm hbr
 refine wpS_of_wp ?_
 go_region
 all_goals simp [bodyPostS,results,Tryz.results142]
def Tryz.rworld (w:World) (v:Value):World:=((((w.alloc (.cells #[.slice none 0 0,.slice none 0 0] 40)).alloc (.cells #[.int .i64 0] 3)).alloc (.cells #[.int .i64 0] 22)).alloc (.cells #[.slice none 0 0] 203)).setCell ⟨w.heap.size+3,0,none⟩ v
set_option maxRecDepth 100000 in
set_option maxHeartbeats 1000000 in
theorem Tryz.read_walk (ad:Addr) (n cap:Nat) (w:World) (Q:Value→Value→World→Prop)
  (hC:Calls Tryz.prog 143 #[.pointer (some ⟨w.heap.size+3,0,none⟩)] (Tryz.rworld w (.slice (some ad) (n+1) cap)) fun e w'=>∃u v,e=.returned (.agg #[u,v])∧u.oneCell'=true∧v.oneCell'=true∧Q u v w')
  (hQ:∀u v w',Q u v w'→w'.heap[w.heap.size]?=some (.cells #[.slice none 0 0,.slice none 0 0] 40 (0,0))∧w'.heap[w.heap.size+1]?=some (.cells #[.int .i64 0] 3 (0,0))∧w'.heap[w.heap.size+2]?=some (.cells #[.int .i64 0] 22 (0,0))):
  Calls Tryz.prog 87 #[.slice (some ad) (n+1) cap] w fun e w'=>∃u v w2,Q u v w2∧e=.returned (.tuple #[.agg #[u,v],.int .i64 0,.int .i64 0])∧
   w'=(((w2.setCell ⟨w.heap.size,0,none⟩ u).setCell ⟨w.heap.size,1,none⟩ v).setCell ⟨w.heap.size+1,0,none⟩ (.int .i64 0)).setCell ⟨w.heap.size+2,0,none⟩ (.int .i64 0):=by
 have hmf:∀(fn:Fn) (first cap:Array Value) (w:World),(Instr.makeFunc fn first cap).run Tryz.prog w=.ok (.func fn first cap) w:=fun _ _ _ _=>rfl
 go_enter_defers Tryz.func87,Tryz.ntmps87
 have hbp:∀(p:Option Addr) (n c:Nat) (w:World),(Instr.build 203 #[(0,.slice p n c)]).run Tryz.prog w=.ok (.agg #[.slice p n c]) w:=fun p n c w=>by kernel_rfl
 have hz:∀W:World,(W.alloc (.cells #[.slice none 0 0] 203)).frozen? ⟨W.heap.size,0,none⟩=false∧(W.alloc (.cells #[.slice none 0 0] 203)).cell? ⟨W.heap.size,0,none⟩=some (.slice none 0 0):=fun W=>by
  have:=heap_alloc_new W (.cells #[.slice none 0 0] 203)
  simp only [World.frozen?,World.cell?,this];exact ⟨rfl,rfl⟩
 obtain ⟨z1,z2⟩:=hz (((w.alloc (.cells #[.slice none 0 0,.slice none 0 0] 40)).alloc (.cells #[.int .i64 0] 3)).alloc (.cells #[.int .i64 0] 22))
 simp only [World.size_alloc] at z1 z2
 have hcl:∀w':World,(w'.heap[w.heap.size]?=some (.cells #[.slice none 0 0,.slice none 0 0] 40 (0,0))∧w'.heap[w.heap.size+1]?=some (.cells #[.int .i64 0] 3 (0,0))∧w'.heap[w.heap.size+2]?=some (.cells #[.int .i64 0] 22 (0,0)))→
   w'.cell? ⟨w.heap.size,0,none⟩=some (.slice none 0 0)∧w'.cell? ⟨w.heap.size,1,none⟩=some (.slice none 0 0)∧w'.cell? ⟨w.heap.size+1,0,none⟩=some (.int .i64 0)∧w'.cell? ⟨w.heap.size+1+1,0,none⟩=some (.int .i64 0)∧
   w'.frozen? ⟨w.heap.size,0,none⟩=false∧w'.frozen? ⟨w.heap.size,1,none⟩=false∧w'.frozen? ⟨w.heap.size+1,0,none⟩=false∧w'.frozen? ⟨w.heap.size+1+1,0,none⟩=false:=by
  rintro w' ⟨h1,h2,h3⟩
  refine ⟨?_, ?_, ?_, ?_, ?_, ?_, ?_, ?_⟩<;>simp [World.cell?,World.frozen?,h1,h2,h3]
 go_wp2_with (go_at_call 143;refine hC.mono ?_;rintro e w2 ⟨u,v,rfl,ou,ov,hq⟩;obtain ⟨c1,c2,c3,c4,f1,f2,f3,f4⟩:=hcl w2 (hQ u v w2 hq);have hsu:∀a W m,(store a u m).run Tryz.prog W=stored Tryz.prog W a u m:=fun a W m=>run_store _ _ _ _ _ ou;have hsv:∀a W m,(store a v m).run Tryz.prog W=stored Tryz.prog W a v m:=fun a W m=>run_store _ _ _ _ _ ov;have d4:(w2.setCell ⟨w.heap.size,0,none⟩ u).cell? ⟨w.heap.size+1+1,0,none⟩=some (.int .i64 0):=by rw [World.cell?_of_block (w:=w2) (by simp only [World.setCell,Array.getElem?_modify];rw [if_neg (by omega)])];exact c4)
 refine leaves_cons (f:=142) (args:=#[.pointer (some ⟨w.heap.size,0,none⟩),.pointer (some ⟨w.heap.size+1,0,none⟩),.pointer (some ⟨w.heap.size+1+1,0,none⟩)]) (by simp) (by simp [go_sem]) ?_
 refine (Tryz.rcatch_idle _ _ _ _).mono ?_
 rintro e u' w'' ⟨rfl,rfl,rfl⟩
 have n1:w.heap.size+1≠w.heap.size:=by omega
 have n2:w.heap.size+1+1≠w.heap.size:=by omega
 have n3:w.heap.size+1+1≠w.heap.size+1:=by omega
 have g1:((((w2.setCell ⟨w.heap.size,0,none⟩ u).setCell ⟨w.heap.size,1,none⟩ v).setCell ⟨w.heap.size+1,0,none⟩ (.int .i64 0)).setCell ⟨w.heap.size+1+1,0,none⟩ (.int .i64 0)).cell? ⟨w.heap.size,0,none⟩=some u:=by
  simp [go_sem,c1,c2,c3,c4,n1,n2,n3,n1.symm,n2.symm,n3.symm]
 have g2:((((w2.setCell ⟨w.heap.size,0,none⟩ u).setCell ⟨w.heap.size,1,none⟩ v).setCell ⟨w.heap.size+1,0,none⟩ (.int .i64 0)).setCell ⟨w.heap.size+1+1,0,none⟩ (.int .i64 0)).cell? ⟨w.heap.size,1,none⟩=some v:=by
  simp [go_sem,c1,c2,c3,c4,n1,n2,n3,n1.symm,n2.symm,n3.symm]
 have g3:((((w2.setCell ⟨w.heap.size,0,none⟩ u).setCell ⟨w.heap.size,1,none⟩ v).setCell ⟨w.heap.size+1,0,none⟩ (.int .i64 0)).setCell ⟨w.heap.size+1+1,0,none⟩ (.int .i64 0)).cell? ⟨w.heap.size+1,0,none⟩=some (.int .i64 0):=by
  simp [go_sem,c1,c2,c3,c4,n1,n2,n3,n1.symm,n2.symm,n3.symm]
 have g4:((((w2.setCell ⟨w.heap.size,0,none⟩ u).setCell ⟨w.heap.size,1,none⟩ v).setCell ⟨w.heap.size+1,0,none⟩ (.int .i64 0)).setCell ⟨w.heap.size+1+1,0,none⟩ (.int .i64 0)).cell? ⟨w.heap.size+1+1,0,none⟩=some (.int .i64 0):=by
  simp [go_sem,c1,c2,c3,c4,n1,n2,n3,n1.symm,n2.symm,n3.symm]
 simp [Leaves,settle,results,Tryz.results87,go_sem,g1,g2,g3,g4]
 exact ⟨u,v,w2,hq,⟨rfl,rfl⟩,rfl⟩
set_option maxRecDepth 100000 in
set_option maxHeartbeats 1000000 in
theorem Tryz.read_panic (ad:Addr) (n cap:Nat) (x:Int) (w:World) (Q:World→Prop)
  (hC:Calls Tryz.prog 143 #[.pointer (some ⟨w.heap.size+3,0,none⟩)] (Tryz.rworld w (.slice (some ad) (n+1) cap)) fun e w'=>e=.panicked [{ v:=.iface 200 (.agg #[.int .i64 x]),recovered:=false }]∧Q w')
  (hQ:∀w',Q w'→w'.heap[w.heap.size]?=some (.cells #[.slice none 0 0,.slice none 0 0] 40 (0,0))∧w'.heap[w.heap.size+1]?=some (.cells #[.int .i64 0] 3 (0,0))∧w'.heap[w.heap.size+2]?=some (.cells #[.int .i64 0] 22 (0,0))):
  Calls Tryz.prog 87 #[.slice (some ad) (n+1) cap] w fun e w'=>∃w2,Q w2∧e=.returned (.tuple #[.agg #[.slice none 0 0,.slice none 0 0],.int .i64 x,.int .i64 30])∧
   w'=(((((w2.alloc (.cells #[.int .i64 0] 200)).setCell ⟨w2.heap.size,0,none⟩ (.int .i64 x)).drew.setCell ⟨w.heap.size,0,none⟩ (.slice none 0 0)).setCell ⟨w.heap.size,1,none⟩ (.slice none 0 0)).setCell ⟨w.heap.size+1,0,none⟩ (.int .i64 x)).setCell ⟨w.heap.size+2,0,none⟩ (.int .i64 30):=by
 have hmf:∀(fn:Fn) (first cap:Array Value) (w:World),(Instr.makeFunc fn first cap).run Tryz.prog w=.ok (.func fn first cap) w:=fun _ _ _ _=>rfl
 go_enter_defers Tryz.func87,Tryz.ntmps87
 have hbp:∀(p:Option Addr) (n c:Nat) (w:World),(Instr.build 203 #[(0,.slice p n c)]).run Tryz.prog w=.ok (.agg #[.slice p n c]) w:=fun p n c w=>by kernel_rfl
 have hz:∀W:World,(W.alloc (.cells #[.slice none 0 0] 203)).frozen? ⟨W.heap.size,0,none⟩=false∧(W.alloc (.cells #[.slice none 0 0] 203)).cell? ⟨W.heap.size,0,none⟩=some (.slice none 0 0):=fun W=>by
  have:=heap_alloc_new W (.cells #[.slice none 0 0] 203)
  simp only [World.frozen?,World.cell?,this];exact ⟨rfl,rfl⟩
 obtain ⟨z1,z2⟩:=hz (((w.alloc (.cells #[.slice none 0 0,.slice none 0 0] 40)).alloc (.cells #[.int .i64 0] 3)).alloc (.cells #[.int .i64 0] 22))
 simp only [World.size_alloc] at z1 z2
 go_wp2_with (go_at_call 143;refine hC.mono ?_;rintro e w2 ⟨rfl,hq⟩)
 refine leaves_cons (f:=142) (args:=#[.pointer (some ⟨w.heap.size,0,none⟩),.pointer (some ⟨w.heap.size+1,0,none⟩),.pointer (some ⟨w.heap.size+1+1,0,none⟩)]) (by simp) (by simp [go_sem]) ?_
 obtain ⟨k1,k2,k3⟩:=hQ w2 hq
 have n1:w.heap.size+1≠w.heap.size:=by omega
 have n2:w.heap.size+1+1≠w.heap.size:=by omega
 have n3:w.heap.size+1+1≠w.heap.size+1:=by omega
 refine (Tryz.rcatch_busy w.heap.size (w.heap.size+1) (w.heap.size+1+1) x w2 k1 k2 k3 n1.symm n2.symm n3.symm).mono ?_
 rintro e u' w'' ⟨rfl,rfl,rfl⟩
 have lp:w.heap.size<w2.heap.size:=(Array.getElem?_eq_some_iff.1 k1).1
 have lq:w.heap.size+1<w2.heap.size:=(Array.getElem?_eq_some_iff.1 k2).1
 have lr:w.heap.size+1+1<w2.heap.size:=(Array.getElem?_eq_some_iff.1 k3).1
 have hold:∀k,k<w2.heap.size→((w2.alloc (.cells #[.int .i64 0] 200)).setCell ⟨w2.heap.size,0,none⟩ (.int .i64 x)).drew.heap[k]?=w2.heap[k]?:=by
  intro k hk
  show ((w2.alloc (.cells #[.int .i64 0] 200)).setCell ⟨w2.heap.size,0,none⟩ (.int .i64 x)).heap[k]?=w2.heap[k]?
  simp only [World.setCell,Array.getElem?_modify]
  rw [if_neg (by omega)]
  exact heap_alloc_old w2 _ k hk
 rw [←hold _ lp] at k1
 rw [←hold _ lq] at k2
 rw [←hold _ lr] at k3
 generalize hW:((w2.alloc (.cells #[.int .i64 0] 200)).setCell ⟨w2.heap.size,0,none⟩ (.int .i64 x)).drew=W at k1 k2 k3 ⊢
 have c1:W.cell? ⟨w.heap.size,0,none⟩=some (.slice none 0 0):=by simp [World.cell?,k1]
 have c2:W.cell? ⟨w.heap.size,1,none⟩=some (.slice none 0 0):=by simp [World.cell?,k1]
 have c3:W.cell? ⟨w.heap.size+1,0,none⟩=some (.int .i64 0):=by simp [World.cell?,k2]
 have c4:W.cell? ⟨w.heap.size+1+1,0,none⟩=some (.int .i64 0):=by simp [World.cell?,k3]
 have g1:((((W.setCell ⟨w.heap.size,0,none⟩ (.slice none 0 0)).setCell ⟨w.heap.size,1,none⟩ (.slice none 0 0)).setCell ⟨w.heap.size+1,0,none⟩ (.int .i64 x)).setCell ⟨w.heap.size+1+1,0,none⟩ (.int .i64 30)).cell? ⟨w.heap.size,0,none⟩=some (.slice none 0 0):=by
  simp [go_sem,c1,c2,c3,c4,n1,n2,n3,n1.symm,n2.symm,n3.symm]
 have g2:((((W.setCell ⟨w.heap.size,0,none⟩ (.slice none 0 0)).setCell ⟨w.heap.size,1,none⟩ (.slice none 0 0)).setCell ⟨w.heap.size+1,0,none⟩ (.int .i64 x)).setCell ⟨w.heap.size+1+1,0,none⟩ (.int .i64 30)).cell? ⟨w.heap.size,1,none⟩=some (.slice none 0 0):=by
  simp [go_sem,c1,c2,c3,c4,n1,n2,n3,n1.symm,n2.symm,n3.symm]
 have g3:((((W.setCell ⟨w.heap.size,0,none⟩ (.slice none 0 0)).setCell ⟨w.heap.size,1,none⟩ (.slice none 0 0)).setCell ⟨w.heap.size+1,0,none⟩ (.int .i64 x)).setCell ⟨w.heap.size+1+1,0,none⟩ (.int .i64 30)).cell? ⟨w.heap.size+1,0,none⟩=some (.int .i64 x):=by
  simp [go_sem,c1,c2,c3,c4,n1,n2,n3,n1.symm,n2.symm,n3.symm]
 have g4:((((W.setCell ⟨w.heap.size,0,none⟩ (.slice none 0 0)).setCell ⟨w.heap.size,1,none⟩ (.slice none 0 0)).setCell ⟨w.heap.size+1,0,none⟩ (.int .i64 x)).setCell ⟨w.heap.size+1+1,0,none⟩ (.int .i64 30)).cell? ⟨w.heap.size+1+1,0,none⟩=some (.int .i64 30):=by
  simp [go_sem,c1,c2,c3,c4,n1,n2,n3,n1.symm,n2.symm,n3.symm]
 simp [Leaves,settle,results,Tryz.results87,go_sem,g1,g2,g3,g4]
 refine ⟨w2,hq, ?_⟩
 rw [hW]
end Go.Proofs
namespace Go.Ai.Z
open Go.Proofs
theorem YC {g:ah} {n:Nat} {vs:Array Value} {a:AV} (h:aS g n vs.toList [a]):∃v,vs=#[v]∧Rep g n v a:=by
 obtain ⟨l⟩:=vs
 match l,h.1 with
 | [v],_=>exact ⟨v,rfl,h.head⟩
theorem U1 {P:Program} {glob:Nat→Option (List AV)} {g:ah} {s:St} {w w':World} (h:Base P glob g s w) (bs:Nat→Prop) (hsz:w.heap.size≤w'.heap.size) (hsame:∀b,¬bs b→w'.heap[b]?=w.heap[b]?)
  (hoff:∀b,bs b→(∀o,g.m b o=none)∧g.mm b=none∧¬g.taken s.length b):Base P glob g s w':=by
 refine ⟨⟨fun c o v hv=>?_,fun c es hc=>?_⟩,h.heap.next (.refl _ _) (fun _ _=>rfl) hsz (fun b hb=>⟨hsame b (fun hbs=>(hoff b hbs).2.2 hb),rfl,rfl⟩),h.glob⟩
 ·have hcb:¬bs c:=fun hcb=>by rw [(hoff c hcb).1 o] at hv;cases hv
  rw [World.cell?_of_block (hsame c hcb)];exact h.imm.m c o v hv
 ·have hcb:¬bs c:=fun hcb=>by rw [(hoff c hcb).2.1] at hc;cases hc
  exact (h.imm.mm c es hc).keep (hsame c hcb)
theorem qV {w:World} {b i c:Nat} {v:Value} (h:c≠b):(w.setCell ⟨b,i,none⟩ v).heap[c]?=w.heap[c]?:=by
 simp only [World.setCell,Array.getElem?_modify]
 rw [if_neg (Ne.symm h)]
theorem aim {g:ah} {w:World} (h:Imm g w) {b o:Nat} {v:Value} (hm:g.m b o=some v):b<w.heap.size:=by
 have:=h.m b o v hm
 by_cases hb:b<w.heap.size
 ·exact hb
 ·have hn:w.heap[b]?=none:=Array.getElem?_eq_none (by omega)
  simp [World.cell?,hn] at this
theorem aci (w:World) (v:Value):Tryz.rworld w v=(((w.alloc (.cells #[.slice none 0 0,.slice none 0 0] 40)).alloc (.cells #[.int .i64 0] 3)).alloc (.cells #[.int .i64 0] 22)).alloc (.cells #[v] 203):=by
 have key:∀W:World,(W.alloc (.cells #[.slice none 0 0] 203)).setCell ⟨W.heap.size,0,none⟩ v=W.alloc (.cells #[v] 203):=by
  intro W
  have hh:((W.alloc (.cells #[.slice none 0 0] 203)).setCell ⟨W.heap.size,0,none⟩ v).heap=(W.alloc (.cells #[v] 203)).heap:=by
   apply Array.ext_getElem?
   intro j
   simp only [World.setCell,Array.getElem?_modify]
   by_cases hj:j<W.heap.size
   ·rw [if_neg (by omega),heap_alloc_old _ _ _ hj,heap_alloc_old _ _ _ hj]
   ·by_cases hj2:W.heap.size=j
    ·subst hj2
     rw [if_pos rfl,heap_alloc_new,heap_alloc_new];rfl
    ·rw [if_neg hj2,Array.getElem?_eq_none (by simp;omega),Array.getElem?_eq_none (by simp;omega)]
  have h2:({ (W.alloc (.cells #[.slice none 0 0] 203)) with heap:=((W.alloc (.cells #[.slice none 0 0] 203)).setCell ⟨W.heap.size,0,none⟩ v).heap }:World)=W.alloc (.cells #[v] 203):=by rw [hh];rfl
  exact h2
 have:=key (((w.alloc (.cells #[.slice none 0 0,.slice none 0 0] 40)).alloc (.cells #[.int .i64 0] 3)).alloc (.cells #[.int .i64 0] 22))
 simpa [Tryz.rworld] using this
set_option maxHeartbeats 2000000 in
theorem agb {glob:Nat→Option (List AV)}:ag4 Tryz.prog glob 87 (.readK 143 200 (.ag [.ns,.ns])):=by
 refine ⟨⟨Tryz.f87,Tryz.func87,by kernel_rfl,by kernel_rfl⟩,fun call qcall hcall hext hq hcf hqf args s cx r s' hcx h g w vs hb hv m=>callsIn_wide.2 ?_⟩
 unfold jy at h
 split at h
 ·rename_i hk;cases hk
 ·rename_i hk;cases hk
 ·rename_i hk;cases hk
 ·rename_i hk;cases hk
 ·rename_i hk;cases hk
 ·rename_i hk;cases hk
 ·rename_i f0 t0 z0 e0 es hk
  cases hk
  obtain ⟨v0,rfl,rv⟩:=YC hv
  generalize hes:e0::es=E at rv h
  obtain ⟨ad,cap,hv0⟩:∃ad cap,v0=.slice (some ad) (es.length+1) cap:=by
   cases rv with
   | slNil=>cases hes
   | slE a=>cases hes
   | sl bk off cap sz _ c hcap hsz hm hrr=>exact ⟨⟨bk,off,none⟩,cap,by rw [←hes];rfl⟩
  subst hv0
  let w3:World:=((w.alloc (.cells #[.slice none 0 0,.slice none 0 0] 40)).alloc (.cells #[.int .i64 0] 3)).alloc (.cells #[.int .i64 0] 22)
  have hsz3:w3.heap.size=w.heap.size+3:=by simp [w3]
  have hb3:Base Tryz.prog glob g s w3:=((hb.grew (Grew.alloc (qt:=True) w _)).grew (Grew.alloc (qt:=True) _ _)).grew (Grew.alloc (qt:=True) _ _)
  let a0:Act:={ tmps:=#[],defers:=[] }
  have hsim:Sim Tryz.prog glob g s w3.heap.size w3 (Act.tm a0) []:=⟨hb3,⟨fun k e hk=>by simp [lk] at hk,fun k k' e e' hk=>by simp [lk] at hk,fun k e hk=>by simp [lk] at hk,fun k e j hk=>by simp [lk] at hk⟩,Nat.le_refl _⟩
  obtain ⟨st4,sm4⟩:=MO hsim (ob:=.cells #[.slice (some ad) (es.length+1) cap] 203) (ho:=.cells [.sl E]) ⟨(fun _ _ _ hh=>by cases hh),(fun _ hh=>by cases hh),(fun _ _ _ _ hh=>by cases hh),(fun _ hh=>by cases hh)⟩
   (fun cs' hcs=>by cases hcs;exact ⟨#[.slice (some ad) (es.length+1) cap],203,rfl,.cons rv (.nil _ _),fun x hx=>by simp at hx;subst hx;rfl⟩) (fun _ _ _ _ _ hh=>by cases hh) (fun hh=>by cases hh)
  have hw4:Tryz.rworld w (.slice (some ad) (es.length+1) cap)=w3.alloc (.cells #[.slice (some ad) (es.length+1) cap] 203):=aci w _
  have hcx4:fE cx (s++[.cells [.sl E]]):=hcx.ext (.push hcx _)
  have rpt:Rep (g.place s.length w3.heap.size) (s++[dJ.cells [.sl E]]).length (.pointer (some ⟨w.heap.size+3,0,none⟩)) (.pt s.length 0):=by
   have:=Rep.pt (g:=g.place s.length w3.heap.size) (n:=(s++[dJ.cells [.sl E]]).length) s.length 0 (by simp)
   simpa [ah.place,hsz3] using this
  have hn:∀b,w.heap.size≤b→¬g.taken s.length b:=fun b hb' ht=>by have:=hb.heap.taken_lt ht;omega
  have hst1:Step False g s.length w.heap.size w g s.length w3:=
   ⟨.refl _ _,by rw [hsz3];omega,fun b hb' _=>by
    show (((w.alloc _).alloc _).alloc _).heap[b]?=_
    rw [heap_alloc_old _ _ _ (by simp;omega),heap_alloc_old _ _ _ (by simp;omega),heap_alloc_old _ _ _ hb'],fun _ _ _=>rfl,fun _ _=>rfl,fun b hb'=>.inl hb',rfl,rfl,fun hF=>hF.elim⟩
  have hst14:Step False g s.length w.heap.size w (g.place s.length w3.heap.size) (s++[dJ.cells [.sl E]]).length (w3.alloc (.cells #[.slice (some ad) (es.length+1) cap] 203)):=
   hst1.trans (st4.weak.lower (by rw [hsz3];omega))
  have kq:w3.heap[w.heap.size]?=some (.cells #[.slice none 0 0,.slice none 0 0] 40 (0,0)):=by
   show (((w.alloc _).alloc _).alloc _).heap[w.heap.size]?=_
   rw [heap_alloc_old _ _ _ (by simp only [World.size_alloc];omega),heap_alloc_old _ _ _ (by simp only [World.size_alloc];omega)];exact heap_alloc_new w _
  have ki:w3.heap[w.heap.size+1]?=some (.cells #[.int .i64 0] 3 (0,0)):=by
   show (((w.alloc _).alloc _).alloc _).heap[w.heap.size+1]?=_
   rw [heap_alloc_old _ _ _ (by simp only [World.size_alloc];omega)]
   have:=heap_alloc_new (w.alloc (.cells #[.slice none 0 0,.slice none 0 0] 40)) (.cells #[.int .i64 0] 3)
   simpa using this
  have ke:w3.heap[w.heap.size+2]?=some (.cells #[.int .i64 0] 22 (0,0)):=by
   have:=heap_alloc_new ((w.alloc (.cells #[.slice none 0 0,.slice none 0 0] 40)).alloc (.cells #[.int .i64 0] 3)) (.cells #[.int .i64 0] 22)
   simpa [w3] using this
  -- the three result cells are nobody's,then and behind the call
  have hkeep:∀g' n' w2,Step False (g.place s.length w3.heap.size) (s++[dJ.cells [.sl E]]).length (w3.alloc (.cells #[.slice (some ad) (es.length+1) cap] 203)).heap.size (w3.alloc (.cells #[.slice (some ad) (es.length+1) cap] 203)) g' n' w2→
    ∀b,w.heap.size≤b→b<w.heap.size+3→w2.heap[b]?=w3.heap[b]?:=by
   intro g' n' w2 hst b h1 h2
   have h3:¬(g.place s.length w3.heap.size).taken (s++[dJ.cells [.sl E]]).length b:=fun ht=>by
    rcases st4.new b ht with h4|h4
    ·exact hn b h1 h4
    ·omega
   rw [hst.keep b (by simp;omega) h3,heap_alloc_old _ _ _ (by omega)]
  have hoff:∀g' n' w2,Step False (g.place s.length w3.heap.size) (s++[dJ.cells [.sl E]]).length (w3.alloc (.cells #[.slice (some ad) (es.length+1) cap] 203)).heap.size (w3.alloc (.cells #[.slice (some ad) (es.length+1) cap] 203)) g' n' w2→
    ∀b,w.heap.size≤b→b<w.heap.size+3→(∀o,g'.m b o=none)∧g'.mm b=none∧¬g'.taken n' b:=by
   intro g' n' w2 hst b h1 h2
   have hlt:b<(w3.alloc (.cells #[.slice (some ad) (es.length+1) cap] 203)).heap.size:=by simp;omega
   have h3:¬(g.place s.length w3.heap.size).taken (s++[dJ.cells [.sl E]]).length b:=fun ht=>by
    rcases st4.new b ht with h4|h4
    ·exact hn b h1 h4
    ·omega
   refine ⟨fun o=>?_, ?_,fun ht=>?_⟩
   ·rw [hst.m b hlt h3,st4.m b (by omega) (hn b h1)]
    cases hm:g.m b o with
    | none=>rfl
    | some v=>have:=aim hb.imm hm;omega
   ·rw [hst.mm b hlt,st4.mm b (by omega)]
    cases hm:g.mm b with
    | none=>rfl
    | some es=>have:=(hb.imm.mm b es hm).lt;omega
   ·rcases hst.new b ht with h4|h4
    ·exact h3 h4
    ·omega
  split at h
  ·rename_i x y s0 hc
   cases h
   obtain ⟨rf,q1,q2,q3⟩:=hcf _ _ _ _ _ _ _ _ (.inl hc)
   obtain ⟨fid,args',p1,p2⟩:=hcall.fn (.fn (.func 143) [] []) [.pt s.length 0] (s++[.cells [.sl E]]) cx _ s' hcx4 (fun l=>by simp) hc _ _ (.func (.func 143) #[] #[]) #[.pointer (some ⟨w.heap.size+3,0,none⟩)] sm4.base
    (.fn _ _ _ _ _ rfl rfl (fun i hi=>by simp at hi) (fun i hi=>by simp at hi)) (.cons rpt (.nil _ _))
   rw [tN q1 q2 q3] at p1
   cases p1
   have hC:=callsIn_wide.1 (p2 0)
   rw [←hw4] at hC
   refine (Tryz.read_walk ad es.length cap w (fun u v w2=>∃g',Step False (g.place s.length w3.heap.size) (s++[dJ.cells [.sl E]]).length (w3.alloc (.cells #[.slice (some ad) (es.length+1) cap] 203)).heap.size (w3.alloc (.cells #[.slice (some ad) (es.length+1) cap] 203)) g' s'.length w2∧Base Tryz.prog glob g' s' w2∧Rep g' s'.length (.agg #[u,v]) (.ag [x,y])) ?_ ?_).mono fun e w' he=>?_
   ·have hC':Calls Tryz.prog 143 #[.pointer (some ⟨w.heap.size+3,0,none⟩)] (Tryz.rworld w (.slice (some ad) (es.length+1) cap)) (Ret False Tryz.prog glob (g.place s.length w3.heap.size) (s++[dJ.cells [.sl E]]) (Tryz.rworld w (.slice (some ad) (es.length+1) cap)) (.ag [x,y]) s'):=by simpa using hC
    refine hC'.mono fun e w' he=>?_
    obtain ⟨v,g',rfl,hst,hb2,hrv⟩:=he
    rw [hw4] at hst
    cases hrv with
    | ag us _ hl h1 hr=>
     have e0:us.size=2:=by simpa using hl
     obtain ⟨ul⟩:=us
     match ul,e0 with
     | [u,v],_=>
      refine ⟨u,v,rfl,by simpa using h1 0 (by simp),by simpa using h1 1 (by simp),g',hst,hb2,.ag _ _ hl h1 hr⟩
   ·rintro u v w2 ⟨g',hst,_,_⟩
    exact ⟨(hkeep _ _ _ hst _ (Nat.le_refl _) (by omega)).trans kq,(hkeep _ _ _ hst _ (by omega) (by omega)).trans ki,(hkeep _ _ _ hst _ (by omega) (by omega)).trans ke⟩
   ·obtain ⟨u,v,w2,⟨g',hst,hb2,hrv⟩,rfl,rfl⟩:=he
    have hother:∀b,¬(w.heap.size≤b∧b<w.heap.size+3)→((((w2.setCell ⟨w.heap.size,0,none⟩ u).setCell ⟨w.heap.size,1,none⟩ v).setCell ⟨w.heap.size+1,0,none⟩ (.int .i64 0)).setCell ⟨w.heap.size+2,0,none⟩ (.int .i64 0)).heap[b]?=w2.heap[b]?:=by
     intro b hb'
     rw [qV (by omega),qV (by omega),qV (by omega),qV (by omega)]
    have hsize:((((w2.setCell ⟨w.heap.size,0,none⟩ u).setCell ⟨w.heap.size,1,none⟩ v).setCell ⟨w.heap.size+1,0,none⟩ (.int .i64 0)).setCell ⟨w.heap.size+2,0,none⟩ (.int .i64 0)).heap.size=w2.heap.size:=by simp [World.setCell]
    have hb3':=U1 hb2 (fun b=>w.heap.size≤b∧b<w.heap.size+3) (by rw [hsize];exact Nat.le_refl _) hother (fun b hb'=>hoff _ _ _ hst b hb'.1 hb'.2)
    have hst3:Step False g' s'.length w.heap.size w2 g' s'.length ((((w2.setCell ⟨w.heap.size,0,none⟩ u).setCell ⟨w.heap.size,1,none⟩ v).setCell ⟨w.heap.size+1,0,none⟩ (.int .i64 0)).setCell ⟨w.heap.size+2,0,none⟩ (.int .i64 0)):=
     ⟨.refl _ _,by rw [hsize];exact Nat.le_refl _,fun b hb' _=>hother b (by omega),fun _ _ _=>rfl,fun _ _=>rfl,fun b hb'=>.inl hb',rfl,rfl,fun hF=>hF.elim⟩
    refine ⟨_,g',rfl,(hst14.trans (hst.lower (by simp;omega))).trans hst3,hb3',.tu _ _ rfl fun i hi hi'=>?_⟩
    match i,hi with
    | 0,_=>exact hrv
    | 1,_=>exact .i _ _
    | 2,_=>exact .i _ _
  ·rename_i t' x s0 hc
   split at h
   case isFalse=>cases h
   rename_i htt
   subst htt
   cases h
   obtain ⟨rf,q1,q2,q3⟩:=hcf _ _ _ _ _ _ _ _ (.inr hc)
   obtain ⟨fid,args',p1,p2⟩:=hcall.pan (.fn (.func 143) [] []) [.pt s.length 0] (s++[.cells [.sl E]]) cx _ s' hcx4 hc _ _ (.func (.func 143) #[] #[]) #[.pointer (some ⟨w.heap.size+3,0,none⟩)] sm4.base
    (.fn _ _ _ _ _ rfl rfl (fun i hi=>by simp at hi) (fun i hi=>by simp at hi)) (.cons rpt (.nil _ _))
   rw [tN q1 q2 q3] at p1
   cases p1
   have hC:=callsIn_wide.1 (p2 0)
   rw [←hw4] at hC
   refine (Tryz.read_panic ad es.length cap x w (fun w2=>∃g',Step False (g.place s.length w3.heap.size) (s++[dJ.cells [.sl E]]).length (w3.alloc (.cells #[.slice (some ad) (es.length+1) cap] 203)).heap.size (w3.alloc (.cells #[.slice (some ad) (es.length+1) cap] 203)) g' s'.length w2∧Base Tryz.prog glob g' s' w2) ?_ ?_).mono fun e w' he=>?_
   ·have hC':Calls Tryz.prog 143 #[.pointer (some ⟨w.heap.size+3,0,none⟩)] (Tryz.rworld w (.slice (some ad) (es.length+1) cap)) (Pan False Tryz.prog glob (g.place s.length w3.heap.size) (s++[dJ.cells [.sl E]]) (Tryz.rworld w (.slice (some ad) (es.length+1) cap)) (.ifc 200 (.ag [.i .i64 x])) s'):=by simpa using hC
    refine hC'.mono fun e w' he=>?_
    obtain ⟨u,g',rfl,hst,hb2,hru⟩:=he
    rw [hw4] at hst
    refine ⟨?_,g',hst,hb2⟩
    cases hru with
    | ifc _ vv _ hr=>
     cases hr with
     | ag us _ hl1 _ hr=>
      have e0:us.size=1:=by simpa using hl1
      obtain ⟨ul⟩:=us
      match ul,e0 with
      | [p],_=>
       have r0:=hr 0 (by simp) (by simp)
       simp at r0
       cases r0
       rfl
   ·rintro w2 ⟨g',hst,_⟩
    exact ⟨(hkeep _ _ _ hst _ (Nat.le_refl _) (by omega)).trans kq,(hkeep _ _ _ hst _ (by omega) (by omega)).trans ki,(hkeep _ _ _ hst _ (by omega) (by omega)).trans ke⟩
   ·obtain ⟨w2,⟨g',hst,hb2⟩,rfl,rfl⟩:=he
    have hW2:w.heap.size+3≤w2.heap.size:=by have:=hst.size;simp at this;omega
    let W5:World:=((w2.alloc (.cells #[.int .i64 0] 200)).setCell ⟨w2.heap.size,0,none⟩ (.int .i64 x)).drew
    have hold:∀k,k<w2.heap.size→W5.heap[k]?=w2.heap[k]?:=by
     intro k hk
     show ((w2.alloc (.cells #[.int .i64 0] 200)).setCell ⟨w2.heap.size,0,none⟩ (.int .i64 x)).heap[k]?=w2.heap[k]?
     rw [qV (by omega)]
     exact heap_alloc_old w2 _ k hk
    have hgr:Grew False w2 W5:=⟨by show _≤((w2.alloc (.cells #[.int .i64 0] 200)).setCell ⟨w2.heap.size,0,none⟩ (.int .i64 x)).heap.size;simp [World.setCell],hold,rfl,rfl,fun hF=>hF.elim⟩
    have hb5:Base Tryz.prog glob g' s' W5:=hb2.grew hgr
    have hother:∀b,¬(w.heap.size≤b∧b<w.heap.size+3)→((((W5.setCell ⟨w.heap.size,0,none⟩ (.slice none 0 0)).setCell ⟨w.heap.size,1,none⟩ (.slice none 0 0)).setCell ⟨w.heap.size+1,0,none⟩ (.int .i64 x)).setCell ⟨w.heap.size+2,0,none⟩ (.int .i64 30)).heap[b]?=W5.heap[b]?:=by
     intro b hb'
     rw [qV (by omega),qV (by omega),qV (by omega),qV (by omega)]
    have hsize:((((W5.setCell ⟨w.heap.size,0,none⟩ (.slice none 0 0)).setCell ⟨w.heap.size,1,none⟩ (.slice none 0 0)).setCell ⟨w.heap.size+1,0,none⟩ (.int .i64 x)).setCell ⟨w.heap.size+2,0,none⟩ (.int .i64 30)).heap.size=W5.heap.size:=by simp [World.setCell]
    have hb3':=U1 hb5 (fun b=>w.heap.size≤b∧b<w.heap.size+3) (by rw [hsize];exact Nat.le_refl _) hother (fun b hb'=>hoff _ _ _ hst b hb'.1 hb'.2)
    have hst3:Step False g' s'.length w.heap.size w2 g' s'.length ((((W5.setCell ⟨w.heap.size,0,none⟩ (.slice none 0 0)).setCell ⟨w.heap.size,1,none⟩ (.slice none 0 0)).setCell ⟨w.heap.size+1,0,none⟩ (.int .i64 x)).setCell ⟨w.heap.size+2,0,none⟩ (.int .i64 30)):=
     ⟨.refl _ _,by rw [hsize];exact hgr.size,fun b hb' _=>(hother b (by omega)).trans (hold b (by omega)),fun _ _ _=>rfl,fun _ _=>rfl,fun b hb'=>.inl hb',rfl,rfl,fun hF=>hF.elim⟩
    refine ⟨_,g',rfl,(hst14.trans (hst.lower (by simp;omega))).trans hst3,hb3',.tu _ _ rfl fun i hi hi'=>?_⟩
    match i,hi with
    | 0,_=>exact .ag _ _ rfl (fun i hi=>by match i,hi with | 0,_=>rfl | 1,_=>rfl) (fun i hi hi'=>by match i,hi with | 0,_=>exact .ns | 1,_=>exact .ns)
    | 1,_=>exact .i _ _
    | 2,_=>exact .i _ _
  ·cases h
 ·cases h
end Go.Ai.Z
