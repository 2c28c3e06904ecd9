/-
 owl.Read is a function that defers one closure, which recovers; ahead of it stands a test that may return.
-/
import Derived.Test.YtcofenimejmoeaaGreatDoorAiPZDecO
set_option maxRecDepth 100000
set_option linter.unusedSimpArgs false
set_option linter.unusedVariables false
set_option linter.unusedSectionVars false
namespace Go.Ai.Z
open Go.Proofs
set_option maxRecDepth 100000
def alX (P:Program) (rf:Func) (d:Hz):Bool:=!(rf.name == "runtime.NumGoroutine") && (match rf.body,d.mid with
 | some (.seq (.region _ ops0 false) (.seq cm (.seq (.region _ ops1 false) _))),some m=>xE P (.std rf.ntmps) cm m && (match ops1.toList with
  | [o1,o2]=>mV P (.std rf.ntmps) ops0 ops0.toList d.pre && xk P (.std rf.ntmps) #[o1,o2] o1 d.mkc && (match o2.op,o2.dst,o2.guard with
   | .defer cc,none,none=>(match cc.callee with | .value (.tmp t)=>t == d.ct | _=>false) && cc.args.size == 0
   | _,_,_=>false)
  | _=>false)
 | _,_=>false) && decide (d.np≤rf.ntmps) && zk P rf.results.toList d.res && (d.pins.all fun k=>decide (k<d.lo))
def alW (P:Program) (rf:Func) (d:Hz) (pn:List (Nat×Nat)) (dd:List Deferred):Bool:=match rf.body with
 | some (.seq (.region _ _ false) (.seq _ (.seq (.region _ _ false) c)))=>xE P ⟨rf.ntmps,d.lo,pn,dd⟩ c d.code
 | _=>false
theorem okD {P:Program} {f:FuncId} {rf:Func} {d:Hz} (hf:P.funcs[f]?=some rf) (h2:alX P rf d=true) (h3:∀pn dd,alW P rf d pn dd=true) (hc:agy P d.clo d.pins.length d.hnd):ab3 P f d:=by
 refine ⟨hc,rf, ?_⟩;unfold alX at h2;simp only [Bool.and_eq_true,Bool.not_eq_true',decide_eq_true_eq] at h2;obtain ⟨⟨⟨⟨h4,h5⟩,h6⟩,h7⟩,h8⟩:=h2
 split at h5
 ·rename_i i0 A cm i1 I c m hb hm;rw [Bool.and_eq_true] at h5;obtain ⟨Q,h5⟩:=h5
  split at h5
  ·rename_i o1 o2 ho;simp only [Bool.and_eq_true] at h5;obtain ⟨⟨h9,K⟩,h11⟩:=h5
   split at h11
   ·rename_i cc e1 e2 e3;simp only [Bool.and_eq_true,beq_iff_eq] at h11;obtain ⟨p,O⟩:=h11;have J:I=#[o1,o2]:=Array.ext' (by simpa using ho);subst J;refine ⟨i0,A,i1,o1,o2,c,cc,cm,hf,h4,by rw [hb,hm],fun m' x=>?_,h9,K,⟨e1,e2,e3, ?_,Array.eq_empty_of_size_eq_zero O⟩,fun pn dd=>?_,h6,h7,h8⟩
    ·rw [hm] at x;cases x;exact Q
    ·split at p
     ·rename_i t ht;simp only [beq_iff_eq] at p;rw [ht,p]
     ·cases p
    ·have:=h3 pn dd
     unfold alW at this;rw [hb] at this;exact this
   ·cases h11
  ·cases h5
 ·cases h5
theorem abY {a:Array Value} (h:a.size=1):∃x,a=#[x]:=by
 obtain ⟨l⟩:=a
 match l,h with
 | [x],_=>exact ⟨x,rfl⟩
theorem amm {a:Array Value} (h:a.size=2):∃x0 x1,a=#[x0,x1]:=by
 obtain ⟨l⟩:=a
 match l,h with
 | [x0,x1],_=>exact ⟨x0,x1,rfl⟩
set_option maxHeartbeats 2000000 in
theorem ahd:agy Tryz.prog Fv 4 vV:=by
 refine ⟨⟨_,Tryz.func31,by kernel_rfl,by kernel_rfl⟩,fun bs w hl=>?_,fun bs w v u g n a6 hn hr hl a1 a7 x=>?_⟩
 ·match bs,hl with
  | [p,q,r,z],_=>exact Tryz.dcatch_idle _ _ _ _ w
 ·match bs,hl with
  | [p,q,r,z],_=>
   unfold vV at hn
   split at hn
   case h_2=>cases hn
   rename_i t a c
   split at hn
   case isFalse=>cases hn
   rename_i ht;cases hn;subst ht;obtain ⟨a5,t0,h0,a4⟩:=x 0 (by simp) (by simp);obtain ⟨S,t1,h1,R⟩:=x 1 (by simp) (by simp);obtain ⟨W,t2,h2,Y⟩:=x 2 (by simp) (by simp);obtain ⟨Q,t3,h3,P⟩:=x 3 (by simp) (by simp);simp only [List.getElem_cons_zero,List.getElem_cons_succ] at h0 h1 h2 h3 a4 R Y P;simp only [List.nodup_cons,List.mem_cons,List.not_mem_nil,or_false,not_or,not_false_eq_true,List.nodup_nil,and_true] at a1;obtain ⟨⟨O,K,A⟩,⟨I,J⟩,nrz⟩:=a1;obtain ⟨a0,rfl⟩:=abY (a:=a5) (by simpa using a4);obtain ⟨b0,rfl⟩:=abY (a:=S) (by simpa using R);obtain ⟨c0,rfl⟩:=abY (a:=W) (by simpa using Y);obtain ⟨d0,rfl⟩:=abY (a:=Q) (by simpa using P)
   cases hr with
   | ifc _ uv _ huv=>
   cases huv with
   | ag us _ hul _ hus=>
   obtain ⟨u0,u1,rfl⟩:=amm (a:=us) (by simpa using hul);have a2:=hus 0 (by simp) (by simp);have Z:=hus 1 (by simp) (by simp);simp only [List.getElem_cons_zero,List.getElem_cons_succ,List.getElem_toArray] at a2 Z;cases a2;cases Z;refine (Tryz.dcatch_busy p q r z a0 b0 c0 d0 t0 t1 t2 t3 a c w h0 h1 h2 h3 O K A I J nrz).mono ?_;rintro e u' w' ⟨rfl,rfl,rfl⟩;have lp:p<w.heap.size:=(Array.getElem?_eq_some_iff.1 h0).1;have lq:q<w.heap.size:=(Array.getElem?_eq_some_iff.1 h1).1;have lr:r<w.heap.size:=(Array.getElem?_eq_some_iff.1 h2).1;have lz:z<w.heap.size:=(Array.getElem?_eq_some_iff.1 h3).1;refine ⟨rfl,rfl, ?_,by simp only [World.setCell,World.drew,World.alloc],by simp only [World.setCell,World.drew,World.alloc],fun b hb a3=>?_,fun i hi a8=>?_⟩
   ·simp only [World.setCell,World.drew,World.alloc,Array.size_modify,Array.size_push];omega
   ·simp only [List.mem_cons,List.not_mem_nil,or_false,not_or] at a3;obtain ⟨n1,n2,n3,n4⟩:=a3;simp only [World.setCell,World.drew,Array.getElem?_modify];rw [if_neg (fun h=>n4 h.symm),if_neg (fun h=>n3 h.symm),if_neg (fun h=>n2 h.symm),if_neg (fun h=>n1 h.symm),if_neg (by omega),if_neg (by omega)];exact heap_alloc_old w _ b hb
   ·match i,hi with
    | 0,_=>
     refine ⟨#[.slice none 0 0],t0, ?_, ?_, ?_⟩
     ·simp only [List.getElem_cons_zero,World.setCell,World.drew,Array.getElem?_modify];rw [if_neg (Ne.symm A),if_neg (Ne.symm K),if_neg (Ne.symm O),if_pos trivial,if_neg (by omega),if_neg (by omega),heap_alloc_old w _ p lp,h0];rfl
     ·refine ⟨rfl,fun i h h'=>?_⟩
      match i,h with
      | 0,_=>exact .ns
     ·intro v hv;simp at hv;subst hv;rfl
    | 1,_=>
     refine ⟨#[.string ⟨#[]⟩],t1, ?_, ?_, ?_⟩
     ·simp only [List.getElem_cons_succ,List.getElem_cons_zero,World.setCell,World.drew,Array.getElem?_modify];rw [if_neg (Ne.symm J),if_neg (Ne.symm I),if_pos trivial,if_neg O,if_neg (by omega),if_neg (by omega),heap_alloc_old w _ q lq,h1];rfl
     ·refine ⟨rfl,fun i h h'=>?_⟩
      match i,h with
      | 0,_=>exact .s _
     ·intro v hv;simp at hv;subst hv;rfl
    | 2,_=>
     refine ⟨#[.int .i64 a],t2, ?_, ?_, ?_⟩
     ·simp only [List.getElem_cons_succ,List.getElem_cons_zero,World.setCell,World.drew,Array.getElem?_modify];rw [if_neg (Ne.symm nrz),if_pos trivial,if_neg I,if_neg K,if_neg (by omega),if_neg (by omega),heap_alloc_old w _ r lr,h2];rfl
     ·refine ⟨rfl,fun i h h'=>?_⟩
      match i,h with
      | 0,_=>exact .i _ _
     ·intro v hv;simp at hv;subst hv;rfl
    | 3,_=>
     refine ⟨#[.int .i64 c],t3, ?_, ?_, ?_⟩
     ·simp only [List.getElem_cons_succ,List.getElem_cons_zero,World.setCell,World.drew,Array.getElem?_modify];rw [if_pos trivial,if_neg nrz,if_neg J,if_neg A,if_neg (by omega),if_neg (by omega),heap_alloc_old w _ z lz,h3];rfl
     ·refine ⟨rfl,fun i h h'=>?_⟩
      match i,h with
      | 0,_=>exact .i _ _
     ·intro v hv;simp at hv;subst hv;rfl
theorem ahf:ab3 Tryz.prog mg sG:=okD Tryz.func13 (by kernel_rfl) (fun pn dd=>by kernel_rfl) ahd
end Go.Ai.Z
