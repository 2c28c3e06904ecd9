/-
 owl.Read is a function that defers one closure, which recovers; ahead of it stands a test that may return.
-/
import Derived.Test.YtcofenimejmoeaaGreatDoorAiPZDecO
set_option maxRecDepth 100000
set_option linter.unusedSimpArgs false
set_option linter.unusedVariables false
set_option linter.unusedSectionVars false
namespace Go.Ai.Z
open Go.Proofs
set_option maxRecDepth 100000
def akj (P:Program) (rf:Func) (d:Gl):Bool:=!(rf.name == "runtime.NumGoroutine") && (match rf.body,d.mid with
 | some (.seq (.region _ ops0 false) (.seq cm (.seq (.region _ ops1 false) _))),some m=>wM P (.std rf.ntmps) cm m && (match ops1.toList with
  | [o1,o2]=>mJ P (.std rf.ntmps) ops0 ops0.toList d.pre && wE P (.std rf.ntmps) #[o1,o2] o1 d.mkc && (match o2.op,o2.dst,o2.guard with
   | .defer cc,none,none=>(match cc.callee with | .value (.tmp t)=>t == d.ct | _=>false) && cc.args.size == 0
   | _,_,_=>false)
  | _=>false)
 | _,_=>false) && decide (d.np≤rf.ntmps) && yL P rf.results.toList d.res && (d.pins.all fun k=>decide (k<d.lo))
def aki (P:Program) (rf:Func) (d:Gl) (pn:List (Nat×Nat)) (dd:List Deferred):Bool:=match rf.body with
 | some (.seq (.region _ _ false) (.seq _ (.seq (.region _ _ false) c)))=>wM P ⟨rf.ntmps,d.lo,pn,dd⟩ c d.code
 | _=>false
theorem okD {P:Program} {f:FuncId} {rf:Func} {d:Gl} (hf:P.funcs[f]?=some rf) (h2:akj P rf d=true) (h3:∀pn dd,aki P rf d pn dd=true) (hc:aeU P d.clo d.pins.length d.hnd):aat P f d:=by
 refine ⟨hc,rf, ?_⟩;unfold akj at h2;simp only [Bool.and_eq_true,Bool.not_eq_true',decide_eq_true_eq] at h2;obtain ⟨⟨⟨⟨h4,h5⟩,h6⟩,h7⟩,h8⟩:=h2
 split at h5
 ·rename_i i0 ops0 cm i1 ops1 c m hb hm;rw [Bool.and_eq_true] at h5;obtain ⟨hcm,h5⟩:=h5
  split at h5
  ·rename_i o1 o2 ho;simp only [Bool.and_eq_true] at h5;obtain ⟨⟨h9,h10⟩,h11⟩:=h5
   split at h11
   ·rename_i cc e1 e2 e3;simp only [Bool.and_eq_true,beq_iff_eq] at h11;obtain ⟨h12,h13⟩:=h11;have hops:ops1=#[o1,o2]:=Array.ext' (by simpa using ho);subst hops;refine ⟨i0,ops0,i1,o1,o2,c,cc,cm,hf,h4,by rw [hb,hm],fun m' hm'=>?_,h9,h10,⟨e1,e2,e3, ?_,Array.eq_empty_of_size_eq_zero h13⟩,fun pn dd=>?_,h6,h7,h8⟩
    ·rw [hm] at hm';cases hm';exact hcm
    ·split at h12
     ·rename_i t ht;simp only [beq_iff_eq] at h12;rw [ht,h12]
     ·cases h12
    ·have:=h3 pn dd
     unfold aki at this;rw [hb] at this;exact this
   ·cases h11
  ·cases h5
 ·cases h5
theorem aap {a:Array Value} (h:a.size=1):∃x,a=#[x]:=by
 obtain ⟨l⟩:=a
 match l,h with
 | [x],_=>exact ⟨x,rfl⟩
theorem akI {a:Array Value} (h:a.size=2):∃x0 x1,a=#[x0,x1]:=by
 obtain ⟨l⟩:=a
 match l,h with
 | [x0,x1],_=>exact ⟨x0,x1,rfl⟩
set_option maxHeartbeats 2000000 in
theorem afx:aeU Tryz.prog Ej 4 uY:=by
 refine ⟨⟨_,Tryz.func31,by kernel_rfl,by kernel_rfl⟩,fun bs w hl=>?_,fun bs w v u g n news hn hr hl hnd hnl hblk=>?_⟩
 ·match bs,hl with
  | [p,q,r,z],_=>exact Tryz.dcatch_idle _ _ _ _ w
 ·match bs,hl with
  | [p,q,r,z],_=>
   unfold uY at hn
   split at hn
   case h_2=>cases hn
   rename_i t a c
   split at hn
   case isFalse=>cases hn
   rename_i ht;cases hn;subst ht;obtain ⟨arr0,t0,h0,hs0⟩:=hblk 0 (by simp) (by simp);obtain ⟨arr1,t1,h1,hs1⟩:=hblk 1 (by simp) (by simp);obtain ⟨arr2,t2,h2,hs2⟩:=hblk 2 (by simp) (by simp);obtain ⟨arr3,t3,h3,hs3⟩:=hblk 3 (by simp) (by simp);simp only [List.getElem_cons_zero,List.getElem_cons_succ] at h0 h1 h2 h3 hs0 hs1 hs2 hs3;simp only [List.nodup_cons,List.mem_cons,List.not_mem_nil,or_false,not_or,not_false_eq_true,List.nodup_nil,and_true] at hnd;obtain ⟨⟨npq,npr,npz⟩,⟨nqr,nqz⟩,nrz⟩:=hnd;obtain ⟨a0,rfl⟩:=aap (a:=arr0) (by simpa using hs0);obtain ⟨b0,rfl⟩:=aap (a:=arr1) (by simpa using hs1);obtain ⟨c0,rfl⟩:=aap (a:=arr2) (by simpa using hs2);obtain ⟨d0,rfl⟩:=aap (a:=arr3) (by simpa using hs3)
   cases hr with
   | ifc _ uv _ huv=>
   cases huv with
   | ag us _ hul _ hus=>
   obtain ⟨u0,u1,rfl⟩:=akI (a:=us) (by simpa using hul);have hu0:=hus 0 (by simp) (by simp);have hu1:=hus 1 (by simp) (by simp);simp only [List.getElem_cons_zero,List.getElem_cons_succ,List.getElem_toArray] at hu0 hu1;cases hu0;cases hu1;refine (Tryz.dcatch_busy p q r z a0 b0 c0 d0 t0 t1 t2 t3 a c w h0 h1 h2 h3 npq npr npz nqr nqz nrz).mono ?_;rintro e u' w' ⟨rfl,rfl,rfl⟩;have lp:p<w.heap.size:=(Array.getElem?_eq_some_iff.1 h0).1;have lq:q<w.heap.size:=(Array.getElem?_eq_some_iff.1 h1).1;have lr:r<w.heap.size:=(Array.getElem?_eq_some_iff.1 h2).1;have lz:z<w.heap.size:=(Array.getElem?_eq_some_iff.1 h3).1;refine ⟨rfl,rfl, ?_,by simp only [World.setCell,World.drew,World.alloc],by simp only [World.setCell,World.drew,World.alloc],fun b hb hbn=>?_,fun i hi hi'=>?_⟩
   ·simp only [World.setCell,World.drew,World.alloc,Array.size_modify,Array.size_push];omega
   ·simp only [List.mem_cons,List.not_mem_nil,or_false,not_or] at hbn;obtain ⟨n1,n2,n3,n4⟩:=hbn;simp only [World.setCell,World.drew,Array.getElem?_modify];rw [if_neg (fun h=>n4 h.symm),if_neg (fun h=>n3 h.symm),if_neg (fun h=>n2 h.symm),if_neg (fun h=>n1 h.symm),if_neg (by omega),if_neg (by omega)];exact heap_alloc_old w _ b hb
   ·match i,hi with
    | 0,_=>
     refine ⟨#[.slice none 0 0],t0, ?_, ?_, ?_⟩
     ·simp only [List.getElem_cons_zero,World.setCell,World.drew,Array.getElem?_modify];rw [if_neg (Ne.symm npz),if_neg (Ne.symm npr),if_neg (Ne.symm npq),if_pos trivial,if_neg (by omega),if_neg (by omega),heap_alloc_old w _ p lp,h0];rfl
     ·refine ⟨rfl,fun i h h'=>?_⟩
      match i,h with
      | 0,_=>exact .ns
     ·intro v hv;simp at hv;subst hv;rfl
    | 1,_=>
     refine ⟨#[.string ⟨#[]⟩],t1, ?_, ?_, ?_⟩
     ·simp only [List.getElem_cons_succ,List.getElem_cons_zero,World.setCell,World.drew,Array.getElem?_modify];rw [if_neg (Ne.symm nqz),if_neg (Ne.symm nqr),if_pos trivial,if_neg npq,if_neg (by omega),if_neg (by omega),heap_alloc_old w _ q lq,h1];rfl
     ·refine ⟨rfl,fun i h h'=>?_⟩
      match i,h with
      | 0,_=>exact .s _
     ·intro v hv;simp at hv;subst hv;rfl
    | 2,_=>
     refine ⟨#[.int .i64 a],t2, ?_, ?_, ?_⟩
     ·simp only [List.getElem_cons_succ,List.getElem_cons_zero,World.setCell,World.drew,Array.getElem?_modify];rw [if_neg (Ne.symm nrz),if_pos trivial,if_neg nqr,if_neg npr,if_neg (by omega),if_neg (by omega),heap_alloc_old w _ r lr,h2];rfl
     ·refine ⟨rfl,fun i h h'=>?_⟩
      match i,h with
      | 0,_=>exact .i _ _
     ·intro v hv;simp at hv;subst hv;rfl
    | 3,_=>
     refine ⟨#[.int .i64 c],t3, ?_, ?_, ?_⟩
     ·simp only [List.getElem_cons_succ,List.getElem_cons_zero,World.setCell,World.drew,Array.getElem?_modify];rw [if_pos trivial,if_neg nrz,if_neg nqz,if_neg npz,if_neg (by omega),if_neg (by omega),heap_alloc_old w _ z lz,h3];rfl
     ·refine ⟨rfl,fun i h h'=>?_⟩
      match i,h with
      | 0,_=>exact .i _ _
     ·intro v hv;simp at hv;subst hv;rfl
theorem afz:aat Tryz.prog oG rH:=okD Tryz.func13 (by kernel_rfl) (fun pn dd=>by kernel_rfl) afx
end Go.Ai.Z
