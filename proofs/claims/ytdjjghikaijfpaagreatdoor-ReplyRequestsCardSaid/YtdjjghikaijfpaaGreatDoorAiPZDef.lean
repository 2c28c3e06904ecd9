/-
 reply.Decode is a function that defers one closure, which recovers.
-/
import Derived.Test.YtdjjghikaijfpaaGreatDoorAiPZDec
set_option maxRecDepth 100000
set_option linter.unusedSimpArgs false
set_option linter.unusedVariables false
set_option linter.unusedSectionVars false
namespace Go.Ai.Z
open Go.Proofs
set_option maxRecDepth 100000
def akZ (P:Program) (rf:Func) (d:I9):Bool:=!(rf.name == "runtime.NumGoroutine") && (match rf.body with
 | some (.seq (.region _ ops0 false) (.seq (.region _ ops1 false) _))=>(match ops1.toList with
  | [o1,o2]=>lH P (.std rf.ntmps) ops0 ops0.toList d.pre && vW P (.std rf.ntmps) #[o1,o2] o1 d.mkc && (match o2.op,o2.dst,o2.guard with
   | .defer cc,none,none=>(match cc.callee with | .value (.tmp t)=>t == d.ct | _=>false) && cc.args.size == 0
   | _,_,_=>false)
  | _=>false)
 | _=>false) && decide (d.np≤rf.ntmps) && yX P rf.results.toList d.res && (d.pins.all fun k=>decide (k<d.lo))
def akY (P:Program) (rf:Func) (d:I9) (pn:List (Nat×Nat)) (dd:List Deferred):Bool:=match rf.body with
 | some (.seq (.region _ _ false) (.seq (.region _ _ false) c))=>xU P ⟨rf.ntmps,d.lo,pn,dd⟩ c d.code
 | _=>false
theorem okD {P:Program} {f:FuncId} {rf:Func} {d:I9} (hf:P.funcs[f]?=some rf) (h2:akZ P rf d=true) (h3:∀pn dd,akY P rf d pn dd=true) (hc:afO P d.clo d.pins.length d.hnd):ab6 P f d:=by
 refine ⟨hc,rf, ?_⟩
 unfold akZ at h2
 simp only [Bool.and_eq_true,Bool.not_eq_true',decide_eq_true_eq] at h2
 obtain ⟨⟨⟨⟨h4,h5⟩,h6⟩,h7⟩,h8⟩:=h2
 split at h5
 ·rename_i i0 ops0 i1 ops1 c hb
  split at h5
  ·rename_i o1 o2 ho
   simp only [Bool.and_eq_true] at h5
   obtain ⟨⟨h9,h10⟩,h11⟩:=h5
   split at h11
   ·rename_i cc e1 e2 e3
    simp only [Bool.and_eq_true,beq_iff_eq] at h11
    obtain ⟨h12,h13⟩:=h11
    have hops:ops1=#[o1,o2]:=Array.ext' (by simpa using ho)
    subst hops
    refine ⟨i0,ops0,i1,o1,o2,c,cc,hf,h4,hb,h9,h10,⟨e1,e2,e3, ?_,Array.eq_empty_of_size_eq_zero h13⟩,fun pn dd=>?_,h6,h7,h8⟩
    ·split at h12
     ·rename_i t ht;simp only [beq_iff_eq] at h12;rw [ht,h12]
     ·cases h12
    ·have:=h3 pn dd
     unfold akY at this
     rw [hb] at this
     exact this
   ·cases h11
  ·cases h5
 ·cases h5
theorem ahw {a:Array Value} (h:a.size=1):∃x,a=#[x]:=by
 obtain ⟨l⟩:=a
 match l,h with
 | [x],_=>exact ⟨x,rfl⟩
theorem alo {a:Array Value} (h:a.size=5):∃x0 x1 x2 x3 x4,a=#[x0,x1,x2,x3,x4]:=by
 obtain ⟨l⟩:=a
 match l,h with
 | [x0,x1,x2,x3,x4],_=>exact ⟨x0,x1,x2,x3,x4,rfl⟩
set_option maxHeartbeats 2000000 in
theorem agf:afO Tryz.prog y7 2 yQ:=by
 refine ⟨⟨_,Tryz.func34,by kernel_rfl,by kernel_rfl⟩,fun bs w hl=>?_,fun bs w v u g n news hn hr hl hnd hnl hblk=>?_⟩
 ·match bs,hl with
  | [p,q],_=>exact Tryz.dcatch_idle _ _ w
 ·match bs,hl with
  | [p,q],_=>
   unfold yQ at hn
   split at hn
   case h_2=>cases hn
   rename_i t c
   split at hn
   case isFalse=>cases hn
   rename_i ht
   cases hn
   subst ht
   obtain ⟨arr0,t0,h0,hs0⟩:=hblk 0 (by simp) (by simp)
   obtain ⟨arr1,t1,h1,hs1⟩:=hblk 1 (by simp) (by simp)
   simp only [List.getElem_cons_zero,List.getElem_cons_succ] at h0 h1 hs0 hs1
   have hpq:p≠q:=by simpa using hnd
   obtain ⟨a0,a1,a2,a3,a4,rfl⟩:=alo (a:=arr0) (by simpa using hs0)
   obtain ⟨b0,rfl⟩:=ahw (a:=arr1) (by simpa using hs1)
   cases hr with
   | ifc _ uv _ huv=>
   cases huv with
   | ag us _ hul _ hus=>
   obtain ⟨u0,rfl⟩:=ahw (a:=us) (by simpa using hul)
   have hu0:=hus 0 (by simp) (by simp)
   simp only [List.getElem_cons_zero,List.getElem_toArray] at hu0
   cases hu0
   refine (Tryz.dcatch_busy p q a0 a1 a2 a3 a4 b0 t0 t1 c w h0 h1 hpq).mono ?_
   rintro e u' w' ⟨rfl,rfl,rfl⟩
   have lp:p<w.heap.size:=(Array.getElem?_eq_some_iff.1 h0).1
   have lq:q<w.heap.size:=(Array.getElem?_eq_some_iff.1 h1).1
   refine ⟨rfl,rfl, ?_,by simp only [World.setCell,World.drew,World.alloc],by simp only [World.setCell,World.drew,World.alloc],fun b hb hbn=>?_,fun i hi hi'=>?_⟩
   ·simp only [World.setCell,World.drew,World.alloc,Array.size_modify,Array.size_push];omega
   ·simp only [List.mem_cons,List.not_mem_nil,or_false,not_or] at hbn
    simp only [World.setCell,World.drew,Array.getElem?_modify]
    rw [if_neg (fun h=>hbn.2 h.symm),if_neg (fun h=>hbn.1 h.symm),if_neg (fun h=>hbn.1 h.symm),if_neg (fun h=>hbn.1 h.symm),if_neg (fun h=>hbn.1 h.symm),if_neg (fun h=>hbn.1 h.symm),if_neg (by omega)]
    exact heap_alloc_old w _ b hb
   ·match i,hi with
    | 0,_=>
     refine ⟨#[.int .i64 0,.int .i64 0,.slice none 0 0,.slice none 0 0,.slice none 0 0],t0, ?_, ?_, ?_⟩
     ·simp only [List.getElem_cons_zero,World.setCell,World.drew,Array.getElem?_modify]
      rw [if_neg (Ne.symm hpq),if_pos trivial,if_pos trivial,if_pos trivial,if_pos trivial,if_pos trivial,if_neg (by omega),heap_alloc_old w _ p lp,h0]
      rfl
     ·refine ⟨rfl,fun i h h'=>?_⟩
      match i,h with
      | 0,_=>exact .i _ _
      | 1,_=>exact .i _ _
      | 2,_=>exact .ns
      | 3,_=>exact .ns
      | 4,_=>exact .ns
     ·intro v hv
      simp at hv
      rcases hv with rfl|rfl<;>rfl
    | 1,_=>
     refine ⟨#[.int .i64 c],t1, ?_, ?_, ?_⟩
     ·simp only [List.getElem_cons_succ,List.getElem_cons_zero,World.setCell,World.drew,Array.getElem?_modify]
      rw [if_pos trivial,if_neg hpq,if_neg hpq,if_neg hpq,if_neg hpq,if_neg hpq,if_neg (by omega),heap_alloc_old w _ q lq,h1]
      rfl
     ·refine ⟨rfl,fun i h h'=>?_⟩
      match i,h with
      | 0,_=>exact .i _ _
     ·intro v hv
      simp at hv
      subst hv;rfl
theorem acA:ab6 Tryz.prog BZ Eb:=okD Tryz.func12 (by kernel_rfl) (fun pn dd=>by kernel_rfl) agf
end Go.Ai.Z
