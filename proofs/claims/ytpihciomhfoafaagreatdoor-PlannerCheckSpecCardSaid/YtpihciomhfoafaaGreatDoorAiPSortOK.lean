/-
 What slices.SortFunc comes to on rows of structs, for the interpreter's heap.
-/
import Derived.Test.YtpihciomhfoafaaGreatDoorAiRn5
import Derived.Shelf.SlSortCmp.NoneTotal
set_option maxRecDepth 100000
set_option linter.unusedSimpArgs false
set_option linter.unusedVariables false
set_option linter.unusedSectionVars false
namespace Go.Ai
open Go.Sort Go.Proofs Go.Shelf
variable {P:Program} {glob:Nat→Option (List AV)} {g:af} {s:St} {w:World}
theorem MP (off:Nat) (F cur:Array Value) (h:off+F.size≤cur.size):(putCells id off F cur).toList=cur.toList.take off++F.toList++cur.toList.drop (off+F.toList.length):=by
 apply List.ext_getElem?
 intro i
 have hl:(putCells id off F cur).toList[i]?=(putCells id off F cur)[i]?:=by simp
 rw [hl]
 simp only [putCells,Array.getElem?_mapIdx,List.getElem?_append,List.getElem?_take,List.getElem?_drop,List.length_append,List.length_take,Array.length_toList]
 have e1:min off cur.size=off:=by omega
 rw [e1]
 by_cases hi:i<off
 ·rw [if_pos (by omega),if_pos hi,if_pos hi]
  cases hc:cur[i]? with
  | none=>simp [hc]
  | some x=>simp [hc];intro h;omega
 ·by_cases hi2:i<off+F.size
  ·rw [if_pos hi2,if_neg hi]
   have hlt:i<cur.size:=by omega
   have hF:i - off<F.size:=by omega
   rw [Array.getElem?_eq_getElem hlt]
   simp only [Option.map_some]
   rw [if_pos ⟨by omega,hi2⟩]
   simp [hF]
  ·rw [if_neg hi2]
   have:off+F.size+(i - (off+F.size))=i:=by omega
   rw [this]
   cases hc:cur[i]? with
   | none=>simp [hc]
   | some x=>simp [hc];intro h h';omega
theorem Rw {α:Type} [Inhabited α] (enc:α→List Value) {k:Nat} (hk:∀x,(enc x).length=k) (d:Array α):(flatK enc k d).toList=d.toList.flatMap enc:=by
 have key:∀(l:List α) (i:Nat),(l.flatMap enc)[i]?=if i<l.length * k then (enc (l[i / k]?.getD default))[i % k]? else none:=by
  intro l
  induction l with
  | nil=>intro i;simp
  | cons x l ih=>
   intro i
   rw [List.flatMap_cons,List.getElem?_append,hk,ih]
   by_cases hi:i<k
   ·rw [if_pos hi,if_pos (by rw [List.length_cons,Nat.succ_mul];omega),Nat.div_eq_of_lt hi,Nat.mod_eq_of_lt hi];rfl
   ·have hk0:0<k∨k=0:=by omega
    rcases hk0 with hk0|hk0
    ·have e1:i / k=(i - k) / k+1:=by rw [Nat.div_eq_sub_div hk0 (by omega)]
     have e2:i % k=(i - k) % k:=Nat.mod_eq_sub_mod (by omega)
     rw [if_neg hi,e1,e2,List.getElem?_cons_succ]
     by_cases h2:i - k<l.length * k
     ·rw [if_pos h2,if_pos (by rw [List.length_cons,Nat.succ_mul];omega)]
     ·rw [if_neg h2,if_neg (by rw [List.length_cons,Nat.succ_mul];omega)]
    ·subst hk0;simp
 apply List.ext_getElem?
 intro i
 rw [key]
 by_cases hi:i<d.size * k
 ·have hk0:0<k:=Nat.pos_of_ne_zero (fun h=>by subst h;simp at hi)
  have hdiv:i / k<d.size:=(Nat.div_lt_iff_lt_mul hk0).2 hi
  have hmod:i % k<k:=Nat.mod_lt _ hk0
  rw [if_pos (by simpa using hi)]
  have e1:(flatK enc k d).toList[i]?=some (flatK enc k d)[i]! := by
   rw [getElem!_pos (flatK enc k d) i (by simpa using hi)]
   simp [hi]
  rw [e1,get_flatK _ _ _ _ hi]
  have e2:d.toList[i / k]?.getD default=d[i / k]! := by simp [hdiv]
  rw [e2,List.getElem?_eq_getElem (by rw [hk];exact hmod),getElem!_pos _ _ (by rw [hk];exact hmod)]
 ·rw [if_neg (by simpa using hi)]
  simp only [Array.getElem?_toList]
  exact Array.getElem?_eq_none (by simp;omega)
section
variable {α:Type} [Inhabited α] {enc:α→List Value} {k blk off m:Nat} {dk:Array α} {os:Array Obj}
theorem Cc {b:Nat} (hb:b<w.heap.size) (hne:b≠blk):(sortWorldK enc k w blk off m dk os).heap[b]?=w.heap[b]?:=by
 show ((w.heap.modify blk (onCells (putCells id off (flatK enc k dk))))++os)[b]?=w.heap[b]?
 rw [Array.getElem?_append_left (by simpa using hb),Array.getElem?_modify,if_neg (Ne.symm hne)]
theorem QX {cur:Array Value} {t:TypeId} {fr:Nat×Nat} (hb:w.heap[blk]?=some (.cells cur t fr)):
  (sortWorldK enc k w blk off m dk os).heap[blk]?=some (.cells (putCells id off (flatK enc k dk) cur) t fr):=by
 have hlt:blk<w.heap.size:=(Array.getElem?_eq_some_iff.1 hb).1
 show ((w.heap.modify blk (onCells (putCells id off (flatK enc k dk))))++os)[blk]?=_
 rw [Array.getElem?_append_left (by simpa using hlt),Array.getElem?_modify,if_pos rfl,hb];rfl
theorem QW:w.heap.size≤(sortWorldK enc k w blk off m dk os).heap.size:=by
 show w.heap.size≤((w.heap.modify blk (onCells (putCells id off (flatK enc k dk))))++os).size
 simp
theorem Y5 (h:Imm g w) (hn:fP g blk):Imm g (sortWorldK enc k w blk off m dk os):=by
 refine ⟨fun b o v hv=>?_,fun b es he=>?_⟩
 ·have hne:b≠blk:=fun e=>by subst e;rw [hn.m o] at hv;cases hv
  have hc:=h.m b o v hv
  rw [World.cell?_of_block (Cc (World.block_lt_of_cell? w _ hc) hne)];exact hc
 ·have hne:b≠blk:=fun e=>by subst e;rw [hn.mm] at he;cases he
  exact (h.mm b es he).keep (Cc (h.mm b es he).lt hne)
end
end Go.Ai
