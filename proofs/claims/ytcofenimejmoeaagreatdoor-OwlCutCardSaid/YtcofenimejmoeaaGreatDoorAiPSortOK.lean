/-
 What slices.SortFunc comes to on rows of structs, for the interpreter's heap.
-/
import Derived.Test.YtcofenimejmoeaaGreatDoorAiDf
import Derived.Shelf.SlSortCmp.NoneTotal
import Derived.Sort.EncStr
import Derived.Sort.Walk0
set_option maxRecDepth 100000
set_option linter.unusedSimpArgs false
set_option linter.unusedVariables false
set_option linter.unusedSectionVars false
namespace Go.Ai
open Go.Sort Go.Proofs Go.Shelf
variable {P:Program} {glob:Nat→Option (List AV)} {g:ai} {s:St} {w:World}
theorem PX (off:Nat) (F p:Array Value) (h:off+F.size≤p.size):(putCells id off F p).toList=p.toList.take off++F.toList++p.toList.drop (off+F.toList.length):=by
 apply List.ext_getElem?;intro i;have hl:(putCells id off F p).toList[i]?=(putCells id off F p)[i]?:=by simp
 rw [hl];simp only [putCells,Array.getElem?_mapIdx,List.getElem?_append,List.getElem?_take,List.getElem?_drop,List.length_append,List.length_take,Array.length_toList];have e1:min off p.size=off:=by omega
 rw [e1];by_cases hi:i<off
 ·rw [if_pos (by omega),if_pos hi,if_pos hi]
  cases hc:p[i]? with
  | none=>simp [hc]
  | some x=>simp [hc];intro h;omega
 ·by_cases hi2:i<off+F.size
  ·rw [if_pos hi2,if_neg hi];have A:i<p.size:=by omega
   have hF:i - off<F.size:=by omega
   rw [Array.getElem?_eq_getElem A];simp only [Option.map_some];rw [if_pos ⟨by omega,hi2⟩];simp [hF]
  ·rw [if_neg hi2]
   have:off+F.size+(i - (off+F.size))=i:=by omega
   rw [this]
   cases hc:p[i]? with
   | none=>simp [hc]
   | some x=>simp [hc];intro h h';omega
theorem Xk {α:Type} [Inhabited α] (enc:α→List Value) {k:Nat} (hk:∀x,(enc x).length=k) (d:Array α):(flatK enc k d).toList=d.toList.flatMap enc:=by
 have key:∀(l:List α) (i:Nat),(l.flatMap enc)[i]?=if i<l.length * k then (enc (l[i / k]?.getD default))[i % k]? else none:=by
  intro l
  induction l with
  | nil=>intro i;simp
  | cons x l ih=>
   intro i;rw [List.flatMap_cons,List.getElem?_append,hk,ih];by_cases hi:i<k
   ·rw [if_pos hi,if_pos (by rw [List.length_cons,Nat.succ_mul];omega),Nat.div_eq_of_lt hi,Nat.mod_eq_of_lt hi];rfl
   ·have p:0<k∨k=0:=by omega
    rcases p with p|p
    ·have e1:i / k=(i - k) / k+1:=by rw [Nat.div_eq_sub_div p (by omega)]
     have e2:i % k=(i - k) % k:=Nat.mod_eq_sub_mod (by omega);rw [if_neg hi,e1,e2,List.getElem?_cons_succ];by_cases h2:i - k<l.length * k
     ·rw [if_pos h2,if_pos (by rw [List.length_cons,Nat.succ_mul];omega)]
     ·rw [if_neg h2,if_neg (by rw [List.length_cons,Nat.succ_mul];omega)]
    ·subst p;simp
 apply List.ext_getElem?;intro i;rw [key];by_cases hi:i<d.size * k
 ·have p:0<k:=Nat.pos_of_ne_zero (fun h=>by subst h;simp at hi);have I:i / k<d.size:=(Nat.div_lt_iff_lt_mul p).2 hi;have A:i % k<k:=Nat.mod_lt _ p;rw [if_pos (by simpa using hi)]
  have e1:(flatK enc k d).toList[i]?=some (flatK enc k d)[i]! := by
   rw [getElem!_pos (flatK enc k d) i (by simpa using hi)];simp [hi]
  rw [e1,get_flatK _ _ _ _ hi];have e2:d.toList[i / k]?.getD default=d[i / k]! := by simp [I]
  rw [e2,List.getElem?_eq_getElem (by rw [hk];exact A),getElem!_pos _ _ (by rw [hk];exact A)]
 ·rw [if_neg (by simpa using hi)];simp only [Array.getElem?_toList];exact Array.getElem?_eq_none (by simp;omega)
section
variable {α:Type} [Inhabited α] {enc:α→List Value} {k blk off m:Nat} {dk:Array α} {os:Array Obj}
theorem EC {b:Nat} (hb:b<w.heap.size) (p:b≠blk):(sortWorldK enc k w blk off m dk os).heap[b]?=w.heap[b]?:=by
 show ((w.heap.modify blk (onCells (putCells id off (flatK enc k dk))))++os)[b]?=w.heap[b]?;rw [Array.getElem?_append_left (by simpa using hb),Array.getElem?_modify,if_neg (Ne.symm p)]
theorem Wl {x:Array Value} {t:TypeId} {fr:Nat×Nat} (hb:w.heap[blk]?=some (.cells x t fr)):
  (sortWorldK enc k w blk off m dk os).heap[blk]?=some (.cells (putCells id off (flatK enc k dk) x) t fr):=by
 have p:blk<w.heap.size:=(Array.getElem?_eq_some_iff.1 hb).1;show ((w.heap.modify blk (onCells (putCells id off (flatK enc k dk))))++os)[blk]?=_;rw [Array.getElem?_append_left (by simpa using p),Array.getElem?_modify,if_pos rfl,hb];rfl
theorem Wj:w.heap.size≤(sortWorldK enc k w blk off m dk os).heap.size:=by
 show w.heap.size≤((w.heap.modify blk (onCells (putCells id off (flatK enc k dk))))++os).size;simp
theorem ajf (h:Imm g w) (hn:nX g blk):Imm g (sortWorldK enc k w blk off m dk os):=by
 refine ⟨fun b o v hv=>?_,fun b es he=>?_⟩
 ·have p:b≠blk:=fun e=>by subst e;rw [hn.m o] at hv;cases hv
  have hc:=h.m b o v hv;rw [World.cell?_of_block (EC (World.block_lt_of_cell? w _ hc) p)];exact hc
 ·have p:b≠blk:=fun e=>by subst e;rw [hn.mm] at he;cases he
  exact (h.mm b es he).keep (EC (h.mm b es he).lt p)
end
end Go.Ai
namespace Go.Ai
open Go.Sort Go.Proofs Go.Shelf
variable {P:Program} {glob:Nat→Option (List AV)} {g:ai} {s:St} {w:World}
theorem NU (x:Rl):∀l,(acY x l).Perm (x::l)
 | []=>.refl _
 | y::r=>by
  unfold acY;split
  ·exact ((NU x r).cons y).trans (.swap x y r)
  ·exact .refl _
theorem rX:∀l,(sortStr l).Perm l
 | []=>.refl _
 | x::r=>(NU x _).trans ((rX r).cons x)
theorem O9 (x:Rl):∀{l:List Rl},l.Pairwise (·≤·)→(acY x l).Pairwise (·≤·)
 | [],_=>List.pairwise_singleton _ _
 | y::r,h=>by
  obtain ⟨h1,h2⟩:=List.pairwise_cons.1 h;unfold acY;split
  ·rename_i hc;rw [bytesLess_eq,decide_eq_true_eq] at hc;refine List.pairwise_cons.2 ⟨fun z hz=>?_,O9 x h2⟩;rcases List.mem_cons.1 ((NU x r).mem_iff.1 hz) with rfl|hz
   ·exact List.le_of_lt hc
   ·exact h1 z hz
  ·rename_i hc;rw [bytesLess_eq,decide_eq_true_eq] at hc;have p:x≤y:=List.not_lt.1 hc;refine List.pairwise_cons.2 ⟨fun z hz=>?_,h⟩;rcases List.mem_cons.1 hz with rfl|hz
   ·exact p
   ·exact List.le_trans p (h1 z hz)
theorem Bf:∀l,(sortStr l).Pairwise (·≤·)
 | []=>.nil
 | x::r=>O9 x (Bf r)
theorem ZK (l:List Rl):sortStr l=l.mergeSort fun x y=>decide (x≤y):=by
 have tr:∀a b c:Rl,decide (a≤b)=true→decide (b≤c)=true→decide (a≤c)=true:=fun a b c h1 h2=>by simp only [decide_eq_true_eq] at *;exact List.le_trans h1 h2
 have to:∀a b:Rl,(decide (a≤b) || decide (b≤a))=true:=fun a b=>by simp only [Bool.or_eq_true,decide_eq_true_eq];exact List.le_total a b
 refine List.Perm.eq_of_pairwise (le:=fun a b=>decide (a≤b)=true) (fun a b _ _ h1 h2=>?_) ((Bf l).imp fun h=>by simpa using h) (List.pairwise_mergeSort tr to l) ((rX l).trans (List.mergeSort_perm l _).symm);simp only [decide_eq_true_eq] at h1 h2;exact List.le_antisymm h1 h2
def e1s:Rl→List Value:=fun l=>[encStr l]
theorem VL (d:Array Rl):(flatK e1s 1 d).toList=d.toList.map encStr:=by
 rw [Xk e1s (fun _=>rfl)]
 induction d.toList with
 | nil=>rfl
 | cons x l ih=>simp only [List.flatMap_cons,List.map_cons,ih];rfl
theorem adv (d:Array Rl) (j:Nat) (h:j<d.size):(flatK e1s 1 d)[j]! = encStr d[j]! := by
 rw [get_flatK _ _ _ _ (by omega)];simp [e1s,Nat.mod_one]
theorem aeu (w:World) (p off:Nat) (d:Array Rl):putRow encStr w p off d=putRowK e1s 1 w p off d:=by
 unfold putRowK putRow
 congr 1
 funext c
 unfold putCells;refine Array.ext_getElem? ?_;intro i;simp only [Array.getElem?_mapIdx,size_flatK,Nat.mul_one,id]
 cases c[i]? with
 | none=>rfl
 | some x=>
  simp only [Option.map_some]
  congr 1
  split
  ·rename_i h;rw [adv _ _ (by omega)]
  ·rfl
theorem SC:∀{l:List AV} {ss:List Rl},l.mapM strOf=some ss→l=ss.map .s
 | [],ss,h=>by simp at h;subst h;rfl
 | a::l,ss,h=>by
  simp only [List.mapM_cons,Option.bind_eq_bind,Option.pure_def] at h
  cases a<;>first | (simp [strOf] at h;done)|skip
  cases hl:l.mapM strOf with
  | none=>simp [strOf,hl] at h
  | some r=>
   simp [strOf,hl] at h;subst h;rw [SC hl];rfl
theorem Vj {n:Nat}:∀{vs:List Value} {ss:List Rl},aX g n vs (ss.map .s)→vs=ss.map encStr
 | [],[],_=>rfl
 | [],_::_,h=>absurd h.1 (by simp)
 | _::_,[],h=>absurd h.1 (by simp)
 | v::vs,x::ss,h=>by
  have h1:=h.head;cases h1;rw [Vj (vs:=vs) (ss:=ss) h.tail];rfl
theorem Va {n:Nat}:∀(ss:List Rl),aX g n (ss.map encStr) (ss.map .s)
 | []=>.nil g n
 | x::ss=>.cons (.s x) (Va ss)
set_option maxHeartbeats 1000000 in
theorem aeD {f:Nat} (hs:∀(c8 off cap:Nat) (ss:List Rl) (w:World),Holds encStr w c8 off ss.toArray→c8<w.heap.size→ss.length<4611686018427387904→
   Calls P f #[.slice (some ⟨c8,off,none⟩) ss.length cap] w fun e w'=>e=.returned (.tuple #[])∧∃n os,w'=grow (putRow encStr (Sort.ahead w n) c8 off (ss.mergeSort fun x y=>decide (x≤y)).toArray) os)
  (hn:∀(p:Option Addr) (cap:Nat) (w:World),Calls P f #[.slice p 0 cap] w fun e w'=>e=.returned (.tuple #[])∧w'=w)
  (hf:∃rf,P.funcs[f]?=some rf∧(rf.name == "runtime.NumGoroutine")=false∧rf.body.isNone=false):ajH P glob f .sortS:=by
 refine ⟨hf,fun call b2 b1 c3 hq c4 c6 args s cx r s' c7 h g w vs hb hv m=>callsIn_wide.2 ?_⟩;have W:∀g',Rep g' s.length (.tuple #[]) (.tu []):=fun g'=>.tu #[] [] rfl (fun i hi=>by simp at hi)
 have a7:∀{a:AV},aX g s.length vs.toList [a]→∃u,vs=#[u]∧Rep g s.length u a:=by
  intro a h;obtain ⟨l⟩:=vs
  match l,h.1 with
  | [u],_=>exact ⟨u,rfl,h.head⟩
 have Q:∀(p:Option Addr) (cap:Nat),vs=#[.slice p 0 cap]→r=.tu []→s'=s→Calls P f vs w (Ret False P glob g s w r s'):=by
  rintro p cap rfl rfl rfl;refine (hn p cap w).mono fun e w' he=>?_;obtain ⟨rfl,rfl⟩:=he;exact ⟨.tuple #[],g,rfl,.refl _ _ _ _,hb,W g⟩
 unfold lU at h
 split at h
 ·rename_i hk;cases hk
 ·rename_i hk;cases hk
 ·rename_i hk;cases hk
 ·rename_i hk;cases hk
 ·cases h;obtain ⟨u,rfl,ru⟩:=a7 hv;cases ru;exact Q _ _ rfl rfl rfl
 ·rename_i l ver sz o mm hk;obtain ⟨u,rfl,ru⟩:=a7 hv
  split at h
  ·cases h
   cases ru with
   | sk _ _ _ _ _ b off len cap c hl hh ho hc hcc=>exact Q _ _ rfl rfl rfl
   | skE _ _ _ _ ad hl=>exact Q _ _ rfl rfl rfl
  ·rename_i n t sz' c1 cs hl
   split at h
   case isFalse=>cases h
   rename_i a1;obtain ⟨rfl,rfl,rfl,c5,b6,c2,b9⟩:=a1
   split at h
   case h_2=>cases h
   rename_i ss b3;cases h;have a2:l<s.length:=(List.getElem?_eq_some_iff.1 hl).1;obtain ⟨b,off,len,cap,A,p1,p2,p3,p4,p5,p6,p7,p8,p9,Z,b0⟩:=hb.heap.obj l _ hl
   cases ru with
   | sk _ _ _ _ _ b' off' len' cap' c hl' hh ho hc hcc=>
    rw [p1] at hh;cases hh;simp only [Nat.mul_one] at *;have c0:off+cs.length≤A.size:=by omega
    have a6:=SC b3
    have a3:ss.length=n+1:=by
     have:=congrArg List.length a6
     simp only [List.length_take,List.length_drop,List.length_map] at this;omega
    have a4:(A.toList.drop (off+o)).take (n+1)=ss.map encStr:=by
     refine Vj (g:=g) (n:=s.length) ?_;rw [←a6]
     have:=(Z.drop o).take (n+1)
     rw [List.drop_take,List.take_take,List.drop_drop,Nat.min_eq_left (by omega)] at this;exact this
    have a9:b<w.heap.size:=(Array.getElem?_eq_some_iff.1 p8).1
    have hH:Holds encStr w b (off+o) ss.toArray:=by
     intro j hj;have a5:j<ss.length:=by simpa using hj
     have e1:A[off+o+j]?=some (encStr ss[j]):=by
      have h1:((A.toList.drop (off+o)).take (n+1))[j]?=some (encStr ss[j]):=by rw [a4];simp [a5]
      rw [List.getElem?_take_of_lt (by omega),List.getElem?_drop] at h1
      simpa using h1
     refine ⟨?_, ?_⟩
     ·rw [cell_of_row w b _ A t (0,0) p8,e1];simp [a5]
     ·simp [World.frozen?,p8]
    have O:=hs b (off+o) c ss w hH a9 (by rw [a3];simp only [aS] at b6;omega);rw [a3] at O;refine O.mono fun e w' he=>?_;obtain ⟨rfl,nn,os,rfl⟩:=he;rw [aeu,←ZK]
    let d':Array Rl:=(sortStr ss).toArray
    show Ret False P glob g s w (.tu []) _ (.returned (.tuple #[])) (sortWorldK e1s 1 w b (off+o) nn d' os);have b8:d'.size=n+1:=by simp only [d',List.size_toArray,(rX ss).length_eq,a3]
    have S:(flatK e1s 1 d').toList=(sortStr ss).map encStr:=by rw [VL]
    have K:(flatK e1s 1 d').size=n+1:=by rw [size_flatK,b8,Nat.mul_one]
    let new:List AV:=(sortStr ss).map .s
    have R:aX g s.length (flatK e1s 1 d').toList new:=by rw [S];exact Va _
    have b7:new.length=n+1:=by rw [←R.1];simpa using K
    have a0:(splice cs o new).length=cs.length:=by simp only [splice,List.length_append,List.length_take,List.length_drop,b7];omega
    have a8:=Wl (enc:=e1s) (k:=1) (off:=off+o) (m:=nn) (dk:=d') (os:=os) p8
    have J:((putCells id (off+o) (flatK e1s 1 d') A).toList.drop off).take cs.length=((A.toList.drop off).take cs.length).take o++(flatK e1s 1 d').toList++((A.toList.drop off).take cs.length).drop (o+(flatK e1s 1 d').toList.length):=by
     rw [PX _ _ _ (by rw [K];omega)]
     have:=Si A.toList (flatK e1s 1 d').toList off o cs.length (by rw [Array.length_toList,K];omega) (by rw [Array.length_toList];omega)
     exact this
    have Y:fC (flatK e1s 1 d').toList:=by
     rw [S];intro u hu;obtain ⟨x,_,rfl⟩:=List.mem_map.1 hu;rfl
    refine ⟨.tuple #[],g,rfl, ?_,⟨ajf hb.imm p3, ?_,hb.glob⟩,by simpa using W g⟩
    ·rw [List.length_set];exact ⟨.refl _ _,Wj,fun b' I b5=>EC I (fun e=>b5 (by subst e;exact ⟨l,a2,.inr ⟨ver,_,p1,rfl⟩⟩)),fun _ _ _=>rfl,fun _ _=>rfl,fun b' I=>.inl I,rfl,rfl,fun hF=>hF.elim⟩
    ·refine hb.heap.setAt a2 (.refl _ _) (fun _ _ _=>rfl) (fun b' I=>.inl I) (fun b' I=>Nat.lt_of_lt_of_le (hb.heap.lt l b' a2 I) Wj) Wj (fun b' I hn=>⟨EC I (fun e=>hn (by subst e;exact .inr ⟨ver,_,p1,rfl⟩)),rfl,rfl⟩) ?_;refine ⟨b,off,len,cap,putCells id (off+o) (flatK e1s 1 d') A,p1,p2,p3,by rw [Nat.mul_one,←p4];exact a0,p5,p6,p7,a8, ?_, ?_, ?_⟩
     ·have:(putCells id (off+o) (flatK e1s 1 d') A).size=A.size:=by simp [putCells]
      rw [this];simpa using p9
     ·show aX g s.length (((putCells id (off+o) (flatK e1s 1 d') A).toList.drop off).take (splice cs o new).length) (splice cs o new);rw [a0,J];have b4:(flatK e1s 1 d').toList.length=new.length:=R.1;rw [b4];exact ((Z.take o).append R).append (Z.drop _)
     ·show fC (((putCells id (off+o) (flatK e1s 1 d') A).toList.drop off).take (splice cs o new).length);rw [a0,J];intro u hu;rcases List.mem_append.1 hu with hu|hu
      ·rcases List.mem_append.1 hu with hu|hu
       ·exact b0 u (List.mem_of_mem_take hu)
       ·exact Y u hu
      ·exact b0 u (List.mem_of_mem_drop hu)
  ·cases h
 ·rename_i hk;cases hk
 ·cases h
end Go.Ai
