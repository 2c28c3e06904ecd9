/-
 What slices.Sort comes to on rows of strings, for the interpreter's heap.
-/
import Derived.Test.YtpihciomhfoafaaGreatDoorAiPSortOK
import Derived.Sort.EncStr
import Derived.Sort.Walk0
set_option maxRecDepth 100000
set_option linter.unusedSimpArgs false
set_option linter.unusedVariables false
set_option linter.unusedSectionVars false
namespace Go.Ai
open Go.Sort Go.Proofs Go.Shelf
variable {P:Program} {glob:Nat→Option (List AV)} {g:af} {s:St} {w:World}
theorem KY (x:List UInt8):∀l,(Vx x l).Perm (x::l)
 | []=>.refl _
 | y::r=>by
  unfold Vx
  split
  ·exact ((KY x r).cons y).trans (.swap x y r)
  ·exact .refl _
theorem Ce:∀l,(sortStr l).Perm l
 | []=>.refl _
 | x::r=>(KY x _).trans ((Ce r).cons x)
theorem LZ (x:List UInt8):∀{l:List (List UInt8)},l.Pairwise (·≤·)→(Vx x l).Pairwise (·≤·)
 | [],_=>List.pairwise_singleton _ _
 | y::r,h=>by
  obtain ⟨h1,h2⟩:=List.pairwise_cons.1 h
  unfold Vx
  split
  ·rename_i hc
   rw [bytesLess_eq,decide_eq_true_eq] at hc
   refine List.pairwise_cons.2 ⟨fun z hz=>?_,LZ x h2⟩
   rcases List.mem_cons.1 ((KY x r).mem_iff.1 hz) with rfl|hz
   ·exact List.le_of_lt hc
   ·exact h1 z hz
  ·rename_i hc
   rw [bytesLess_eq,decide_eq_true_eq] at hc
   have hxy:x≤y:=List.not_lt.1 hc
   refine List.pairwise_cons.2 ⟨fun z hz=>?_,h⟩
   rcases List.mem_cons.1 hz with rfl|hz
   ·exact hxy
   ·exact List.le_trans hxy (h1 z hz)
theorem EJ:∀l,(sortStr l).Pairwise (·≤·)
 | []=>.nil
 | x::r=>LZ x (EJ r)
theorem TT (l:List (List UInt8)):sortStr l=l.mergeSort fun x y=>decide (x≤y):=by
 have tr:∀a b c:List UInt8,decide (a≤b)=true→decide (b≤c)=true→decide (a≤c)=true:=fun a b c h1 h2=>by simp only [decide_eq_true_eq] at *;exact List.le_trans h1 h2
 have to:∀a b:List UInt8,(decide (a≤b) || decide (b≤a))=true:=fun a b=>by simp only [Bool.or_eq_true,decide_eq_true_eq];exact List.le_total a b
 refine List.Perm.eq_of_pairwise (le:=fun a b=>decide (a≤b)=true) (fun a b _ _ h1 h2=>?_) ((EJ l).imp fun h=>by simpa using h) (List.pairwise_mergeSort tr to l) ((Ce l).trans (List.mergeSort_perm l _).symm)
 simp only [decide_eq_true_eq] at h1 h2
 exact List.le_antisymm h1 h2
def e1s:List UInt8→List Value:=fun l=>[encStr l]
theorem QK (d:Array (List UInt8)):(flatK e1s 1 d).toList=d.toList.map encStr:=by
 rw [Rw e1s (fun _=>rfl)]
 induction d.toList with
 | nil=>rfl
 | cons x l ih=>simp only [List.flatMap_cons,List.map_cons,ih];rfl
theorem VY (d:Array (List UInt8)) (j:Nat) (h:j<d.size):(flatK e1s 1 d)[j]! = encStr d[j]! := by
 rw [get_flatK _ _ _ _ (by omega)];simp [e1s,Nat.mod_one]
theorem WM (w:World) (blk off:Nat) (d:Array (List UInt8)):putRow encStr w blk off d=putRowK e1s 1 w blk off d:=by
 unfold putRowK putRow
 congr 1
 funext c
 unfold putCells
 refine Array.ext_getElem? ?_
 intro i
 simp only [Array.getElem?_mapIdx,size_flatK,Nat.mul_one,id]
 cases c[i]? with
 | none=>rfl
 | some x=>
  simp only [Option.map_some]
  congr 1
  split
  ·rename_i h;rw [VY _ _ (by omega)]
  ·rfl
theorem OO:∀{l:List AV} {ss:List (List UInt8)},l.mapM strOf=some ss→l=ss.map .s
 | [],ss,h=>by simp at h;subst h;rfl
 | a::l,ss,h=>by
  simp only [List.mapM_cons,Option.bind_eq_bind,Option.pure_def] at h
  cases a<;>first | (simp [strOf] at h;done)|skip
  cases hl:l.mapM strOf with
  | none=>simp [strOf,hl] at h
  | some r=>
   simp [strOf,hl] at h
   subst h
   rw [OO hl];rfl
theorem Qs {n:Nat}:∀{vs:List Value} {ss:List (List UInt8)},aB g n vs (ss.map .s)→vs=ss.map encStr
 | [],[],_=>rfl
 | [],_::_,h=>absurd h.1 (by simp)
 | _::_,[],h=>absurd h.1 (by simp)
 | v::vs,x::ss,h=>by
  have h1:=h.head
  cases h1
  rw [Qs (vs:=vs) (ss:=ss) h.tail];rfl
theorem Qo {n:Nat}:∀(ss:List (List UInt8)),aB g n (ss.map encStr) (ss.map .s)
 | []=>.nil g n
 | x::ss=>.cons (.s x) (Qo ss)
set_option maxHeartbeats 1000000 in
theorem WS {f:Nat} (hs:∀(blk off cap:Nat) (ss:List (List UInt8)) (w:World),Holds encStr w blk off ss.toArray→blk<w.heap.size→ss.length<4611686018427387904→
   Calls P f #[.slice (some ⟨blk,off,none⟩) ss.length cap] w fun e w'=>e=.returned (.tuple #[])∧∃n os,w'=grow (putRow encStr (Sort.ahead w n) blk off (ss.mergeSort fun x y=>decide (x≤y)).toArray) os)
  (hn:∀(p:Option Addr) (cap:Nat) (w:World),Calls P f #[.slice p 0 cap] w fun e w'=>e=.returned (.tuple #[])∧w'=w)
  (hf:∃rf,P.funcs[f]?=some rf∧(rf.name == "runtime.NumGoroutine")=false∧rf.body.isNone=false):Zr P glob f .sortS:=by
 refine ⟨hf,fun call qcall hcall hext hq hcf hqf args s cx r s' hcx h g w vs hb hv m=>callsIn_wide.2 ?_⟩
 have rnil:∀g',Rep g' s.length (.tuple #[]) (.tu []):=fun g'=>.tu #[] [] rfl (fun i hi=>by simp at hi)
 have one:∀{a:AV},aB g s.length vs.toList [a]→∃u,vs=#[u]∧Rep g s.length u a:=by
  intro a h
  obtain ⟨l⟩:=vs
  match l,h.1 with
  | [u],_=>exact ⟨u,rfl,h.head⟩
 have same:∀(p:Option Addr) (cap:Nat),vs=#[.slice p 0 cap]→r=.tu []→s'=s→Calls P f vs w (Ret False P glob g s w r s'):=by
  rintro p cap rfl rfl rfl
  refine (hn p cap w).mono fun e w' he=>?_
  obtain ⟨rfl,rfl⟩:=he
  exact ⟨.tuple #[],g,rfl,.refl _ _ _ _,hb,rnil g⟩
 unfold iP at h
 split at h
 ·rename_i hk;cases hk
 ·rename_i hk;cases hk
 ·rename_i hk;cases hk
 ·rename_i hk;cases hk
 ·cases h
  obtain ⟨u,rfl,ru⟩:=one hv
  cases ru
  exact same _ _ rfl rfl rfl
 ·rename_i l ver sz o mm hk
  obtain ⟨u,rfl,ru⟩:=one hv
  split at h
  ·cases h
   cases ru with
   | sk _ _ _ _ _ b off len cap c hl hh ho hc hcc=>exact same _ _ rfl rfl rfl
   | skE _ _ _ _ ad hl=>exact same _ _ rfl rfl rfl
  ·rename_i n t sz' ver' cs hl
   split at h
   case isFalse=>cases h
   rename_i hcond
   obtain ⟨rfl,rfl,rfl,hoc,hmx,hlim,hbase⟩:=hcond
   split at h
   case h_2=>cases h
   rename_i ss hss
   cases h
   have hlt:l<s.length:=(List.getElem?_eq_some_iff.1 hl).1
   obtain ⟨b,off,len,cap,cur,p1,p2,p3,p4,p5,p6,p7,p8,p9,p10,p11⟩:=hb.heap.obj l _ hl
   cases ru with
   | sk _ _ _ _ _ b' off' len' cap' c hl' hh ho hc hcc=>
    rw [p1] at hh;cases hh
    simp only [Nat.mul_one] at *
    have hcur:off+cs.length≤cur.size:=by omega
    have hav:=OO hss
    have hsl:ss.length=n+1:=by
     have:=congrArg List.length hav
     simp only [List.length_take,List.length_drop,List.length_map] at this
     omega
    have hrow1:(cur.toList.drop (off+o)).take (n+1)=ss.map encStr:=by
     refine Qs (g:=g) (n:=s.length) ?_
     rw [←hav]
     have:=(p10.drop o).take (n+1)
     rw [List.drop_take,List.take_take,List.drop_drop,Nat.min_eq_left (by omega)] at this
     exact this
    have hblk:b<w.heap.size:=(Array.getElem?_eq_some_iff.1 p8).1
    have hH:Holds encStr w b (off+o) ss.toArray:=by
     intro j hj
     have hj':j<ss.length:=by simpa using hj
     have e1:cur[off+o+j]?=some (encStr ss[j]):=by
      have h1:((cur.toList.drop (off+o)).take (n+1))[j]?=some (encStr ss[j]):=by rw [hrow1];simp [hj']
      rw [List.getElem?_take_of_lt (by omega),List.getElem?_drop] at h1
      simpa using h1
     refine ⟨?_, ?_⟩
     ·rw [cell_of_row w b _ cur t (0,0) p8,e1];simp [hj']
     ·simp [World.frozen?,p8]
    have hmain:=hs b (off+o) c ss w hH hblk (by rw [hsl];simp only [dK] at hmx;omega)
    rw [hsl] at hmain
    refine hmain.mono fun e w' he=>?_
    obtain ⟨rfl,nn,os,rfl⟩:=he
    rw [WM,←TT]
    let d':Array (List UInt8):=(sortStr ss).toArray
    show Ret False P glob g s w (.tu []) _ (.returned (.tuple #[])) (sortWorldK e1s 1 w b (off+o) nn d' os)
    have hd':d'.size=n+1:=by simp only [d',List.size_toArray,(Ce ss).length_eq,hsl]
    have hfl':(flatK e1s 1 d').toList=(sortStr ss).map encStr:=by rw [QK]
    have hfs':(flatK e1s 1 d').size=n+1:=by rw [size_flatK,hd',Nat.mul_one]
    let new:List AV:=(sortStr ss).map .s
    have rnew:aB g s.length (flatK e1s 1 d').toList new:=by rw [hfl'];exact Qo _
    have hnl:new.length=n+1:=by rw [←rnew.1];simpa using hfs'
    have hsp:(splice cs o new).length=cs.length:=by simp only [splice,List.length_append,List.length_take,List.length_drop,hnl];omega
    have hrow:=QX (enc:=e1s) (k:=1) (off:=off+o) (m:=nn) (dk:=d') (os:=os) p8
    have hcells:((putCells id (off+o) (flatK e1s 1 d') cur).toList.drop off).take cs.length=((cur.toList.drop off).take cs.length).take o++(flatK e1s 1 d').toList++((cur.toList.drop off).take cs.length).drop (o+(flatK e1s 1 d').toList.length):=by
     rw [MP _ _ _ (by rw [hfs'];omega)]
     have:=OG cur.toList (flatK e1s 1 d').toList off o cs.length (by rw [Array.length_toList,hfs'];omega) (by rw [Array.length_toList];omega)
     exact this
    have hone':bH (flatK e1s 1 d').toList:=by
     rw [hfl']
     intro u hu
     obtain ⟨x,_,rfl⟩:=List.mem_map.1 hu
     rfl
    refine ⟨.tuple #[],g,rfl, ?_,⟨Y5 hb.imm p3, ?_,hb.glob⟩,by simpa using rnil g⟩
    ·rw [List.length_set]
     exact ⟨.refl _ _,QW,fun b' hb' hnt=>Cc hb' (fun e=>hnt (by subst e;exact ⟨l,hlt,.inr ⟨ver,_,p1,rfl⟩⟩)),fun _ _ _=>rfl,fun _ _=>rfl,fun b' hb'=>.inl hb',rfl,rfl,fun hF=>hF.elim⟩
    ·refine hb.heap.setAt hlt (.refl _ _) (fun _ _ _=>rfl) (fun b' hb'=>.inl hb') (fun b' hb'=>Nat.lt_of_lt_of_le (hb.heap.lt l b' hlt hb') QW) QW (fun b' hb' hn=>⟨Cc hb' (fun e=>hn (by subst e;exact .inr ⟨ver,_,p1,rfl⟩)),rfl,rfl⟩) ?_
     refine ⟨b,off,len,cap,putCells id (off+o) (flatK e1s 1 d') cur,p1,p2,p3,by rw [Nat.mul_one,←p4];exact hsp,p5,p6,p7,hrow, ?_, ?_, ?_⟩
     ·have:(putCells id (off+o) (flatK e1s 1 d') cur).size=cur.size:=by simp [putCells]
      rw [this];simpa using p9
     ·show aB g s.length (((putCells id (off+o) (flatK e1s 1 d') cur).toList.drop off).take (splice cs o new).length) (splice cs o new)
      rw [hsp,hcells]
      have hdl:(flatK e1s 1 d').toList.length=new.length:=rnew.1
      rw [hdl]
      exact ((p10.take o).append rnew).append (p10.drop _)
     ·show bH (((putCells id (off+o) (flatK e1s 1 d') cur).toList.drop off).take (splice cs o new).length)
      rw [hsp,hcells]
      intro u hu
      rcases List.mem_append.1 hu with hu|hu
      ·rcases List.mem_append.1 hu with hu|hu
       ·exact p11 u (List.mem_of_mem_take hu)
       ·exact hone' u hu
      ·exact p11 u (List.mem_of_mem_drop hu)
  ·cases h
 ·rename_i hk;cases hk
 ·cases h
end Go.Ai
