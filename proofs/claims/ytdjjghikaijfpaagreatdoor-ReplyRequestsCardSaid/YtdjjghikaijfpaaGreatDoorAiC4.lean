/-
 The library's functions, off the shelf.
-/
import Derived.Test.YtdjjghikaijfpaaGreatDoorAiB2
import Derived.Test.YtdjjghikaijfpaaGreatDoorAiC1
import Derived.Test.YtdjjghikaijfpaaGreatDoorAiPZRead
import Derived.Test.YtdjjghikaijfpaaGreatDoorAiPSortS
import Derived.Test.YtdjjghikaijfpaaGreatDoorShelf
import Derived.Test.YtdjjghikaijfpaaGreatDoorIterC
import Derived.Lib.AtoiTie
import Derived.Lib.LaidTab
import Derived.Lib.AppendIntMem
import Derived.Lib.Join
import Derived.Shelf.Bytes.SlIndexAt
set_option maxRecDepth 100000
set_option linter.unusedSimpArgs false
set_option linter.unusedVariables false
set_option linter.unusedSectionVars false
namespace Go.Ai.Z
open Go.Proofs Go.RowKit
variable {P:Program} {glob:Nat→Option (List AV)}
theorem Ul {w w':World} (h:Below w.heap.size w w'):Grew False w w':=⟨h.size,h.block,h.os,h.output,fun hF=>hF.elim⟩
theorem xg {qt:Prop} (w:World):Grew qt w w:=⟨Nat.le_refl _,fun _ _=>rfl,rfl,rfl,fun _=>⟨rfl,Nat.le_refl _⟩⟩
theorem Ef {qt:Prop} {f:FuncId} {h:List AV→Option AV} (hf:∃rf,P.funcs[f]?=some rf∧(rf.name == "runtime.NumGoroutine")=false∧rf.body.isNone=false)
  (H:∀args r,h args=some r→∀g n w vs,Imm g w→sZ glob g→aS g n vs.toList args→Calls P f vs w fun e w'=>∃v,e=.returned v∧Grew qt w w'∧Rep g n v r):AA qt P glob f h:=by
 refine ⟨hf,fun args r hr g n w vs hi hg hv m=>callsIn_wide.2 ((H args r hr g n w vs hi hg hv).mono fun e w' he=>?_)⟩
 obtain ⟨v,rfl,hgr,hrep⟩:=he
 exact ⟨v,g,rfl,hgr,.refl _ _,rfl,rfl,fun _ _=>⟨rfl,rfl⟩,hi.grew hgr,hrep⟩
theorem YD {g:ah} {n:Nat} {vs:Array Value} {a:AV} (h:aS g n vs.toList [a]):∃v,vs=#[v]∧Rep g n v a:=by
 obtain ⟨l⟩:=vs
 match l,h.1 with
 | [v],_=>exact ⟨v,rfl,h.head⟩
theorem GY {g:ah} {n:Nat} {vs:Array Value} {a b:AV} (h:aS g n vs.toList [a,b]):∃u v,vs=#[u,v]∧Rep g n u a∧Rep g n v b:=by
 obtain ⟨l⟩:=vs
 match l,h.1 with
 | [u,v],_=>exact ⟨u,v,rfl,h.head,h.tail.head⟩
theorem aeG:AA False Tryz.prog glob 208 XG:=by
 refine Ef ⟨Tryz.f208,Tryz.func208,by kernel_rfl,by kernel_rfl⟩ fun args r hr g n w vs hi hg hv=>?_
 unfold XG at hr
 split at hr
 ·rename_i l b
  cases hr
  obtain ⟨u,v,rfl,r1,r2⟩:=GY hv
  cases r1
  cases r2
  refine (Tryz.stringslite_Index_one ⟨l.toArray⟩ b w).mono fun e w' he=>?_
  obtain ⟨rfl,rfl⟩:=he
  exact ⟨_,rfl,xg _,by simpa using Rep.i .i64 (Lib.indexByte l b)⟩
 ·cases hr
theorem agd (hglob:glob 3=some (Lib.pow10Tab.map fun z=>.i .u64 z)):AA False Tryz.prog glob 27 Y7:=by
 refine Ef ⟨Tryz.f27,Tryz.func27,by kernel_rfl,by kernel_rfl⟩ fun args r hr g n w vs hi hg hv=>?_
 unfold Y7 at hr
 split at hr
 ·rename_i z
  split at hr
  ·rename_i hz
   cases hr
   obtain ⟨u,rfl,r1⟩:=YD hv
   cases r1
   have htab:Lib.TabIs Tryz.prog w "internal/strconv.uint64pow10" .u64 Lib.pow10Tab:=by
    obtain ⟨hrep,arr,ha,hs⟩:=hg 3 _ hglob
    obtain ⟨t,f,hw⟩:=hi.mm _ _ ha
    have hk:Tryz.prog.globalNamed "internal/strconv.uint64pow10"=some 3:=by kernel_rfl
    unfold Lib.TabIs World.var?
    simp only [hk,Option.bind_some,hw,Option.some.injEq]
    generalize hpv:Value.pointer (some ⟨3,0,none⟩)=pv at hrep
    cases hrep with
    | ip _ _ _ c hm hr=>
     cases hpv
     apply Array.ext
     ·simpa using hs
     ·intro i h1 h2
      have hi':i<(Lib.pow10Tab.map fun z=>AV.i .u64 z).length:=by simpa using h2
      have q1:=hi.m _ _ _ (hm i hi').1
      have q2:=hr i hi'
      simp only [List.getElem_map] at q2
      simp only [World.cell?,hw,Nat.zero_add,Array.getElem?_eq_getElem h1,Option.some.injEq] at q1
      simp at q1
      rw [q1]
      generalize c i=v at q2
      cases q2
      simp
   refine (Tryz.strconv_Itoa z hz.1 hz.2 w htab).mono fun e w' he=>?_
   obtain ⟨rfl,k,os,rfl⟩:=he
   exact ⟨_,rfl,Ul (Lib.below_grow _ w (Nat.le_refl _) k os),.s _⟩
  ·cases hr
 ·cases hr
theorem agU {l:List UInt8} {n:Int} (h:l.length≤18∨(l.length=19∧l.head?=some 45)) (ha:Lib.atoi l=some n):Lib.atoiAll l=.ok n:=by
 rcases h with h|⟨h1,h2⟩
 ·rw [Lib.atoiAll_short l h,ha];rfl
 ·cases l with
  | nil=>simp at h1
  | cons c r=>
   simp at h1 h2
   subst h2
   rw [Lib.atoiAll_minus,Lib.signed_short (by omega)]
   simp only [Lib.atoi] at ha
   rw [if_pos (by decide)] at ha
   rw [ha];rfl
theorem agh:AA False Tryz.prog glob 190 Y8:=by
 refine Ef ⟨Tryz.f190,Tryz.func190,by kernel_rfl,by kernel_rfl⟩ fun args r hr g n w vs hi hg hv=>?_
 unfold Y8 at hr
 split at hr
 ·rename_i l
  split at hr
  ·rename_i hz
   obtain ⟨z,hz2,rfl⟩:=Option.map_eq_some_iff.1 hr
   obtain ⟨u,rfl,r1⟩:=YD hv
   cases r1
   refine (Any.strconv_Atoi_ok Tryz.laysC172 ⟨l.toArray⟩ (by simp [ByteArray.size];omega) z (by simpa using agU hz hz2) w).mono fun e w' he=>?_
   obtain ⟨rfl,hw⟩:=he
   have hrep:Rep g n (.tuple #[.int .i64 z,.nilIface]) (.tu [.i .i64 z,.ni]):=.tu _ _ rfl fun i hi hi'=>(by
    match i,hi with
    | 0,_=>exact .i _ _
    | 1,_=>exact .ni)
   rcases hw with rfl|⟨t,rfl⟩
   ·exact ⟨_,rfl,xg _,hrep⟩
   ·exact ⟨_,rfl,⟨by rw [Lib.bytesWorld_size];omega,fun b hb=>Lib.bytesWorld_at_old w _ t b hb,rfl,rfl,fun hF=>hF.elim⟩,hrep⟩
  ·cases hr
 ·cases hr
theorem aax:ag4 Tryz.prog glob 95 .sortS:=
 aeF (fun blk off cap ss w h1 h2 h3=>Tryz.slices_Sort_string blk off cap ss w h1 h2 h3) (fun p cap w=>Tryz.slices_Sort_string_none p cap w) ⟨Tryz.f95,Tryz.func95,by kernel_rfl,by kernel_rfl⟩
theorem abI (l:List (List UInt8)) (sep:List UInt8):Lib.join l sep=joinL sep l:=by
 cases l with
 | nil=>rfl
 | cons x r=>rw [Lib.join_cons];simp [joinL,Lib.joinTail,List.flatMap_def]
theorem ad3 {a:AV} {l:List UInt8} (h:strOf a=some l):a=.s l:=by
 cases a<;>simp [strOf] at h;rw [h]
theorem abe:∀{es:List AV} {l:List (List UInt8)},es.mapM strOf=some l→es=l.map .s
 | [],l,h=>by simp at h;subst h;rfl
 | a::r,l,h=>by
  simp only [List.mapM_cons,Option.bind_eq_bind,Option.bind_eq_some_iff,Option.pure_def,Option.some.injEq] at h
  obtain ⟨x,hx,y,hy,rfl⟩:=h
  rw [ad3 hx,abe hy];rfl
theorem agc:AA False Tryz.prog glob 63 Y6:=by
 refine Ef ⟨Tryz.f63,Tryz.func63,by kernel_rfl,by kernel_rfl⟩ fun args r hr g n w vs hi hg hv=>?_
 unfold Y6 at hr
 split at hr
 ·rename_i es sep
  simp only [Option.bind_eq_some_iff] at hr
  obtain ⟨l,hl,hr⟩:=hr
  split at hr
  ·rename_i hlen
   cases hr
   obtain rfl:=abe hl
   obtain ⟨u,v,rfl,r1,r2⟩:=GY hv
   cases r2
   have hnone:∀ad c,l=[]→Calls Tryz.prog 63 #[.slice ad 0 c,.string ⟨sep.toArray⟩] w fun e w'=>∃v,e=.returned v∧Grew False w w'∧Rep g n v (.s (joinL sep l)):=by
    intro ad c hl0
    subst hl0
    refine (Tryz.strings_Join_none ad c ⟨sep.toArray⟩ w).mono fun e w' he=>?_
    obtain ⟨rfl,rfl⟩:=he
    exact ⟨_,rfl,xg _,.s []⟩
   generalize hes:l.map AV.s=es at r1
   cases r1 with
   | slNil=>exact hnone _ _ (by simpa using hes)
   | slE a=>exact hnone _ _ (by simpa using hes)
   | sl bk off cap sz _ c hcap hsz hm hrr=>
    subst hes
    by_cases h0:l=[]
    ·subst h0;exact hnone _ _ rfl
    ·have hpos:0<l.length:=List.length_pos_iff.2 h0
     have hsz1:sz=1:=by have:=hsz 0 (by simpa using hpos);simpa using this.symm
     subst hsz1
     have hcell:∀(j:Nat) (hj:j<l.length),w.cell? ⟨bk,off+j,none⟩=some (.string ⟨(l[j]).toArray⟩):=by
      intro j hj
      have q1:=hi.m _ _ _ (hm j 0 (by simpa using hj) (by omega)).1
      have q2:=hrr j (by simpa using hj) 0 (by simp)
      simp at q1 q2
      generalize c j 0=v at q1 q2
      cases q2
      exact q1
     have hbk:bk<w.heap.size:=World.block_lt_of_cell? w ⟨bk,off+0,none⟩ (hcell 0 hpos)
     have hjl:(Lib.join l sep).length≤1048576:=by rw [abI];exact hlen.1
     have hln:=hlen.2
     have key:=Tryz.strings_Join bk off cap (l.map fun x=>⟨x.toArray⟩) ⟨sep.toArray⟩ w (fun j x hx=>by
       simp only [List.getElem?_map,Option.map_eq_some_iff] at hx
       obtain ⟨y,hy,rfl⟩:=hx
       obtain ⟨hj,rfl⟩:=List.getElem?_eq_some_iff.1 hy
       exact hcell j hj) hbk (by simp;omega) (by simpa using hcap) (by simp [Function.comp_def];omega)
     simp only [List.length_map] at key ⊢
     refine key.mono fun e w' he=>?_
     obtain ⟨rfl,hb⟩:=he
     refine ⟨_,rfl,Ul hb, ?_⟩
     have:=Rep.s (g:=g) (n:=n) (joinL sep l)
     simpa [Function.comp_def,abI] using this
  ·cases hr
 ·cases hr
theorem aeH:AA False Tryz.prog glob 138 XH:=by
 refine Ef ⟨Tryz.f138,Tryz.func138,by kernel_rfl,by kernel_rfl⟩ fun args r hr g n w vs hi hg hv=>?_
 unfold XH at hr
 split at hr
 ·rename_i l b
  cases hr
  obtain ⟨u,v,rfl,r1,r2⟩:=GY hv
  cases r1
  cases r2
  refine (Tryz.strings_Count_one ⟨l.toArray⟩ b w).mono fun e w' he=>?_
  obtain ⟨rfl,rfl⟩:=he
  exact ⟨_,rfl,xg _,by simpa using Rep.i .i64 (Lib.countByte l b:Int)⟩
 ·cases hr
theorem adI {a:AV} {b:UInt8} (h:byteOf a=some b):∃n:Int,a=.i .u8 n∧b=UInt8.ofNat n.toNat:=by
 unfold byteOf at h
 split at h
 ·cases h;exact ⟨_,rfl,rfl⟩
 ·cases h
theorem U0:∀{es:List AV} {l:List UInt8},es.mapM byteOf=some l→∃xs:List Int,es=xs.map (.i .u8)∧l=Lib.bytesOf xs
 | [],l,h=>by simp at h;subst h;exact ⟨[],rfl,rfl⟩
 | a::r,l,h=>by
  simp only [List.mapM_cons,Option.bind_eq_bind,Option.bind_eq_some_iff,Option.pure_def,Option.some.injEq] at h
  obtain ⟨x,hx,y,hy,rfl⟩:=h
  obtain ⟨n,rfl,rfl⟩:=adI hx
  obtain ⟨xs,rfl,rfl⟩:=U0 hy
  exact ⟨n::xs,rfl,rfl⟩
theorem Xv:AA False Tryz.prog glob 48 BB:=by
 refine Ef ⟨Tryz.f48,Tryz.func48,by kernel_rfl,by kernel_rfl⟩ fun args r hr g n w vs hi hg hv=>?_
 have hat:=fun (a:Addr) (n c:Nat) (xs:List Int) (cv:Int) (h1:xs.length=n) (h2:∀i,i<n→w.cell? (a.add i)=some (.int .u8 (xs.getD i 0)))=>Any.bytes_IndexByte_at Tryz.lays187 a n c xs cv w h1 h2
 have hnil:=fun (cv:Int)=>Tryz.bytes_IndexByte_nil cv w
 unfold BB at hr
 split at hr
 ·rename_i es c
  obtain ⟨l,hl,rfl⟩:=Option.map_eq_some_iff.1 hr
  obtain ⟨xs,rfl,rfl⟩:=U0 hl
  obtain ⟨u,v,rfl,r1,r2⟩:=GY hv
  cases r2
  have fin:∀{k:Int} {C:Prop},True:=fun {_ _}=>trivial
  generalize hes:xs.map (AV.i .u8)=es at r1
  cases r1 with
  | slNil=>
   obtain rfl:xs=[]:=by simpa using hes
   refine (hnil c).mono fun e w' he=>?_
   obtain ⟨rfl,rfl⟩:=he
   exact ⟨_,rfl,xg _,.i _ _⟩
  | slE a=>
   obtain rfl:xs=[]:=by simpa using hes
   refine (hat a 0 0 [] c rfl (fun i hi=>by omega)).mono fun e w' he=>?_
   obtain ⟨rfl,rfl⟩:=he
   exact ⟨_,rfl,xg _,.i _ _⟩
  | sl bk off cap sz _ cc hcap hsz hm hrr=>
   subst hes
   have hcell:∀j,j<xs.length→w.cell? (Addr.add ⟨bk,off,none⟩ j)=some (.int .u8 (xs.getD j 0)):=by
    intro j hj
    have hsz1:sz=1:=by have:=hsz j (by simpa using hj);simpa using this.symm
    subst hsz1
    have q1:=hi.m _ _ _ (hm j 0 (by simpa using hj) (by omega)).1
    have q2:=hrr j (by simpa using hj) 0 (by simp)
    simp at q1 q2
    generalize cc j 0=v at q1 q2
    cases q2
    by_cases h0:j=0
    ·subst h0;simpa [Addr.add,List.getD_eq_getElem?_getD,hj] using q1
    ·simpa [Addr.add,List.getD_eq_getElem?_getD,hj,h0] using q1
   simp only [List.length_map]
   refine (hat ⟨bk,off,none⟩ xs.length cap xs c rfl hcell).mono fun e w' he=>?_
   obtain ⟨rfl,rfl⟩:=he
   exact ⟨_,rfl,xg _,.i _ _⟩
 ·cases hr
  obtain ⟨u,v,rfl,r1,r2⟩:=GY hv
  cases r1
  cases r2
  refine (hnil _).mono fun e w' he=>?_
  obtain ⟨rfl,rfl⟩:=he
  exact ⟨_,rfl,xg _,.i _ _⟩
 ·cases hr
end Go.Ai.Z
