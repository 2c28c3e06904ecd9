/-
 The library's functions, off the shelf.
-/
import Derived.Test.YtcofenimejmoeaaGreatDoorAiDf
import Derived.Test.YtcofenimejmoeaaGreatDoorAiC1
import Derived.Test.YtcofenimejmoeaaGreatDoorAiPIntrH
import Derived.Test.YtcofenimejmoeaaGreatDoorAiPSortOK
import Derived.Test.YtcofenimejmoeaaGreatDoorShelf
import Derived.Test.YtcofenimejmoeaaGreatDoorIterC
import Derived.Lib.AtoiTie
import Derived.Lib.LaidTab
import Derived.Lib.AppendIntMem
import Derived.Lib.Join
import Derived.Test.YtcofenimejmoeaaGreatDoorAiC3
import Derived.Test.YtcofenimejmoeaaGreatDoorAiPZDefO
import Derived.Test.YtcofenimejmoeaaGreatDoorRows
set_option maxRecDepth 100000
set_option linter.unusedSimpArgs false
set_option linter.unusedVariables false
set_option linter.unusedSectionVars false
namespace Go.Ai.Z
open Go.Proofs Go.RowKit Go.Maps Go.Sort Go.Shelf
variable {P:Program} {glob:Nat→Option (List AV)}
theorem yF {w w':World} (h:Below w.heap.size w w'):Grew False w w':=⟨h.size,h.block,h.os,h.output,fun hF=>hF.elim⟩
theorem Md {qt:Prop} (w:World):Grew qt w w:=⟨Nat.le_refl _,fun _ _=>rfl,rfl,rfl,fun _=>⟨rfl,Nat.le_refl _⟩⟩
theorem Kz {qt:Prop} {f:FuncId} {h:List AV→Option AV} (hf:∃rf,P.funcs[f]?=some rf∧(rf.name == "runtime.NumGoroutine")=false∧rf.body.isNone=false)
  (H:∀args r,h args=some r→∀g n w vs,Imm g w→tZ glob g→aW g n vs.toList args→Calls P f vs w fun e w'=>∃v,e=.returned v∧Grew qt w w'∧Rep g n v r):Ei qt P glob f h:=by
 refine ⟨hf,fun args r hr g n w vs hi hg hv m=>callsIn_wide.2 ((H args r hr g n w vs hi hg hv).mono fun e w' he=>?_)⟩;obtain ⟨v,rfl,hgr,hrep⟩:=he;exact ⟨v,g,rfl,hgr,.refl _ _,rfl,rfl,fun _ _=>⟨rfl,rfl⟩,hi.grew hgr,hrep⟩
theorem JM {g:ai} {n:Nat} {vs:Array Value} {a:AV} (h:aW g n vs.toList [a]):∃v,vs=#[v]∧Rep g n v a:=by
 obtain ⟨l⟩:=vs
 match l,h.1 with
 | [v],_=>exact ⟨v,rfl,h.head⟩
theorem Wv {g:ai} {n:Nat} {vs:Array Value} {a b:AV} (h:aW g n vs.toList [a,b]):∃u v,vs=#[u,v]∧Rep g n u a∧Rep g n v b:=by
 obtain ⟨l⟩:=vs
 match l,h.1 with
 | [u,v],_=>exact ⟨u,v,rfl,h.head,h.tail.head⟩
theorem ac4:Ei False Tryz.prog glob 122 Vm:=by
 refine Kz ⟨Tryz.f122,Tryz.func122,by kernel_rfl,by kernel_rfl⟩ fun args r hr g n w vs hi hg hv=>?_;unfold Vm at hr
 split at hr
 ·rename_i l b;cases hr;obtain ⟨u,v,rfl,r1,r2⟩:=Wv hv;cases r1;cases r2;refine (Tryz.stringslite_Index_one ⟨l.toArray⟩ b w).mono fun e w' he=>?_;obtain ⟨rfl,rfl⟩:=he;exact ⟨_,rfl,Md _,by simpa using Rep.i .i64 (Lib.indexByte l b)⟩
 ·cases hr
theorem afw (hglob:glob 3=some (Lib.pow10Tab.map fun z=>.i .u64 z)):Ei False Tryz.prog glob 134 Xk:=by
 refine Kz ⟨Tryz.f134,Tryz.func134,by kernel_rfl,by kernel_rfl⟩ fun args r hr g n w vs hi hg hv=>?_;unfold Xk at hr
 split at hr
 ·rename_i z
  split at hr
  ·rename_i hz;cases hr;obtain ⟨u,rfl,r1⟩:=JM hv;cases r1
   have htab:Lib.TabIs Tryz.prog w "internal/strconv.uint64pow10" .u64 Lib.pow10Tab:=by
    obtain ⟨hrep,arr,ha,hs⟩:=hg 3 _ hglob;obtain ⟨t,f,hw⟩:=hi.mm _ _ ha
    have hk:Tryz.prog.globalNamed "internal/strconv.uint64pow10"=some 3:=by kernel_rfl
    unfold Lib.TabIs World.var?;simp only [hk,Option.bind_some,hw,Option.some.injEq];generalize hpv:Value.pointer (some ⟨3,0,none⟩)=pv at hrep
    cases hrep with
    | ip _ _ _ c hm hr=>
     cases hpv;apply Array.ext
     ·simpa using hs
     ·intro i h1 h2;have hi':i<(Lib.pow10Tab.map fun z=>AV.i .u64 z).length:=by simpa using h2
      have q1:=hi.m _ _ _ (hm i hi').1;have q2:=hr i hi';simp only [List.getElem_map] at q2;simp only [World.cell?,hw,Nat.zero_add,Array.getElem?_eq_getElem h1,Option.some.injEq] at q1;simp at q1;rw [q1];generalize c i=v at q2;cases q2;simp
   refine (Tryz.strconv_Itoa z hz.1 hz.2 w htab).mono fun e w' he=>?_;obtain ⟨rfl,k,os,rfl⟩:=he;exact ⟨_,rfl,yF (Lib.below_grow _ w (Nat.le_refl _) k os),.s _⟩
  ·cases hr
 ·cases hr
theorem agd {l:Rl} {n:Int} (h:l.length≤18∨(l.length=19∧l.head?=some 45)) (ha:Lib.atoi l=some n):Lib.atoiAll l=.ok n:=by
 rcases h with h|⟨h1,h2⟩
 ·rw [Lib.atoiAll_short l h,ha];rfl
 ·cases l with
  | nil=>simp at h1
  | cons c r=>
   simp at h1 h2;subst h2;rw [Lib.atoiAll_minus,Lib.signed_short (by omega)];simp only [Lib.atoi] at ha;rw [if_pos (by decide)] at ha;rw [ha];rfl
theorem afy:Ei False Tryz.prog glob 168 Xl:=by
 refine Kz ⟨Tryz.f168,Tryz.func168,by kernel_rfl,by kernel_rfl⟩ fun args r hr g n w vs hi hg hv=>?_;unfold Xl at hr
 split at hr
 ·rename_i l
  split at hr
  ·rename_i hz;obtain ⟨z,hz2,rfl⟩:=Option.map_eq_some_iff.1 hr;obtain ⟨u,rfl,r1⟩:=JM hv;cases r1;refine (Any.strconv_Atoi_ok Tryz.laysC172 ⟨l.toArray⟩ (by simp [ByteArray.size];omega) z (by simpa using agd hz hz2) w).mono fun e w' he=>?_;obtain ⟨rfl,hw⟩:=he
   have hrep:Rep g n (.tuple #[.int .i64 z,.nilIface]) (.tu [.i .i64 z,.ni]):=.tu _ _ rfl fun i hi hi'=>(by
    match i,hi with
    | 0,_=>exact .i _ _
    | 1,_=>exact .ni)
   rcases hw with rfl|⟨t,rfl⟩
   ·exact ⟨_,rfl,Md _,hrep⟩
   ·exact ⟨_,rfl,⟨by rw [Lib.bytesWorld_size];omega,fun b hb=>Lib.bytesWorld_at_old w _ t b hb,rfl,rfl,fun hF=>hF.elim⟩,hrep⟩
  ·cases hr
 ·cases hr
theorem YD:ah5 Tryz.prog glob 47 .sortS:=
 ac2 (fun blk off cap ss w h1 h2 h3=>Tryz.slices_Sort_string blk off cap ss w h1 h2 h3) (fun p cap w=>Tryz.slices_Sort_string_none p cap w) ⟨Tryz.f47,Tryz.func47,by kernel_rfl,by kernel_rfl⟩
theorem Z9 (l:List Rl) (sep:Rl):Lib.join l sep=joinL sep l:=by
 cases l with
 | nil=>rfl
 | cons x r=>rw [Lib.join_cons];simp [joinL,Lib.joinTail,List.flatMap_def]
theorem acr {a:AV} {l:Rl} (h:strOf a=some l):a=.s l:=by
 cases a<;>simp [strOf] at h;rw [h]
theorem Zz:∀{es:List AV} {l:List Rl},es.mapM strOf=some l→es=l.map .s
 | [],l,h=>by simp at h;subst h;rfl
 | a::r,l,h=>by
  simp only [List.mapM_cons,Option.bind_eq_bind,Option.bind_eq_some_iff,Option.pure_def,Option.some.injEq] at h;obtain ⟨x,hx,y,hy,rfl⟩:=h;rw [acr hx,Zz hy];rfl
theorem afv:Ei False Tryz.prog glob 25 Xj:=by
 refine Kz ⟨Tryz.f25,Tryz.func25,by kernel_rfl,by kernel_rfl⟩ fun args r hr g n w vs hi hg hv=>?_;unfold Xj at hr
 split at hr
 ·rename_i es sep;simp only [Option.bind_eq_some_iff] at hr;obtain ⟨l,hl,hr⟩:=hr
  split at hr
  ·rename_i hlen;cases hr;obtain rfl:=Zz hl;obtain ⟨u,v,rfl,r1,r2⟩:=Wv hv;cases r2
   have hnone:∀ad c,l=[]→Calls Tryz.prog 25 #[.slice ad 0 c,.string ⟨sep.toArray⟩] w fun e w'=>∃v,e=.returned v∧Grew False w w'∧Rep g n v (.s (joinL sep l)):=by
    intro ad c hl0;subst hl0;refine (Tryz.strings_Join_none ad c ⟨sep.toArray⟩ w).mono fun e w' he=>?_;obtain ⟨rfl,rfl⟩:=he;exact ⟨_,rfl,Md _,.s []⟩
   generalize hes:l.map AV.s=es at r1
   cases r1 with
   | slNil=>exact hnone _ _ (by simpa using hes)
   | slE a=>exact hnone _ _ (by simpa using hes)
   | sl bk off cap sz _ c hcap hsz hm hrr=>
    subst hes;by_cases h0:l=[]
    ·subst h0;exact hnone _ _ rfl
    ·have hpos:0<l.length:=List.length_pos_iff.2 h0;have hsz1:sz=1:=by have:=hsz 0 (by simpa using hpos);simpa using this.symm
     subst hsz1
     have hcell:∀(j:Nat) (hj:j<l.length),w.cell? ⟨bk,off+j,none⟩=some (.string ⟨(l[j]).toArray⟩):=by
      intro j hj;have q1:=hi.m _ _ _ (hm j 0 (by simpa using hj) (by omega)).1;have q2:=hrr j (by simpa using hj) 0 (by simp);simp at q1 q2;generalize c j 0=v at q1 q2;cases q2;exact q1
     have hbk:bk<w.heap.size:=World.block_lt_of_cell? w ⟨bk,off+0,none⟩ (hcell 0 hpos);have hjl:(Lib.join l sep).length≤1073741824:=by rw [Z9];exact hlen.1
     have hln:=hlen.2
     have key:=Tryz.strings_Join bk off cap (l.map fun x=>⟨x.toArray⟩) ⟨sep.toArray⟩ w (fun j x hx=>by
       simp only [List.getElem?_map,Option.map_eq_some_iff] at hx;obtain ⟨y,hy,rfl⟩:=hx;obtain ⟨hj,rfl⟩:=List.getElem?_eq_some_iff.1 hy
       exact hcell j hj) hbk (by simp;omega) (by simpa using hcap) (by simp [Function.comp_def];omega)
     simp only [List.length_map] at key ⊢;refine key.mono fun e w' he=>?_;obtain ⟨rfl,hb⟩:=he;refine ⟨_,rfl,yF hb, ?_⟩
     have:=Rep.s (g:=g) (n:=n) (joinL sep l)
     simpa [Function.comp_def,Z9] using this
  ·cases hr
 ·cases hr
theorem abd {g:ai} {n:Nat} {v:Value} {m:AV} (h:Rep g n v m) (hm:YR m=true):∃mb,v=.map mb:=by
 cases m<;>simp [YR] at hm<;>cases h<;>exact ⟨_,rfl⟩
theorem afu {f it mt:Nat} (hf:∃rf,P.funcs[f]?=some rf∧(rf.name == "runtime.NumGoroutine")=false∧rf.body.isNone=false)
  (H:∀(mb:Option Nat) (W:World) (m:Nat),CallsIn Fence.wide m P f #[.map mb] W fun e w'=>e=.returned (.func (.func it) #[] #[.pointer (some ⟨W.heap.size,0,none⟩)])∧w'=W.alloc (.cells #[.map mb] mt)):JA False P glob f (Xi it):=by
 refine ⟨hf,fun args s r hr g w vs hb hv m=>?_⟩;unfold Xi at hr
 split at hr
 ·rename_i a s
  split at hr
  ·rename_i hm;cases hr;obtain ⟨v,rfl,r1⟩:=JM hv;obtain ⟨mb,rfl⟩:=abd r1 hm;refine (H mb w m).mono fun e w' he=>?_;obtain ⟨rfl,rfl⟩:=he;obtain ⟨g',q1,q2,q3,q4,q5,q6⟩:=adG (ty:=mt) hb r1;refine ⟨_,g',rfl,Grew.alloc w _,q1,q2,q3,q4,q5,.fn _ _ _ _ _ rfl rfl (fun i hi=>by simp at hi) (fun i hi hi'=>?_)⟩
   match i,hi with
   | 0,_=>exact q6
  ·cases hr
 ·cases hr
theorem aa1 {f kt:Nat} {ks:List Nat} (hk:P.underlying kt=some .string) (hf:∃rf,P.funcs[f]?=some rf∧(rf.name == "runtime.NumGoroutine")=false∧rf.body.isNone=false)
  (H:∀it∈ks,∀(Bm b:Nat) (D0:DataW Unit) (R:Value→Option (DataW Unit×List MemPlace)) (nn:Nat) (w:World) (m:Nat),Bm<w.heap.size→w.cell? ⟨Bm,0,none⟩=some (.map (some b))→w.ownsMap P kt R b nn D0→Maps.size D0≤maxLen→Maps.size D0 * 16≤140737488355328→
   CallsIn Fence.wide m P f #[.func (.func it) #[] #[.pointer (some ⟨Bm,0,none⟩)]] w fun e w'=>∃(v:Value) (ss:List Rl),e=.returned v∧ss.Perm (strKeys D0)∧
    w'.ownsRow w.heap.size kt 1 v ss.length ((ss.mergeSort (fun x y=>decide (x≤y))).map encStr)∧(v=.slice none 0 0 ↔ ss=[])∧Below w.heap.size w w')
  (H0:∀it∈ks,∀(Bm:Nat) (w:World) (m:Nat),Bm<w.heap.size→w.cell? ⟨Bm,0,none⟩=some (.map none)→
   CallsIn Fence.wide m P f #[.func (.func it) #[] #[.pointer (some ⟨Bm,0,none⟩)]] w fun e w'=>∃(v:Value) (ss:List Rl),e=.returned v∧ss=[]∧
    w'.ownsRow w.heap.size kt 1 v ss.length ((ss.mergeSort (fun x y=>decide (x≤y))).map encStr)∧(v=.slice none 0 0 ↔ ss=[])∧Below w.heap.size w w'):JA False P glob f (Gw ks):=by
 refine ⟨hf,fun args s r hr g w vs hb hv m=>?_⟩;unfold Gw at hr
 split at hr
 case h_2=>cases hr
 rename_i _ it mv
 split at hr
 case isFalse=>cases hr
 rename_i hit;have hit':it∈ks:=by simpa using hit
 simp only [Option.bind_eq_some_iff] at hr;obtain ⟨l,hl,hr⟩:=hr
 split at hr
 case isFalse=>cases hr
 rename_i hc;cases hr;obtain ⟨v,rfl,r1⟩:=JM hv
 cases r1 with
 | fn _ us ws _ _ hl1 hl2 ra rc=>
  have has:us=#[]:=Array.eq_empty_of_size_eq_zero (by simpa using hl1);subst has
  obtain ⟨p,rfl⟩:∃p,ws=#[p]:=by
   obtain ⟨ws⟩:=ws
   match ws,hl2 with
   | [p],_=>exact ⟨p,rfl⟩
  have rp:=rc 0 (by simp) (by simp);simp at rp
  cases rp with
  | kb bk c _ hm rm=>
   have hcell:=hb.imm.m bk 0 c hm;have hbk:bk<w.heap.size:=World.block_lt_of_cell? w ⟨bk,0,none⟩ hcell;have hnd:l.Nodup:=(uo l).nodup_iff.1 (Hz _ hc.1 |>.imp fun {a b} hab he=>by subst he;exact List.lt_irrefl a hab)
   have common:∀(e:Ending) (w':World),(∃(v:Value) (ss:List Rl),e=.returned v∧ss.Perm l∧w'.ownsRow w.heap.size kt 1 v ss.length ((ss.mergeSort (fun x y=>decide (x≤y))).map encStr)∧(v=.slice none 0 0 ↔ ss=[])∧Below w.heap.size w w')→
     ∃v g',e=.returned v∧Grew False w w'∧g.le s.length g' s.length∧g'.L=g.L∧g'.hist=g.hist∧(∀b,b<w.heap.size→g'.m b=g.m b∧g'.mm b=g.mm b)∧Imm g' w'∧Rep g' s.length v (slS (vM l)):=by
    rintro e w' ⟨v,ss,rfl,hp,hrow,hnil,hbl⟩
    have hms:ss.mergeSort (fun x y=>decide (x≤y))=vM l:=by
     have h1:=mergeSort_of_perm hp;have h2:=mergeSort_of_perm (uo l)
     have h3:(vM l).mergeSort leB=vM l:=by
      apply List.mergeSort_of_pairwise;exact (DX l).imp fun {a b} hab=>by simpa [leB] using hab
     exact (h1.trans h2.symm).trans h3
    rw [hms] at hrow;by_cases h0:ss=[]
    ·have hv0:=hnil.2 h0;subst hv0;have hl0:l=[]:=by subst h0;exact List.Perm.nil_eq hp |>.symm
     subst hl0;exact ⟨_,g,rfl,yF hbl,.refl _ _,rfl,rfl,fun _ _=>⟨rfl,rfl⟩,hb.imm.grew (yF hbl),.ns⟩
    ·have hlen:ss.length=(vM l).length:=by rw [hp.length_eq,(uo l).length_eq]
     rw [hlen] at hrow;have hne:vM l≠[]:=fun h=>h0 (List.eq_nil_of_length_eq_zero (by rw [hlen,h];rfl));obtain ⟨g',q1,q2,q3,q4,q5,q6⟩:=abe hb (yF hbl) hrow hne
     have hsl:slS (vM l)=.sl ((vM l).map .s):=by
      cases hi:vM l with
      | nil=>exact absurd hi hne
      | cons a r=>rfl
     exact ⟨v,g',rfl,yF hbl,q1,q2,q3,q4,q5,by rw [hsl];exact q6⟩
   rcases WY hb rm hl with ⟨rfl,rfl⟩|⟨b,ents,clock,ks',rfl,q1,q2,q3,q4⟩
   ·refine (H0 it hit' bk w m hbk hcell).mono fun e w' he=>common e w' ?_;obtain ⟨v,ss,h1,rfl,h3⟩:=he;exact ⟨v,[],h1,.refl _,h3⟩
   ·have hnd':ks'.Nodup:=q4.nodup_iff.2 hnd;obtain ⟨D0,d1,d2,d3⟩:=aaY hk q1 q2 q3 hnd' (by rw [q4.length_eq];exact hc.2.1) (fun x hx=>hc.2.2 x (q4.mem_iff.1 hx));have hlen:=q4.length_eq;have hl2:=hc.2.1;refine (H it hit' bk b D0 _ _ w m hbk hcell d1 (by rw [d3];simp only [maxLen];omega) (by rw [d3];omega)).mono fun e w' he=>common e w' ?_;obtain ⟨v,ss,h1,h2,h3⟩:=he;exact ⟨v,ss,h1,(h2.trans d2).trans q4,h3⟩
theorem acz (m:Nat):AnyZ.SortsIn Tryz.prog Tryz.sorted43_ren Fence.wide m:=
 ⟨fun blk off cap ss W hH hblk hsz=>callsIn_wide.2 (AnyM.slices_Sort_string Tryz.sort47 blk off cap ss W hH hblk hsz),
  fun p cap W=>callsIn_wide.2 (AnyM.slices_Sort_string_none Tryz.sort47 p cap W)⟩
theorem ac3:JA False Tryz.prog glob 44 (Xi 91):=
 afu ⟨Tryz.f44,Tryz.func44,by kernel_rfl,by kernel_rfl⟩ (fun mb W m=>AnyZ.keys_in Tryz.keys44 Fence.wide m trivial rfl mb W)
theorem YC:JA False Tryz.prog glob 43 (Gw [91]):=by
 refine aa1 (kt:=9) (by kernel_rfl) ⟨Tryz.f43,Tryz.func43,by kernel_rfl,by kernel_rfl⟩ ?_ ?_
 ·intro it hit Bm b D0 R nn w m hBm hcell hown hmax hbytes;simp at hit;subst hit;have hseq:=AnyZ.keys_gives (ρ:=Tryz.keys44_ren) { Tryz.keys44 with } Fence.wide 2 trivial rfl (by omega) Bm b nn D0 w hBm hcell hown;exact callsIn_wide.2 ((callsIn_wide (n:=5)).1 (AnyZ.sorted_in Tryz.sorted43 Fence.wide 5 trivial trivial trivial trivial rfl (by omega) (acz _) (enters_of Tryz.func47 (by kernel_rfl) rfl) 91 #[.pointer (some ⟨Bm,0,none⟩)] trivial (enters_of Tryz.func91 (by kernel_rfl) rfl) _ _ hmax hbytes w hseq))
 ·intro it hit Bm w m hBm hcell;simp at hit;subst hit;have hseq:=AnyZ.keys_gives_nil (ρ:=Tryz.keys44_ren) { Tryz.keys44 with } Fence.wide 2 trivial rfl Bm w hBm hcell;exact callsIn_wide.2 ((callsIn_wide (n:=5)).1 (AnyZ.sorted_in Tryz.sorted43 Fence.wide 5 trivial trivial trivial trivial rfl (by omega) (acz _) (enters_of Tryz.func47 (by kernel_rfl) rfl) 91 #[.pointer (some ⟨Bm,0,none⟩)] trivial (enters_of Tryz.func91 (by kernel_rfl) rfl) _ 0 (Nat.zero_le _) (by omega) w hseq))
end Go.Ai.Z
namespace Go.Ai.Z
open Go.Proofs Go.Proofs.YtcofenimejmoeaaGreatDoor
set_option maxRecDepth 100000
theorem yD {α:Type}:∀{l:List (Nat×α)} {k:Nat} {v:α},l.lookup k=some v→(k,v)∈l
 | [],_,_,h=>by simp at h
 | (a,b)::r,k,v,h=>by
  simp only [List.lookup] at h
  split at h
  ·rename_i he;cases h;simp at he;subst he;simp
  ·exact List.mem_cons_of_mem _ (yD h)
theorem YX:P0.glob 3=some (Lib.pow10Tab.map fun z=>.i .u64 z):=by
 show KI.lookup 3=_;rfl
theorem ahi:Gh False Tryz.prog P0 where
 mixed:=mixed
 fns f fn h:=ah1 (f,fn) (yD h)
 intr f h hh:=by
  have:=yD (l:=FH) hh
  simp only [FH,List.mem_cons,List.not_mem_nil,or_false,Prod.mk.injEq] at this;rcases this with ⟨rfl,rfl⟩|⟨rfl,rfl⟩|⟨rfl,rfl⟩|⟨rfl,rfl⟩|⟨rfl,rfl⟩|⟨rfl,rfl⟩
  ·exact (afv).lift
  ·exact (afw YX).lift
  ·exact (ac4).lift
  ·exact (afy).lift
  ·exact ac3
  ·exact YC
 hi f k hh:=by
  have:=yD (l:=QF) hh
  simp only [QF,List.mem_cons,List.not_mem_nil,or_false,Prod.mk.injEq] at this;obtain ⟨rfl,rfl⟩:=this;exact ⟨rfl,YD⟩
 intrQ f h hh:=by
  have h0:P0.intrQ f=none:=rfl;rw [h0] at hh;cases hh
 dfr f d hh:=by
  have:=yD (l:=KW) hh
  simp only [KW,List.mem_cons,List.not_mem_nil,or_false,Prod.mk.injEq] at this;obtain ⟨rfl,rfl⟩:=this;exact ⟨rfl,afz⟩
theorem Yh:Tryz.prog.globalNamed "veilstone/terms.uses"=some 0:=by kernel_rfl
theorem WI:Tryz.prog.globalNamed "veilstone/terms.needs"=some 1:=by kernel_rfl
theorem WA:Tryz.prog.globalNamed "internal/strconv.uint64pow10"=some 3:=by kernel_rfl
theorem afM {W:World} {laid:List (String×DataW Unit)} {ps:List MemPlace} (h:DataW.LaidVars Tryz.prog W laid ps)
  (h1:("veilstone/terms.needs",Rows.laid_veilstone_terms_needs)∈laid) (h2:("veilstone/terms.uses",Rows.laid_veilstone_terms_uses)∈laid) (h3:("internal/strconv.uint64pow10",Rows.laid_internal_strconv_uint64pow10)∈laid):tZ P0.glob (g0 W):=by
 intro k cs hk
 have:=yD (l:=KI) hk
 simp only [KI,List.mem_cons,List.not_mem_nil,or_false,Prod.mk.injEq] at this;rcases this with ⟨rfl,rfl⟩|⟨rfl,rfl⟩|⟨rfl,rfl⟩
 ·obtain ⟨ty,fr,hw⟩:=I8 (n:=60) (t:=(Tryz.prog.globals[1]?.map (·.type)).getD 0) (vs:=(KJ Tryz.prog 60 ((Tryz.prog.globals[1]?.map (·.type)).getD 0) Rows.laid_veilstone_terms_needs).getD []) h h1 WI (by kernel_rfl) (by kernel_rfl);exact P5 hw (by kernel_rfl) (by kernel_rfl)
 ·obtain ⟨ty,fr,hw⟩:=I8 (n:=60) (t:=(Tryz.prog.globals[0]?.map (·.type)).getD 0) (vs:=(KJ Tryz.prog 60 ((Tryz.prog.globals[0]?.map (·.type)).getD 0) Rows.laid_veilstone_terms_uses).getD []) h h2 Yh (by kernel_rfl) (by kernel_rfl);exact P5 hw (by kernel_rfl) (by kernel_rfl)
 ·obtain ⟨ty,fr,hw⟩:=I8 (n:=60) (t:=(Tryz.prog.globals[3]?.map (·.type)).getD 0) (vs:=(KJ Tryz.prog 60 ((Tryz.prog.globals[3]?.map (·.type)).getD 0) Rows.laid_internal_strconv_uint64pow10).getD []) h h3 WA (by kernel_rfl) (by kernel_rfl);exact P5 hw (by kernel_rfl) (by kernel_rfl)
end Go.Ai.Z
