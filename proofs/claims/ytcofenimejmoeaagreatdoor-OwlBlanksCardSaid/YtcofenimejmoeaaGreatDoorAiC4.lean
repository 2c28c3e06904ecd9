/-
 The library's functions, off the shelf.
-/
import Derived.Test.YtcofenimejmoeaaGreatDoorAiDf
import Derived.Test.YtcofenimejmoeaaGreatDoorAiC1
import Derived.Test.YtcofenimejmoeaaGreatDoorAiPIntrH
import Derived.Test.YtcofenimejmoeaaGreatDoorAiPSortOK
import Derived.Test.YtcofenimejmoeaaGreatDoorShelf
import Derived.Test.YtcofenimejmoeaaGreatDoorIterC
import Derived.Lib.AtoiTie
import Derived.Lib.LaidTab
import Derived.Lib.AppendIntMem
import Derived.Lib.Join
import Derived.Test.YtcofenimejmoeaaGreatDoorAiPZDefO
import Derived.Test.YtcofenimejmoeaaGreatDoorRows
import Derived.KernelRfl
set_option maxRecDepth 100000
set_option linter.unusedSimpArgs false
set_option linter.unusedVariables false
set_option linter.unusedSectionVars false
namespace Go.Ai.Z
open Go.Proofs Go.RowKit Go.Maps Go.Sort Go.Shelf
variable {P:Program} {glob:Nat→Option (List AV)}
theorem yS {w w':World} (h:Below w.heap.size w w'):Grew False w w':=⟨h.size,h.block,h.os,h.output,fun hF=>hF.elim⟩
theorem Na {qt:Prop} (w:World):Grew qt w w:=⟨Nat.le_refl _,fun _ _=>rfl,rfl,rfl,fun _=>⟨rfl,Nat.le_refl _⟩⟩
theorem La {qt:Prop} {f:FuncId} {h:List AV→Option AV} (hf:∃rf,P.funcs[f]?=some rf∧(rf.name == "runtime.NumGoroutine")=false∧rf.body.isNone=false)
  (H:∀args r,h args=some r→∀g n w vs,Imm g w→uF glob g→aV g n vs.toList args→Calls P f vs w fun e w'=>∃v,e=.returned v∧Grew qt w w'∧Rep g n v r):EC qt P glob f h:=by
 refine ⟨hf,fun args r hr g n w vs hi hg hv m=>callsIn_wide.2 ((H args r hr g n w vs hi hg hv).mono fun e w' he=>?_)⟩;obtain ⟨v,rfl,hgr,hrep⟩:=he;exact ⟨v,g,rfl,hgr,.refl _ _,rfl,rfl,fun _ _=>⟨rfl,rfl⟩,hi.grew hgr,hrep⟩
theorem Kr {g:ai} {n:Nat} {vs:Array Value} {a:AV} (h:aV g n vs.toList [a]):∃v,vs=#[v]∧Rep g n v a:=by
 obtain ⟨l⟩:=vs
 match l,h.1 with
 | [v],_=>exact ⟨v,rfl,h.head⟩
theorem Xq {g:ai} {n:Nat} {vs:Array Value} {a b:AV} (h:aV g n vs.toList [a,b]):∃u v,vs=#[u,v]∧Rep g n u a∧Rep g n v b:=by
 obtain ⟨l⟩:=vs
 match l,h.1 with
 | [u,v],_=>exact ⟨u,v,rfl,h.head,h.tail.head⟩
theorem adP:EC False Tryz.prog glob 122 V9:=by
 refine La ⟨Tryz.f122,Tryz.func122,by kernel_rfl,by kernel_rfl⟩ fun args r hr g n w vs hi hg hv=>?_;unfold V9 at hr
 split at hr
 ·rename_i l b;cases hr;obtain ⟨u,v,rfl,r1,r2⟩:=Xq hv;cases r1;cases r2;refine (Tryz.stringslite_Index_one ⟨l.toArray⟩ b w).mono fun e w' he=>?_;obtain ⟨rfl,rfl⟩:=he;exact ⟨_,rfl,Na _,by simpa using Rep.i .i64 (Lib.indexByte l b)⟩
 ·cases hr
theorem agl (hglob:glob 3=some (Lib.pow10Tab.map fun z=>.i .u64 z)):EC False Tryz.prog glob 134 X0:=by
 refine La ⟨Tryz.f134,Tryz.func134,by kernel_rfl,by kernel_rfl⟩ fun args r hr g n w vs hi hg hv=>?_;unfold X0 at hr
 split at hr
 ·rename_i z
  split at hr
  ·rename_i hz;cases hr;obtain ⟨u,rfl,r1⟩:=Kr hv;cases r1
   have htab:Lib.TabIs Tryz.prog w "internal/strconv.uint64pow10" .u64 Lib.pow10Tab:=by
    obtain ⟨hrep,arr,ha,hs⟩:=hg 3 _ hglob;obtain ⟨t,f,hw⟩:=hi.mm _ _ ha
    have hk:Tryz.prog.globalNamed "internal/strconv.uint64pow10"=some 3:=by kernel_rfl
    unfold Lib.TabIs World.var?;simp only [hk,Option.bind_some,hw,Option.some.injEq];generalize hpv:Value.pointer (some ⟨3,0,none⟩)=pv at hrep
    cases hrep with
    | ip _ _ _ c hm hr=>
     cases hpv;apply Array.ext
     ·simpa using hs
     ·intro i h1 h2;have hi':i<(Lib.pow10Tab.map fun z=>AV.i .u64 z).length:=by simpa using h2
      have q1:=hi.m _ _ _ (hm i hi').1;have q2:=hr i hi';simp only [List.getElem_map] at q2;simp only [World.cell?,hw,Nat.zero_add,Array.getElem?_eq_getElem h1,Option.some.injEq] at q1;simp at q1;rw [q1];generalize c i=v at q2;cases q2;simp
   refine (Tryz.strconv_Itoa z hz.1 hz.2 w htab).mono fun e w' he=>?_;obtain ⟨rfl,k,os,rfl⟩:=he;exact ⟨_,rfl,yS (Lib.below_grow _ w (Nat.le_refl _) k os),.s _⟩
  ·cases hr
 ·cases hr
theorem agX {l:Rl} {n:Int} (h:l.length≤18∨(l.length=19∧l.head?=some 45)) (ha:Lib.atoi l=some n):Lib.atoiAll l=.ok n:=by
 rcases h with h|⟨h1,h2⟩
 ·rw [Lib.atoiAll_short l h,ha];rfl
 ·cases l with
  | nil=>simp at h1
  | cons c r=>
   simp at h1 h2;subst h2;rw [Lib.atoiAll_minus,Lib.signed_short (by omega)];simp only [Lib.atoi] at ha;rw [if_pos (by decide)] at ha;rw [ha];rfl
theorem agn:EC False Tryz.prog glob 168 X3:=by
 refine La ⟨Tryz.f168,Tryz.func168,by kernel_rfl,by kernel_rfl⟩ fun args r hr g n w vs hi hg hv=>?_;unfold X3 at hr
 split at hr
 ·rename_i l
  split at hr
  ·rename_i hz;obtain ⟨z,hz2,rfl⟩:=Option.map_eq_some_iff.1 hr;obtain ⟨u,rfl,r1⟩:=Kr hv;cases r1;refine (Any.strconv_Atoi_ok Tryz.laysC172 ⟨l.toArray⟩ (by simp [ByteArray.size];omega) z (by simpa using agX hz hz2) w).mono fun e w' he=>?_;obtain ⟨rfl,hw⟩:=he
   have hrep:Rep g n (.tuple #[.int .i64 z,.nilIface]) (.tu [.i .i64 z,.ni]):=.tu _ _ rfl fun i hi hi'=>(by
    match i,hi with
    | 0,_=>exact .i _ _
    | 1,_=>exact .ni)
   rcases hw with rfl|⟨t,rfl⟩
   ·exact ⟨_,rfl,Na _,hrep⟩
   ·exact ⟨_,rfl,⟨by rw [Lib.bytesWorld_size];omega,fun b hb=>Lib.bytesWorld_at_old w _ t b hb,rfl,rfl,fun hF=>hF.elim⟩,hrep⟩
  ·cases hr
 ·cases hr
theorem Ze:aiJ Tryz.prog glob 47 .sortS:=
 adN (fun blk off cap ss w h1 h2 h3=>Tryz.slices_Sort_string blk off cap ss w h1 h2 h3) (fun p cap w=>Tryz.slices_Sort_string_none p cap w) ⟨Tryz.f47,Tryz.func47,by kernel_rfl,by kernel_rfl⟩
theorem aaL (l:List Rl) (sep:Rl):Lib.join l sep=joinL sep l:=by
 cases l with
 | nil=>rfl
 | cons x r=>rw [Lib.join_cons];simp [joinL,Lib.joinTail,List.flatMap_def]
theorem ac8 {a:AV} {l:Rl} (h:strOf a=some l):a=.s l:=by
 cases a<;>simp [strOf] at h;rw [h]
theorem aah:∀{es:List AV} {l:List Rl},es.mapM strOf=some l→es=l.map .s
 | [],l,h=>by simp at h;subst h;rfl
 | a::r,l,h=>by
  simp only [List.mapM_cons,Option.bind_eq_bind,Option.bind_eq_some_iff,Option.pure_def,Option.some.injEq] at h;obtain ⟨x,hx,y,hy,rfl⟩:=h;rw [ac8 hx,aah hy];rfl
theorem agk:EC False Tryz.prog glob 25 XZ:=by
 refine La ⟨Tryz.f25,Tryz.func25,by kernel_rfl,by kernel_rfl⟩ fun args r hr g n w vs hi hg hv=>?_;unfold XZ at hr
 split at hr
 ·rename_i es sep;simp only [Option.bind_eq_some_iff] at hr;obtain ⟨l,hl,hr⟩:=hr
  split at hr
  ·rename_i hlen;cases hr;obtain rfl:=aah hl;obtain ⟨u,v,rfl,r1,r2⟩:=Xq hv;cases r2
   have hnone:∀ad c,l=[]→Calls Tryz.prog 25 #[.slice ad 0 c,.string ⟨sep.toArray⟩] w fun e w'=>∃v,e=.returned v∧Grew False w w'∧Rep g n v (.s (joinL sep l)):=by
    intro ad c hl0;subst hl0;refine (Tryz.strings_Join_none ad c ⟨sep.toArray⟩ w).mono fun e w' he=>?_;obtain ⟨rfl,rfl⟩:=he;exact ⟨_,rfl,Na _,.s []⟩
   generalize hes:l.map AV.s=es at r1
   cases r1 with
   | slNil=>exact hnone _ _ (by simpa using hes)
   | slE a=>exact hnone _ _ (by simpa using hes)
   | sl bk off cap sz _ c hcap hsz hm hrr=>
    subst hes;by_cases h0:l=[]
    ·subst h0;exact hnone _ _ rfl
    ·have hpos:0<l.length:=List.length_pos_iff.2 h0;have hsz1:sz=1:=by have:=hsz 0 (by simpa using hpos);simpa using this.symm
     subst hsz1
     have hcell:∀(j:Nat) (hj:j<l.length),w.cell? ⟨bk,off+j,none⟩=some (.string ⟨(l[j]).toArray⟩):=by
      intro j hj;have q1:=hi.m _ _ _ (hm j 0 (by simpa using hj) (by omega)).1;have q2:=hrr j (by simpa using hj) 0 (by simp);simp at q1 q2;generalize c j 0=v at q1 q2;cases q2;exact q1
     have hbk:bk<w.heap.size:=World.block_lt_of_cell? w ⟨bk,off+0,none⟩ (hcell 0 hpos);have hjl:(Lib.join l sep).length≤1048576:=by rw [aaL];exact hlen.1
     have hln:=hlen.2
     have key:=Tryz.strings_Join bk off cap (l.map fun x=>⟨x.toArray⟩) ⟨sep.toArray⟩ w (fun j x hx=>by
       simp only [List.getElem?_map,Option.map_eq_some_iff] at hx;obtain ⟨y,hy,rfl⟩:=hx;obtain ⟨hj,rfl⟩:=List.getElem?_eq_some_iff.1 hy
       exact hcell j hj) hbk (by simp;omega) (by simpa using hcap) (by simp [Function.comp_def];omega)
     simp only [List.length_map] at key ⊢;refine key.mono fun e w' he=>?_;obtain ⟨rfl,hb⟩:=he;refine ⟨_,rfl,yS hb, ?_⟩
     have:=Rep.s (g:=g) (n:=n) (joinL sep l)
     simpa [Function.comp_def,aaL] using this
  ·cases hr
 ·cases hr
theorem abQ {g:ai} {n:Nat} {v:Value} {m:AV} (h:Rep g n v m) (hm:Zt m=true):∃mb,v=.map mb:=by
 cases m<;>simp [Zt] at hm<;>cases h<;>exact ⟨_,rfl⟩
theorem agj {f it mt:Nat} (hf:∃rf,P.funcs[f]?=some rf∧(rf.name == "runtime.NumGoroutine")=false∧rf.body.isNone=false)
  (H:∀(mb:Option Nat) (W:World) (m:Nat),CallsIn Fence.wide m P f #[.map mb] W fun e w'=>e=.returned (.func (.func it) #[] #[.pointer (some ⟨W.heap.size,0,none⟩)])∧w'=W.alloc (.cells #[.map mb] mt)):J3 False P glob f (XY it):=by
 refine ⟨hf,fun args s r hr g w vs hb hv m=>?_⟩;unfold XY at hr
 split at hr
 ·rename_i a s
  split at hr
  ·rename_i hm;cases hr;obtain ⟨v,rfl,r1⟩:=Kr hv;obtain ⟨mb,rfl⟩:=abQ r1 hm;refine (H mb w m).mono fun e w' he=>?_;obtain ⟨rfl,rfl⟩:=he;obtain ⟨g',q1,q2,q3,q4,q5,q6⟩:=aep (ty:=mt) hb r1;refine ⟨_,g',rfl,Grew.alloc w _,q1,q2,q3,q4,q5,.fn _ _ _ _ _ rfl rfl (fun i hi=>by simp at hi) (fun i hi hi'=>?_)⟩
   match i,hi with
   | 0,_=>exact q6
  ·cases hr
 ·cases hr
theorem abG {f kt:Nat} {ks:List Nat} (hk:P.underlying kt=some .string) (hf:∃rf,P.funcs[f]?=some rf∧(rf.name == "runtime.NumGoroutine")=false∧rf.body.isNone=false)
  (H:∀it∈ks,∀(Bm b:Nat) (D0:DataW Unit) (R:Value→Option (DataW Unit×List MemPlace)) (nn:Nat) (w:World) (m:Nat),Bm<w.heap.size→w.cell? ⟨Bm,0,none⟩=some (.map (some b))→w.ownsMap P kt R b nn D0→Maps.size D0≤maxLen→Maps.size D0 * 16≤140737488355328→
   CallsIn Fence.wide m P f #[.func (.func it) #[] #[.pointer (some ⟨Bm,0,none⟩)]] w fun e w'=>∃(v:Value) (ss:List Rl),e=.returned v∧ss.Perm (strKeys D0)∧
    w'.ownsRow w.heap.size kt 1 v ss.length ((ss.mergeSort (fun x y=>decide (x≤y))).map encStr)∧(v=.slice none 0 0 ↔ ss=[])∧Below w.heap.size w w')
  (H0:∀it∈ks,∀(Bm:Nat) (w:World) (m:Nat),Bm<w.heap.size→w.cell? ⟨Bm,0,none⟩=some (.map none)→
   CallsIn Fence.wide m P f #[.func (.func it) #[] #[.pointer (some ⟨Bm,0,none⟩)]] w fun e w'=>∃(v:Value) (ss:List Rl),e=.returned v∧ss=[]∧
    w'.ownsRow w.heap.size kt 1 v ss.length ((ss.mergeSort (fun x y=>decide (x≤y))).map encStr)∧(v=.slice none 0 0 ↔ ss=[])∧Below w.heap.size w w'):J3 False P glob f (G7 ks):=by
 refine ⟨hf,fun args s r hr g w vs hb hv m=>?_⟩;unfold G7 at hr
 split at hr
 case h_2=>cases hr
 rename_i _ it mv
 split at hr
 case isFalse=>cases hr
 rename_i hit;have hit':it∈ks:=by simpa using hit
 simp only [Option.bind_eq_some_iff] at hr;obtain ⟨l,hl,hr⟩:=hr
 split at hr
 case isFalse=>cases hr
 rename_i hc;cases hr;obtain ⟨v,rfl,r1⟩:=Kr hv
 cases r1 with
 | fn _ us ws _ _ hl1 hl2 ra rc=>
  have has:us=#[]:=Array.eq_empty_of_size_eq_zero (by simpa using hl1);subst has
  obtain ⟨p,rfl⟩:∃p,ws=#[p]:=by
   obtain ⟨ws⟩:=ws
   match ws,hl2 with
   | [p],_=>exact ⟨p,rfl⟩
  have rp:=rc 0 (by simp) (by simp);simp at rp
  cases rp with
  | kb bk c _ hm rm=>
   have hcell:=hb.imm.m bk 0 c hm;have hbk:bk<w.heap.size:=World.block_lt_of_cell? w ⟨bk,0,none⟩ hcell;have hnd:l.Nodup:=(uN l).nodup_iff.1 (Iq _ hc.1 |>.imp fun {a b} hab he=>by subst he;exact List.lt_irrefl a hab)
   have common:∀(e:Ending) (w':World),(∃(v:Value) (ss:List Rl),e=.returned v∧ss.Perm l∧w'.ownsRow w.heap.size kt 1 v ss.length ((ss.mergeSort (fun x y=>decide (x≤y))).map encStr)∧(v=.slice none 0 0 ↔ ss=[])∧Below w.heap.size w w')→
     ∃v g',e=.returned v∧Grew False w w'∧g.le s.length g' s.length∧g'.L=g.L∧g'.hist=g.hist∧(∀b,b<w.heap.size→g'.m b=g.m b∧g'.mm b=g.mm b)∧Imm g' w'∧Rep g' s.length v (slS (wz l)):=by
    rintro e w' ⟨v,ss,rfl,hp,hrow,hnil,hbl⟩
    have hms:ss.mergeSort (fun x y=>decide (x≤y))=wz l:=by
     have h1:=mergeSort_of_perm hp;have h2:=mergeSort_of_perm (uN l)
     have h3:(wz l).mergeSort leB=wz l:=by
      apply List.mergeSort_of_pairwise;exact (Ef l).imp fun {a b} hab=>by simpa [leB] using hab
     exact (h1.trans h2.symm).trans h3
    rw [hms] at hrow;by_cases h0:ss=[]
    ·have hv0:=hnil.2 h0;subst hv0;have hl0:l=[]:=by subst h0;exact List.Perm.nil_eq hp |>.symm
     subst hl0;exact ⟨_,g,rfl,yS hbl,.refl _ _,rfl,rfl,fun _ _=>⟨rfl,rfl⟩,hb.imm.grew (yS hbl),.ns⟩
    ·have hlen:ss.length=(wz l).length:=by rw [hp.length_eq,(uN l).length_eq]
     rw [hlen] at hrow;have hne:wz l≠[]:=fun h=>h0 (List.eq_nil_of_length_eq_zero (by rw [hlen,h];rfl));obtain ⟨g',q1,q2,q3,q4,q5,q6⟩:=abR hb (yS hbl) hrow hne
     have hsl:slS (wz l)=.sl ((wz l).map .s):=by
      cases hi:wz l with
      | nil=>exact absurd hi hne
      | cons a r=>rfl
     exact ⟨v,g',rfl,yS hbl,q1,q2,q3,q4,q5,by rw [hsl];exact q6⟩
   rcases XP hb rm hl with ⟨rfl,rfl⟩|⟨b,ents,clock,ks',rfl,q1,q2,q3,q4⟩
   ·refine (H0 it hit' bk w m hbk hcell).mono fun e w' he=>common e w' ?_;obtain ⟨v,ss,h1,rfl,h3⟩:=he;exact ⟨v,[],h1,.refl _,h3⟩
   ·have hnd':ks'.Nodup:=q4.nodup_iff.2 hnd;obtain ⟨D0,d1,d2,d3⟩:=abC hk q1 q2 q3 hnd' (by rw [q4.length_eq];exact hc.2.1) (fun x hx=>hc.2.2 x (q4.mem_iff.1 hx));have hlen:=q4.length_eq;have hl2:=hc.2.1;refine (H it hit' bk b D0 _ _ w m hbk hcell d1 (by rw [d3];simp only [maxLen];omega) (by rw [d3];omega)).mono fun e w' he=>common e w' ?_;obtain ⟨v,ss,h1,h2,h3⟩:=he;exact ⟨v,ss,h1,(h2.trans d2).trans q4,h3⟩
theorem adh (m:Nat):AnyZ.SortsIn Tryz.prog Tryz.sorted43_ren Fence.wide m:=
 ⟨fun blk off cap ss W hH hblk hsz=>callsIn_wide.2 (AnyM.slices_Sort_string Tryz.sort47 blk off cap ss W hH hblk hsz),
  fun p cap W=>callsIn_wide.2 (AnyM.slices_Sort_string_none Tryz.sort47 p cap W)⟩
theorem adO:J3 False Tryz.prog glob 44 (XY 91):=
 agj ⟨Tryz.f44,Tryz.func44,by kernel_rfl,by kernel_rfl⟩ (fun mb W m=>AnyZ.keys_in Tryz.keys44 Fence.wide m trivial rfl mb W)
theorem Zd:J3 False Tryz.prog glob 43 (G7 [91]):=by
 refine abG (kt:=9) (by kernel_rfl) ⟨Tryz.f43,Tryz.func43,by kernel_rfl,by kernel_rfl⟩ ?_ ?_
 ·intro it hit Bm b D0 R nn w m hBm hcell hown hmax hbytes;simp at hit;subst hit;have hseq:=AnyZ.keys_gives (ρ:=Tryz.keys44_ren) { Tryz.keys44 with } Fence.wide 2 trivial rfl (by omega) Bm b nn D0 w hBm hcell hown;exact callsIn_wide.2 ((callsIn_wide (n:=5)).1 (AnyZ.sorted_in Tryz.sorted43 Fence.wide 5 trivial trivial trivial trivial rfl (by omega) (adh _) (enters_of Tryz.func47 (by kernel_rfl) rfl) 91 #[.pointer (some ⟨Bm,0,none⟩)] trivial (enters_of Tryz.func91 (by kernel_rfl) rfl) _ _ hmax hbytes w hseq))
 ·intro it hit Bm w m hBm hcell;simp at hit;subst hit;have hseq:=AnyZ.keys_gives_nil (ρ:=Tryz.keys44_ren) { Tryz.keys44 with } Fence.wide 2 trivial rfl Bm w hBm hcell;exact callsIn_wide.2 ((callsIn_wide (n:=5)).1 (AnyZ.sorted_in Tryz.sorted43 Fence.wide 5 trivial trivial trivial trivial rfl (by omega) (adh _) (enters_of Tryz.func47 (by kernel_rfl) rfl) 91 #[.pointer (some ⟨Bm,0,none⟩)] trivial (enters_of Tryz.func91 (by kernel_rfl) rfl) _ 0 (Nat.zero_le _) (by omega) w hseq))
end Go.Ai.Z
namespace Go.Ai.Z
open Go.Proofs Go.Proofs.YtcofenimejmoeaaGreatDoor
set_option maxRecDepth 100000
theorem yQ {α:Type}:∀{l:List (Nat×α)} {k:Nat} {v:α},l.lookup k=some v→(k,v)∈l
 | [],_,_,h=>by simp at h
 | (a,b)::r,k,v,h=>by
  simp only [List.lookup] at h
  split at h
  ·rename_i he;cases h;simp at he;subst he;simp
  ·exact List.mem_cons_of_mem _ (yQ h)
theorem ZB:P0.glob 3=some (Lib.pow10Tab.map fun z=>.i .u64 z):=by
 show Lr.lookup 3=_;rfl
theorem ahX:GI False Tryz.prog P0 where
 mixed:=mixed
 fns f fn h:=aiF (f,fn) (yQ h)
 intr f h hh:=by
  have:=yQ (l:=F7) hh
  simp only [F7,List.mem_cons,List.not_mem_nil,or_false,Prod.mk.injEq] at this;rcases this with ⟨rfl,rfl⟩|⟨rfl,rfl⟩|⟨rfl,rfl⟩|⟨rfl,rfl⟩|⟨rfl,rfl⟩|⟨rfl,rfl⟩
  ·exact (agk).lift
  ·exact (agl ZB).lift
  ·exact (adP).lift
  ·exact (agn).lift
  ·exact adO
  ·exact Zd
 hi f k hh:=by
  have:=yQ (l:=Rn) hh
  simp only [Rn,List.mem_cons,List.not_mem_nil,or_false,Prod.mk.injEq] at this;obtain ⟨rfl,rfl⟩:=this;exact ⟨rfl,Ze⟩
 intrQ f h hh:=by
  have h0:P0.intrQ f=none:=rfl;rw [h0] at hh;cases hh
 dfr f d hh:=by
  have:=yQ (l:=LM) hh
  simp only [LM,List.mem_cons,List.not_mem_nil,or_false,Prod.mk.injEq] at this;obtain ⟨rfl,rfl⟩:=this;exact ⟨rfl,agp⟩
theorem YS:Tryz.prog.globalNamed "veilstone/terms.uses"=some 0:=by kernel_rfl
theorem XA:Tryz.prog.globalNamed "veilstone/terms.needs"=some 1:=by kernel_rfl
theorem Xt:Tryz.prog.globalNamed "internal/strconv.uint64pow10"=some 3:=by kernel_rfl
theorem agA {W:World} {laid:List (String×DataW Unit)} {ps:List MemPlace} (h:DataW.LaidVars Tryz.prog W laid ps)
  (h1:("veilstone/terms.needs",Rows.laid_veilstone_terms_needs)∈laid) (h2:("veilstone/terms.uses",Rows.laid_veilstone_terms_uses)∈laid) (h3:("internal/strconv.uint64pow10",Rows.laid_internal_strconv_uint64pow10)∈laid):uF P0.glob (g0 W):=by
 intro k cs hk
 have:=yQ (l:=Lr) hk
 simp only [Lr,List.mem_cons,List.not_mem_nil,or_false,Prod.mk.injEq] at this;rcases this with ⟨rfl,rfl⟩|⟨rfl,rfl⟩|⟨rfl,rfl⟩
 ·obtain ⟨ty,fr,hw⟩:=Jv (n:=60) (t:=(Tryz.prog.globals[1]?.map (·.type)).getD 0) (vs:=(Ls Tryz.prog 60 ((Tryz.prog.globals[1]?.map (·.type)).getD 0) Rows.laid_veilstone_terms_needs).getD []) h h1 XA (by kernel_rfl) (by kernel_rfl);exact Qx hw (by kernel_rfl) (by kernel_rfl)
 ·obtain ⟨ty,fr,hw⟩:=Jv (n:=60) (t:=(Tryz.prog.globals[0]?.map (·.type)).getD 0) (vs:=(Ls Tryz.prog 60 ((Tryz.prog.globals[0]?.map (·.type)).getD 0) Rows.laid_veilstone_terms_uses).getD []) h h2 YS (by kernel_rfl) (by kernel_rfl);exact Qx hw (by kernel_rfl) (by kernel_rfl)
 ·obtain ⟨ty,fr,hw⟩:=Jv (n:=60) (t:=(Tryz.prog.globals[3]?.map (·.type)).getD 0) (vs:=(Ls Tryz.prog 60 ((Tryz.prog.globals[3]?.map (·.type)).getD 0) Rows.laid_internal_strconv_uint64pow10).getD []) h h3 Xt (by kernel_rfl) (by kernel_rfl);exact Qx hw (by kernel_rfl) (by kernel_rfl)
end Go.Ai.Z
namespace Go.Ai.Z
def lD (b:UInt8):Rl→Option (Rl×Rl)
 | []=>none
 | x::r=>if x=b then some ([],r) else (lD b r).map fun p=>(x::p.1,p.2)
theorem yY {b:UInt8}:∀{l:Rl},lD b l=none ↔ b ∉ l
 | []=>by simp [lD]
 | x::r=>by
  by_cases h:x=b
  ·simp [lD,h]
  ·have:=yY (b:=b) (l:=r)
   simp [lD,h,this,Ne.symm h]
theorem wF {b:UInt8}:∀{l x y:Rl},lD b l=some (x,y)→l=x++b::y
 | [],_,_,h=>by simp [lD] at h
 | c::r,x,y,h=>by
  by_cases hc:c=b
  ·simp [lD,hc] at h;obtain ⟨rfl,rfl⟩:=h;simp [hc]
  ·simp [lD,hc] at h;obtain ⟨p,q,rfl⟩:=h;simp [wF q]
theorem index_none {b:UInt8}:∀{l:Rl},lD b l=none→Go.Lib.indexByte l b=-1
 | [],_=>rfl
 | c::r,h=>by
  by_cases hc:c=b
  ·simp [lD,hc] at h
  ·simp [lD,hc] at h;simp [Go.Lib.indexByte,hc,index_none h]
theorem Eg {b:UInt8}:∀{l x y:Rl},lD b l=some (x,y)→Go.Lib.indexByte l b=x.length
 | [],_,_,h=>by simp [lD] at h
 | c::r,x,y,h=>by
  by_cases hc:c=b
  ·simp [lD,hc] at h;obtain ⟨rfl,rfl⟩:=h;simp [Go.Lib.indexByte,hc]
  ·simp [lD,hc] at h;obtain ⟨p,q,rfl⟩:=h
   have:=Eg q
   have h1:¬((p.length:Int)=-1):=by omega
   simp [Go.Lib.indexByte,hc,this,h1]
theorem WM (l:Rl) (b:UInt8) (s:St) (cx:Ctx):aj P0 (.fn (.func kC) [] []) [.s l,.s [b]] s cx=.ret (.i .i64 (Go.Lib.indexByte l b)) s:=
 sK (h:=Iu V9) rfl rfl
theorem LV (l:Rl) (b:UInt8) (hl:l.length≤1152921504606846976) (s:St) (cx:Ctx):aj P0 (.fn (.func jw) [] []) [.s l,.s [b]] s cx=
  .ret (match lD b l with|some (x,y)=>.tu [.s x,.s y,.b true] | none=>.tu [.s l,.s [],.b false]) s:=by
 refine Aj (by simp) ?_
 cases hc:lD b l with
 | none=>simp [af,jc,WM,index_none hc]
 | some p=>
  obtain ⟨x,y⟩:=p;have hi:=Eg hc;have he:=wF hc;have hlen:l.length=x.length+(y.length+1):=by rw [he];simp
  have w1:IntKind.i64.wrap ((x.length:Int)+1)=(x.length:Int)+1:=w64 (by omega) (by omega);have e1:l.take x.length=x:=by rw [he];simp
  have e2:(l.drop (x.length+1)).take (l.length - (x.length+1))=y:=by
   rw [hlen,he,show x.length+1=(x++[b]).length from by simp,show x++b::y=(x++[b])++y from by simp,List.drop_left];exact List.take_of_length_le (by simp;omega)
  clear he;have hn:((x.length:Int)+1).toNat=x.length+1:=by omega
  have h0:(0:Int)≤(x.length:Int)+1:=by omega
  have g1:x.length≤l.length:=by omega
  have g2:x.length+1≤l.length:=by omega
  simp [af,jc,WM,hi,w1,hn,h0,g1,g2,e1,e2]
theorem zn (l:Rl) (b:UInt8) (hl:l.length≤1152921504606846976) (s:St) (cx:Ctx):aj P0 (.fn (.func qg) [] []) [.s l,.s [b]] s cx=
  .ret (match lD b l with|some (x,y)=>.tu [.s x,.s y,.b true] | none=>.tu [.s l,.s [],.b false]) s:=by
 refine Rw (by simp) ?_;have e1:=LV l b hl
 cases hc:lD b l with
 | none=>rw [hc] at e1;simp [af,uP,e1]
 | some p=>obtain ⟨x,y⟩:=p;rw [hc] at e1;simp [af,uP,e1]
def abI (k:Int):Bool:=decide (97≤k) && decide (k≤122) || decide (65≤k) && decide (k≤90)
def aii (k:Int):Bool:=abI k || decide (48≤k) && decide (k≤57) || decide (k=95)
def akC (b:UInt8):Bool:=abI b.toNat
def Zw (b:UInt8):Bool:=aii b.toNat
def Ip:Rl→Bool
 | []=>true
 | b::r=>Zw b && Ip r
theorem abb:Ip []=true:=rfl
theorem IZ (b:UInt8) (r:Rl):Ip (b::r)=(Zw b && Ip r):=rfl
def keywords:List Rl:=
 [[97,110,100],[115,111,109,101],[105,110],[116,111],[110,111,116,104,105,110,103],wD4,[111,110,101],[111,102],
  [111,112,101,110],[112,114,105,118,97,116,101],[115,117,98],[115,97,109,101],[100,105,115,106,111,105,110,116],[100,111,109,97,105,110],[114,111,108,101],
  [99,104,97,105,110],[114,101,102,108,101,120,105,118,101],[116,121,112,101],[108,105,110,107],[115,101,108,101,99,116],[119,104,101,114,101],[111,114]]
def kwS (l:Rl):Bool:=keywords.contains l
def AP (l:Rl):Bool:=(match l with | []=>false|b::_=>akC b) && Ip l && !kwS l
def oL (l:Rl):Bool:=decide (l.length≤24) && (match lD 58 l with|some (x,y)=>AP x && AP y|none=>AP l)
def MF (l:Rl):Bool:=decide (2≤l.length) && decide (l.length≤24) && (match l with | []=>false|b::_=>decide ((b.toNat:Int)=95)) && Ip l
@[simp] theorem acN (k:Int) (s:St) (cx:Ctx):aj P0 (.fn (.func nT) [] []) [.i .u8 k] s cx=.ret (.b (abI k)) s:=by
 refine Le (by simp) ?_;simp [af,uo,abI]
 repeat' (split<;>simp only [gm,gq,gB]<;>simp [*])
theorem FX (s:St) (cx:Ctx) (l:Rl) (hl:l.length≤1152921504606846976):∀(rest:Rl) (i:Nat),l.drop i=rest→
  ∃j:Int,gU (aC P0.glob (aj P0) cx false rY) [6,7,8] [(6,.v (.sl (au l))),(7,.v (.i .i64 l.length)),(8,.v (.i .i64 i))] s=
   if Ip rest=true then .exit 0 [(6,.v (.sl (au l))),(7,.v (.i .i64 l.length)),(8,.v (.i .i64 j)),(9,.v (.b false))] s else .ret [(2,.v (.b false))] s
 | [],i,h=>by
  have h1:¬i<l.length:=Nat.not_lt.2 (drop_nil h);refine ⟨i,ak fun K hK=>?_⟩;simp [rY,h1,abb]
 | b::r,i,h=>by
  obtain ⟨h1,h2,h3,h4⟩:=drop_cons h;have h5:=h4 h3;have hb:(au l)[i]?=some (.i .u8 b.toNat):=by simp [au,h1]
  have hw:=wI (i:=i) (by omega);obtain ⟨j,ih⟩:=FX s cx l hl r (i+1) h2;refine ⟨j,ak fun K hK=>?_⟩;rw [←hK,show ((i+1:Nat):Int)=(i:Int)+1 from rfl] at ih;clear hK
  rcases Bool.eq_false_or_eq_true (Zw b) with hin|hin<;>rcases Bool.eq_false_or_eq_true (abI b.toNat) with hlt|hlt <;>
  ·have hin':=hin;simp [Zw,aii,hlt] at hin'
   try simp [rY,h3,hb,IZ,hin,hlt,hw,ih]
   repeat' (first | (split<;>(try simp only [gm,gq,gB,kD,kE])<;>(try simp [*])) | (simp only [gm,gq,gB,kD,kE]<;>(try simp [*]))|omega)
theorem Gx (l:Rl) (hl:l.length≤1152921504606846976) (s:St) (cx:Ctx):aj P0 (.fn (.func qV) [] []) [.s l] s cx=.ret (.b (Ip l)) s:=by
 refine Pn (by simp) ?_;obtain ⟨j,h⟩:=FX s ⟨s.length,s.length⟩ l hl l 0 rfl;have hb:(au l).length=l.length:=by simp [au]
 simp at h;simp [af,wO,hb,h]
 repeat' (first | (split<;>(try simp only [gm,gq,gB,kD,kE])<;>(try simp [*])) | (simp only [gm,gq,gB,kD,kE]<;>(try simp [*]))|omega)
@[simp] theorem acV (l:Rl) (s:St) (cx:Ctx):aj P0 (.fn (.func tJ) [] []) [.s l] s cx=.ret (.b (kwS l)) s:=by
 refine Ns (by simp) ?_;simp [af,vN]
 repeat' (first | (split<;>(try simp only [gm,gq,gB,kD,kE])<;>(try simp [*])) | (simp only [gm,gq,gB,kD,kE]<;>(try simp [*]))|omega)
 all_goals first|rfl|simp [kwS,keywords, *]
theorem Bg (l:Rl) (hl:l.length≤1152921504606846976) (s:St) (cx:Ctx):aj P0 (.fn (.func qU) [] []) [.s l] s cx=.ret (.b (AP l)) s:=by
 refine Pm (by simp) ?_
 cases l with
 | nil=>simp [af,sV,AP]
 | cons b r=>
  have e1:=Gx _ hl;simp [af,sV,e1,AP,akC]
  repeat' (first | (split<;>(try simp only [gm,gq,gB,kD,kE])<;>(try simp [*])) | (simp only [gm,gq,gB,kD,kE]<;>(try simp [*]))|omega)
theorem Bh (l:Rl) (hl:l.length≤1152921504606846976) (s:St) (cx:Ctx):aj P0 (.fn (.func lU) [] []) [.s l] s cx=.ret (.b (MF l)) s:=by
 refine H6 (by simp) ?_
 cases l with
 | nil=>simp [af,ng,MF]
 | cons b r=>
  have e1:=Gx _ hl;simp [af,ng,e1,MF]
  repeat' (first | (split<;>(try simp only [gm,gq,gB,kD,kE])<;>(try simp [*])) | (simp only [gm,gq,gB,kD,kE]<;>(try simp [*]))|omega)
@[simp] theorem acT (l:Rl) (s:St) (cx:Ctx):aj P0 (.fn (.func lF) [] []) [.s l] s cx=.ret (.b (oL l)) s:=by
 refine Nj (by simp) ?_;by_cases hl:l.length≤24
 ·have hn:¬((24:Int)<l.length):=by omega
  cases hc:lD 58 l with
  | none=>
   have hcut:=zn l 58 (by omega);rw [hc] at hcut;simp only [] at hcut;have e1:=Bg l (by omega);simp [af,nR,hcut,hn,e1,oL,hc,hl]
   repeat' (first | (split<;>(try simp only [gm,gq,gB,kD,kE])<;>(try simp [*])) | (simp only [gm,gq,gB,kD,kE]<;>(try simp [*]))|omega)
  | some p=>
   obtain ⟨x,y⟩:=p;have hcut:=zn l 58 (by omega);rw [hc] at hcut;simp only [] at hcut
   have:=wF hc
   have hx:x.length≤1152921504606846976:=by have:=congrArg List.length this;simp at this;omega
   have hy:y.length≤1152921504606846976:=by have:=congrArg List.length this;simp at this;omega
   clear this;have e1:=Bg x hx;have e2:=Bg y hy;simp [af,nR,hcut,hn,e1,e2,oL,hc,hl]
   repeat' (first | (split<;>(try simp only [gm,gq,gB,kD,kE])<;>(try simp [*])) | (simp only [gm,gq,gB,kD,kE]<;>(try simp [*]))|omega)
 ·have hn:(24:Int)<l.length:=by omega
  simp [af,nR,hn,oL,hl]
theorem Iz (c:C) (hps:c.parts.length≤1152921504606846976) (d m:Int) (hd:d≤1000) (hd':-1000≤d) (hm:0≤m) (hm':m≤100000)
  (ih:∀p∈c.parts,∀(d m:Int),d≤1000→-1001≤d→0≤m→m≤100000→
   ∃v:Int,(∀s cx,aj P0 (.fn (.func qj) [] []) [aJ p,.i .i64 d,.i .i64 m] s cx=.ret (.i .i64 v) s)∧1≤v∧v≤m+1152921504606846976∧(v≤m→wC p≤v)):
  ∀(rest:List C) (i:Nat) (n:Int),c.parts.drop i=rest→1≤n→n≤m+1152921504606846976→
  ∃v j:Int,(∀s cx,gU (aC P0.glob (aj P0) cx false o8) [1,2,3,7,8] [(1,.v (.i .i64 d)),(2,.v (.i .i64 m)),(3,.bx (aJ c).cells),(7,.v (.i .i64 n)),(8,.v (.i .i64 i))] s=
   .exit 0 [(1,.v (.i .i64 d)),(2,.v (.i .i64 m)),(3,.bx (aJ c).cells),(7,.v (.i .i64 v)),(8,.v (.i .i64 j)),(27,.v (.b false))] s)∧
   1≤v∧v≤m+1152921504606846976∧(v≤m→n+wL rest≤v)
 | [],i,n,h,hn,hn'=>by
  have h1:¬i<c.parts.length:=Nat.not_lt.2 (drop_nil h);refine ⟨n,i,fun s cx=>ak fun K hK=>?_,hn,hn',fun _=>by simp [wL]⟩;simp [o8,h1]
 | p::r,i,n,h,hn,hn'=>by
  obtain ⟨h1,h2,h3,h4⟩:=drop_cons h;have h5:=h4 h3;have hp:p∈c.parts:=by rw [←h5];exact List.getElem_mem h3
  have hw:=wI (i:=i) (by omega);by_cases hnm:n≤m
  ·obtain ⟨v',e1,q1,q2,q3⟩:=ih p hp (d - 1) (m - n) (by omega) (by omega) (by omega) (by omega);obtain ⟨v,j,ih2,r1,r2,r3⟩:=Iz c hps d m hd hd' hm hm' ih r (i+1) (n+v') h2 (by omega) (by omega);refine ⟨v,j,fun s cx=>ak fun K hK=>?_,r1,r2,fun hv=>?_⟩
   ·have ih2:=ih2 s cx;rw [←hK,show ((i+1:Nat):Int)=(i:Int)+1 from rfl] at ih2;clear hK h4 ih;have w1:IntKind.i64.wrap (d - 1)=d - 1:=w64 (by omega) (by omega);have w2:IntKind.i64.wrap (m - n)=m - n:=w64 (by omega) (by omega);have w3:IntKind.i64.wrap (n+v')=n+v':=w64 (by omega) (by omega);simp at ih2;simp [o8,h3,h5,hnm,w1,w2,w3,hw,e1,ih2]
   ·have:=r3 hv;simp only [wL];have:=q3 (by omega);omega
  ·refine ⟨n,i,fun s cx=>ak fun K hK=>?_,hn,hn',fun hv=>by omega⟩;simp [o8,h3,hnm]
theorem TV:∀(c:C),c.Ok→∀(d m:Int),d≤1000→-1001≤d→0≤m→m≤100000→
  ∃v:Int,(∀s cx,aj P0 (.fn (.func qj) [] []) [aJ c,.i .i64 d,.i .i64 m] s cx=.ret (.i .i64 v) s)∧1≤v∧v≤m+1152921504606846976∧(v≤m→wC c≤v):=by
 refine C.ind' fun c ih hok d m hd hd' hm hm'=>?_
 cases hok with
 | mk _ hn hps hk hl hh hp=>
  by_cases h0:d≤0
  ·have w1:IntKind.i64.wrap (m+1)=m+1:=w64 (by omega) (by omega);refine ⟨m+1,fun s cx=>Gg (by simp) ?_,by omega,by omega,by omega⟩;simp [af,uQ,h0,w1]
  ·have hdiv:((c.name.length:Int).tdiv 40)=((c.name.length / 40:Nat):Int):=by rw [Int.tdiv_eq_ediv_of_nonneg (by omega)];omega
   have w1:IntKind.i64.wrap ((c.name.length / 40:Nat):Int)=((c.name.length / 40:Nat):Int):=w64 (by omega) (by omega);have w2:IntKind.i64.wrap (1+((c.name.length / 40:Nat):Int))=1+((c.name.length / 40:Nat):Int):=w64 (by omega) (by omega);obtain ⟨v,j,h,r1,r2,r3⟩:=Iz c hps d m hd (by omega) hm hm' (fun p hp'=>ih p hp' (hp p hp')) c.parts 0 (1+((c.name.length / 40:Nat):Int)) rfl (by omega) (by omega);refine ⟨v,fun s cx=>Gg (by simp) ?_,r1,r2,fun hv=>?_⟩
   ·simp at h;rw [show ((c.name.length / 40:Nat):Int)=(c.name.length:Int) / 40 from by omega] at hdiv w1 w2;simp [af,uQ,h0,hdiv,w1,w2,h]
   ·have:=r3 hv;rw [EH];omega
theorem OL (c:C) (h:c.Ok):∃b:Bool,(∀s cx,aj P0 (.fn (.func xG) [] []) [aJ c] s cx=.ret (.b b) s)∧(b=true→wC c≤150):=by
 obtain ⟨v,e,r1,r2,r3⟩:=TV c h 40 150 (by omega) (by omega) (by omega) (by omega);refine ⟨decide (v≤150),fun s cx=>?_,fun hv=>by simp at hv;have:=r3 hv;omega⟩;refine Wh (by simp) ?_;simp [af,Ag,e]
def kS (c:C):Bool:=
 let plain:=decide (c.lo=0) && decide (c.hi=0)
 if c.kind=1 then plain && decide (c.name=[]) && decide ((c.parts.length:Int)=0)
 else if c.kind=2 then plain && decide (c.name=[]) && decide ((c.parts.length:Int)=0)
 else if c.kind=3 then plain && decide ((c.parts.length:Int)=0)
 else if c.kind=4 then plain && decide ((c.parts.length:Int)=0)
 else if c.kind=5 then plain && decide (c.name=[]) && decide ((2:Int)≤c.parts.length) && decide ((c.parts.length:Int)≤8)
 else if c.kind=6 then plain && decide ((c.parts.length:Int)=1)
 else if c.kind=7 then decide ((c.parts.length:Int)=0) && decide (-1099511627776≤c.lo) && decide (c.lo≤c.hi) && decide (c.hi≤1099511627776)
 else false
def uf (c:C):Bool:=
 if c.kind=3 then oL c.name
 else if c.kind=6 then oL c.name
 else if c.kind=7 then oL c.name
 else if c.kind=4 then oL c.name || MF c.name
 else true
mutual
def iH:C→Int
 | .mk k n l h z ps=>if kS (.mk k n l h z ps)=false then 21 else if uf (.mk k n l h z ps)=false then 20 else rM ps
def rM:List C→Int
 | []=>0
 | p::r=>if iH p=0 then rM r else iH p
end
theorem CZ (c:C):iH c=if kS c=false then 21 else if uf c=false then 20 else rM c.parts:=by cases c;simp [iH]
def ve (c:C):Int:=if 8<yX c∨64<nY c then 21 else iH c
def sF (c:C):Int:=if kS c=false then 21 else if uf c=false then 20 else 0
theorem ZC:P0.glob CW=some [.i .i64 0,.i .i64 0,.i .i64 0,.b false,.i .i64 0,.i .i64 0,.i .i64 0,.b false,.i .i64 0,.i .i64 0,.i .i64 0,.b false,.i .i64 1,.i .i64 0,.i .i64 0,.b false,.i .i64 2,.i .i64 0,.i .i64 0,.b false,.i .i64 0,.i .i64 2,.i .i64 8,.b false,.i .i64 1,.i .i64 1,.i .i64 1,.b false,.i .i64 1,.i .i64 0,.i .i64 0,.b true]:=rfl
theorem Ij (c:C) (hn:c.name.length≤1152921504606846976) (s:St) (cx:Ctx):aj P0 (.fn (.func nG) [] []) [aJ c] s cx=.ret (.i .i64 (sF c)) s:=by
 refine Gf (by simp) ?_;have e1:=Bh c.name hn;by_cases h0:c.kind<1
 ·have:kS c=false:=by simp [kS,show ¬c.kind=1 by omega,show ¬c.kind=2 by omega,show ¬c.kind=3 by omega,show ¬c.kind=4 by omega,show ¬c.kind=5 by omega,show ¬c.kind=6 by omega,show ¬c.kind=7 by omega]
  simp [af,kJ,h0,sF,this]
 by_cases h8:7<c.kind
 ·have:kS c=false:=by simp [kS,show ¬c.kind=1 by omega,show ¬c.kind=2 by omega,show ¬c.kind=3 by omega,show ¬c.kind=4 by omega,show ¬c.kind=5 by omega,show ¬c.kind=6 by omega,show ¬c.kind=7 by omega]
  simp [af,kJ,h0,h8,sF,this]
 have hk:c.kind=1∨c.kind=2∨c.kind=3∨c.kind=4∨c.kind=5∨c.kind=6∨c.kind=7:=by omega
 rcases hps:c.parts with _|⟨a,_|⟨b,r⟩⟩<;>rcases hk with hk|hk|hk|hk|hk|hk|hk
 all_goals
  clear h0 h8;simp [af,kJ,hk,ZC,sF,kS,uf,hps]
  repeat' (first | (split<;>(try simp only [gm,gq,gB,kD,kE])<;>(try simp [*])) | (simp only [gm,gq,gB,kD,kE]<;>(try simp [*]))|omega)
mutual
def yC:C→Nat→Nat→Bool×Nat
 | .mk _ _ _ _ _ ps,d,n=>if 8<d∨64<n+1 then (false,n+1) else Ej ps d (n+1)
def Ej:List C→Nat→Nat→Bool×Nat
 | [],_,n=>(true,n)
 | p::r,d,n=>if (yC p (d+1) n).1=true then Ej r d (yC p (d+1) n).2 else (false,(yC p (d+1) n).2)
end
theorem LD (c:C) (d n:Nat):yC c d n=if 8<d∨64<n+1 then (false,n+1) else Ej c.parts d (n+1):=by cases c;simp [yC]
theorem agD:∀(c:C) (d n:Nat),n≤64→(yC c d n).2≤65∧((yC c d n).1=true→(yC c d n).2≤64):=by
 refine C.ind' fun c ih d n hn=>?_
 have hL:∀(l:List C),(∀p∈l,∀(d n:Nat),n≤64→(yC p d n).2≤65∧((yC p d n).1=true→(yC p d n).2≤64))→∀n,n≤64→(Ej l d n).2≤65∧((Ej l d n).1=true→(Ej l d n).2≤64):=by
  intro l
  induction l with
  | nil=>intro _ n hn;simp [Ej];omega
  | cons p r ih=>
   intro h n hn;have h1:=h p (by simp) (d+1) n hn;simp only [Ej];split
   ·rename_i ht;exact ih (fun q hq=>h q (by simp [hq])) _ (h1.2 ht)
   ·exact ⟨h1.1,by simp⟩
 rw [LD];split
 ·exact ⟨by simp;omega,by simp⟩
 ·exact hL c.parts ih _ (by omega)
theorem agE:∀(c:C) (d n:Nat),n≤64→((yC c d n).1=true ↔ d+yX c≤8∧n+nY c≤64)∧((yC c d n).1=true→(yC c d n).2=n+nY c):=by
 refine C.ind' fun c ih d n hn=>?_
 have hL:∀(l:List C),(∀p∈l,∀(d n:Nat),n≤64→((yC p d n).1=true ↔ d+yX p≤8∧n+nY p≤64)∧((yC p d n).1=true→(yC p d n).2=n+nY p))→∀n,n≤64→d≤8→
   ((Ej l d n).1=true ↔ d+En l≤8∧n+zQ l≤64)∧((Ej l d n).1=true→(Ej l d n).2=n+zQ l):=by
  intro l
  induction l with
  | nil=>intro _ n hn hd;simp [Ej,En,zQ];omega
  | cons p r ih=>
   intro h n hn hd;have h1:=h p (by simp) (d+1) n hn;simp only [Ej,En,zQ];by_cases ht:(yC p (d+1) n).1=true
   ·have h2:=h1.2 ht;have h3:=h1.1.1 ht;rw [if_pos ht];have h4:=ih (fun q hq=>h q (by simp [hq])) (yC p (d+1) n).2 (by omega) hd;rw [h2] at h4 ⊢;refine ⟨h4.1.trans ⟨fun h=>⟨by omega,by omega⟩,fun h=>⟨by omega,by omega⟩⟩,fun h=>by rw [h4.2 h];omega⟩
   ·rw [if_neg ht];refine ⟨⟨fun h=>by simp at h,fun h=>absurd (h1.1.2 ⟨by omega,by omega⟩) ht⟩,fun h=>by simp at h⟩
 rw [LD,Nw,Df];have hL:=hL c.parts ih;split
 ·rename_i h;refine ⟨⟨fun h=>by simp at h,fun h=>by omega⟩,fun h=>by simp at h⟩
 ·have:=hL (n+1) (by omega) (by omega)
  refine ⟨this.1.trans ⟨fun h=>⟨by omega,by omega⟩,fun h=>⟨by omega,by omega⟩⟩,fun h=>by rw [this.2 h];omega⟩
theorem Qm {T:St} {l:Nat} {v:fQ} (h:T[l]?=some v):T.set l v=T:=by
 obtain ⟨h1,h2⟩:=List.getElem?_eq_some_iff.1 h;rw [←h2];exact List.set_getElem_self h1
inductive C.Lng:C→Prop where
 | mk (c:C) (hn:c.name.length≤1152921504606846976) (hps:c.parts.length≤1152921504606846976) (hp:∀p∈c.parts,C.Lng p):C.Lng c
theorem C.Lng.n {c:C} (h:C.Lng c):c.name.length≤1152921504606846976:=by cases h;assumption
theorem C.Lng.ps {c:C} (h:C.Lng c):c.parts.length≤1152921504606846976:=by cases h;assumption
theorem C.Lng.sub {c:C} (h:C.Lng c):∀p∈c.parts,C.Lng p:=by cases h;assumption
theorem C.Ok.lng {c:C} (h:C.Ok c):C.Lng c:=by
 induction h with
 | mk c hn hps _ _ _ _ ih=>exact .mk c hn hps ih
theorem ahl:∀c:C,wC c≤100000→C.Lng c:=by
 refine C.ind' fun c ih hw=>?_;have hl:=Qc c.parts;rw [EH] at hw;exact .mk c (by omega) (by omega) fun p hp=>ih p hp (by have:=Mc hp;omega)
theorem KU (c:C) (hw:C.Lng c) (cx:Ctx) (l:Nat) (hcl:cx.lim≤l) (d:Nat) (hd:d≤8)
  (ih:∀p∈c.parts,∀(d n:Nat) (s:St) (cx:Ctx),d≤100→n≤64→cx.lim≤l→s[l]?=some (.cells [.i .i64 n])→
   aj P0 (.fn (.func sQ) [] []) [aJ p,.i .i64 d,.pt l 0] s cx=.ret (.b (yC p d n).1) (s.set l (.cells [.i .i64 (yC p d n).2]))):
  ∀(rest:List C) (i:Nat) (n:Nat) (s:St),n≤64→s[l]?=some (.cells [.i .i64 n])→c.parts.drop i=rest→
  ∃j:Int,gU (aC P0.glob (aj P0) cx false qK) [1,2,23,24,25] [(1,.v (.i .i64 d)),(2,.v (.pt l 0)),(23,.v (slf c.z (c.parts.map aJ))),(24,.v (.i .i64 c.parts.length)),(25,.v (.i .i64 i))] s=
   if (Ej rest d n).1=true then .exit 0 [(1,.v (.i .i64 d)),(2,.v (.pt l 0)),(23,.v (slf c.z (c.parts.map aJ))),(24,.v (.i .i64 c.parts.length)),(25,.v (.i .i64 j)),(26,.v (.b false))] (s.set l (.cells [.i .i64 (Ej rest d n).2]))
   else .ret [(6,.v (.b false))] (s.set l (.cells [.i .i64 (Ej rest d n).2]))
 | [],i,n,s,hn,hs,h=>by
  have h1:¬i<c.parts.length:=Nat.not_lt.2 (drop_nil h);refine ⟨i,ak fun K hK=>?_⟩;simp [qK,h1,Ej,Qm hs]
 | p::r,i,n,s,hn,hs,h=>by
  obtain ⟨h1,h2,h3,h4⟩:=drop_cons h;have h5:=h4 h3;have hp:p∈c.parts:=by rw [←h5];exact List.getElem_mem h3
  have hwi:=wI (i:=i) (by have:=hw.ps;omega);have hlt:l<s.length:=(List.getElem?_eq_some_iff.1 hs).1;have e1:=ih p hp (d+1) n s cx (by omega) hn hcl hs;have w1:IntKind.i64.wrap ((d:Int)+1)=(d:Int)+1:=w64 (by omega) (by omega);simp at e1;by_cases ht:(yC p (d+1) n).1=true
  ·have hle:=(agD p (d+1) n hn).2 ht;obtain ⟨j,ih2⟩:=KU c hw cx l hcl d hd ih r (i+1) (yC p (d+1) n).2 (s.set l (.cells [.i .i64 (yC p (d+1) n).2])) hle (by simp [hlt]) h2;refine ⟨j,ak fun K hK=>?_⟩;rw [←hK] at ih2;clear hK h4 ih;simp at ih2;simp [qK,h3,h5,hwi,w1,e1,ih2,Ej,ht]
  ·refine ⟨i,ak fun K hK=>?_⟩;clear hK h4 ih;simp [qK,h3,h5,hwi,w1,e1,Ej,ht]
theorem WH (l:Nat):∀(c:C),C.Lng c→∀(d n:Nat) (s:St) (cx:Ctx),d≤100→n≤64→cx.lim≤l→s[l]?=some (.cells [.i .i64 n])→
   aj P0 (.fn (.func sQ) [] []) [aJ c,.i .i64 d,.pt l 0] s cx=.ret (.b (yC c d n).1) (s.set l (.cells [.i .i64 (yC c d n).2])):=by
 refine C.ind' fun c ih hw d n s cx hd hn hcl hs=>?_;have hlt:l<s.length:=(List.getElem?_eq_some_iff.1 hs).1;have w1:IntKind.i64.wrap ((n:Int)+1)=(n:Int)+1:=w64 (by omega) (by omega);have hs':s[l]=.cells [.i .i64 n]:=(List.getElem?_eq_some_iff.1 hs).2;refine TJ (by simp) ?_;by_cases h8:(8:Int)<d
 ·simp [af,tV,hs',hlt,hcl,w1,h8,LD c,show 8<d by omega]
 by_cases h64:(64:Int)<(n:Int)+1
 ·simp [af,tV,hs',hlt,hcl,w1,h8,h64,LD c,show 64<n+1 by omega]
 ·obtain ⟨j,h⟩:=KU c hw ⟨cx.lim,s.length⟩ l hcl d (by omega) (fun p hp=>ih p hp (hw.sub p hp)) c.parts 0 (n+1) (s.set l (.cells [.i .i64 (n+1:Nat)])) (by omega) (by simp [hlt]) rfl;simp at h;have hcond:¬(8<d∨64<n+1):=by omega
  simp [af,tV,hs',hlt,hcl,w1,h8,h64,LD c,hcond,h]
  repeat' (first | (split<;>(try simp only [gm,gq,gB,kD,kE])<;>(try simp [*])) | (simp only [gm,gq,gB,kD,kE]<;>(try simp [*]))|omega)
def SA (a:Nat) (c:C):Env:=[(2,.v (.pt a 0)),(10,.v (.fn (.func jr) [] [.ip (aJ c).cells]))]
def sH (a:Nat) (c:C) (p:NQ):fQ:=.loop (SA a c) [11] l9 l7 p
theorem L9 (x:C) (a:Nat) {e':AV} (T:St) (cx:Ctx) (hb:cx.base≤T.length) (hlt:cx.lim≤T.length):
  aC P0.glob (aj P0) cx true l9 [(11,.v (aJ x)),(2,.v (.pt a 0)),(10,.v e')] T=.norm [(2,.v (.pt a 0)),(4,.v (.pt T.length 0))] (T++[.cells (aJ x).cells]):=by
 simp [l9,hb,hlt]
theorem L8 (x:C) (hx:x.name.length≤1152921504606846976) (a m:Nat) (v:AV) (S:St) (cx:Ctx) (hm:S[m]?=some (.cells (aJ x).cells)) (ha:S[a]?=some (.cells [v])) (hca:cx.lim≤a):
  aC P0.glob (aj P0) cx true l7 [(2,.v (.pt a 0)),(4,.v (.pt m 0))] S=
   if sF x=0 then .norm [(2,.v (.pt a 0)),(5,.v (.i .i64 (sF x))),(15,.v (.b false))] S else .ret [] (S.set a (.cells [.i .i64 (sF x)])):=by
 have e1:=Ij x hx;simp at hm
 by_cases h0:sF x=0<;>simp [l7,hm,ha,hca,e1,h0]
theorem P9 (c x:C) (hx:x.name.length≤1152921504606846976) (a l:Nat) (v:AV) (T:St) (cx:Ctx) (hl:T[l]?=some (sH a c .ready)) (ha:T[a]?=some (.cells [v])) (hcl:cx.lim≤l) (hca:cx.lim≤a) (hb:cx.base≤T.length) (hlt:cx.lim≤T.length):
  aj P0 (.yl l) [aJ x] T cx=if sF x=0 then .ret (.b true) (T++[.cells (aJ x).cells])
   else .ret (.b false) ((T.set a (.cells [.i .i64 (sF x)])).set l (sH a c .ret)++[.cells (aJ x).cells]):=by
 have hl1:l<T.length:=(List.getElem?_eq_some_iff.1 hl).1;have ha1:a<T.length:=(List.getElem?_eq_some_iff.1 ha).1;have hal:¬l=a:=by intro e;subst e;rw [hl] at ha;simp [sH] at ha
 have hl2:T[l]=sH a c .ready:=(List.getElem?_eq_some_iff.1 hl).2;have hA:=L9 (e':=.fn (.func jr) [] [.ip (aJ c).cells]) x a T cx hb hlt;have hR:=L8 x hx a T.length v (T.set l (sH a c .busy)++[.cells (aJ x).cells]) cx (by rw [List.getElem?_append_right (by simp)];simp) (by rw [List.getElem?_append_left (by simpa using ha1)];rw [List.getElem?_set_ne hal];exact ha) hca
 refine NM (by split<;>simp) ?_
 unfold IU;rw [hl];simp only [sH,SA,Dh,put,lk];simp at hA hR;have hset:=Qm hl;simp only [sH,SA] at hset hR;simp at hset hR;by_cases h0:sF x=0
 ·simp [hA,hcl,hl1,hR,h0,sG,hset,List.getElem?_append_left,hl2,sH,SA]
 ·simp [hA,hcl,hl1,hR,h0,sG,List.getElem?_append_left,hl2,sH,SA,ha1,Ne.symm hal,hal];rw [List.set_comm _ _ hal,List.set_set]
theorem Vm (x:C):iH x=if sF x=0 then rM x.parts else sF x:=by
 rw [CZ];unfold sF
 by_cases h1:kS x=false<;>by_cases h2:uf x=false<;>simp [h1,h2]
theorem Iy (c x:C) (hw:C.Lng x) (a l:Nat) (v:AV) (cx:Ctx) (T:St) (hl:T[l]?=some (sH a c .ready)) (ha:T[a]?=some (.cells [v])) (hcl:cx.lim≤l) (hca:cx.lim≤a)
  (ih:∀p∈x.parts,∀(T:St) (cx:Ctx),T[l]?=some (sH a c .ready)→T[a]?=some (.cells [v])→cx.lim≤l→cx.lim≤a→
   aj P0 (.fn (.func mr) [] []) [aJ p,.yl l] T cx=if iH p=0 then .ret (.b true) T else .ret (.b false) ((T.set a (.cells [.i .i64 (iH p)])).set l (sH a c .ret))):
  ∀(rest:List C) (i:Nat),x.parts.drop i=rest→
  ∃j:Int,gU (aC P0.glob (aj P0) cx false jL) [1,12,13,14] [(1,.v (.yl l)),(12,.v (slf x.z (x.parts.map aJ))),(13,.v (.i .i64 x.parts.length)),(14,.v (.i .i64 i))] T=
   if rM rest=0 then .exit 0 [(1,.v (.yl l)),(12,.v (slf x.z (x.parts.map aJ))),(13,.v (.i .i64 x.parts.length)),(14,.v (.i .i64 j)),(15,.v (.b false))] T
   else .ret [(4,.v (.b false))] ((T.set a (.cells [.i .i64 (rM rest)])).set l (sH a c .ret))
 | [],i,h=>by
  have h1:¬i<x.parts.length:=Nat.not_lt.2 (drop_nil h);refine ⟨i,ak fun K hK=>?_⟩;simp [jL,h1,rM]
 | p::r,i,h=>by
  obtain ⟨h1,h2,h3,h4⟩:=drop_cons h;have h5:=h4 h3;have hp:p∈x.parts:=by rw [←h5];exact List.getElem_mem h3
  have hwi:=wI (i:=i) (by have:=hw.ps;omega);have e1:=ih p hp T cx hl ha hcl hca;by_cases h0:iH p=0
  ·obtain ⟨j,ih2⟩:=Iy c x hw a l v cx T hl ha hcl hca ih r (i+1) h2;refine ⟨j,ak fun K hK=>?_⟩;rw [←hK] at ih2;clear hK h4 ih;simp at ih2;simp [jL,h3,h5,hwi,e1,ih2,rM,h0]
  ·refine ⟨i,ak fun K hK=>?_⟩;clear hK h4 ih;simp [jL,h3,h5,hwi,e1,rM,h0]
theorem TT (c:C) (a l:Nat) (v:AV):∀(x:C),C.Lng x→∀(T:St) (cx:Ctx),T[l]?=some (sH a c .ready)→T[a]?=some (.cells [v])→cx.lim≤l→cx.lim≤a→
   aj P0 (.fn (.func mr) [] []) [aJ x,.yl l] T cx=if iH x=0 then .ret (.b true) T else .ret (.b false) ((T.set a (.cells [.i .i64 (iH x)])).set l (sH a c .ret)):=by
 refine C.ind' fun x ih hw T cx hl ha hcl hca=>?_;have hl1:l<T.length:=(List.getElem?_eq_some_iff.1 hl).1;have ha1:a<T.length:=(List.getElem?_eq_some_iff.1 ha).1;have hy:=P9 c x hw.n a l v T ⟨cx.lim,T.length⟩ hl ha hcl hca (Nat.le_refl _) (by simp;omega)
 refine F9 (by split<;>simp) ?_
 simp at hy;by_cases h0:sF x=0
 ·obtain ⟨j,h⟩:=Iy c x hw a l v ⟨cx.lim,T.length⟩ (T++[.cells (aJ x).cells]) (by rw [List.getElem?_append_left hl1];exact hl) (by rw [List.getElem?_append_left ha1];exact ha) hcl hca
   (fun p hp T cx=>ih p hp (hw.sub p hp) T cx) x.parts 0 rfl
  simp at h;by_cases hz:rM x.parts=0
  ·simp [af,ou,hy,h0,h,hz,Vm x,frz,AV.under]
  ·simp [af,ou,hy,h0,h,hz,Vm x,frz,AV.under,ha1,hl1,List.set_append_left]
 ·simp [af,ou,hy,h0,Vm x,frz,AV.under,List.take_append_of_le_length]
theorem aaN (s r:St) (k:Nat):(s++r)[s.length+k]?=r[k]?:=by rw [List.getElem?_append_right (by omega)];congr 1;omega
theorem aaj (s r:St) (k:Nat) (v:fQ):(s++r).set (s.length+k) v=s++r.set k v:=by rw [List.set_append_right _ _ (by omega)];congr 2;omega
@[simp] theorem agP (c:C) (s:St) (cx:Ctx):aj P0 (.fn (.func vP) [] []) [aJ c] s cx=.ret (.fn (.func jr) [] [.ip (aJ c).cells]) s:=by
 refine TI (by simp) ?_;simp [af,zh,frz,Ak]
theorem yG (c:C) (hw:C.Lng c) (s:St) (cx:Ctx):aj P0 (.fn (.func kL) [] []) [aJ c] s cx=.ret (.i .i64 (ve c)) s:=by
 refine EW (by simp) ?_;have e1:=WH (s.length+1) c hw 0 0 (s++[.cells [.i .i64 0],.cells [.i .i64 0]]) ⟨s.length,s.length⟩ (by omega) (by omega) (by simp) (by simp);have hf:=agE c 0 0 (by omega);simp at e1;by_cases hfit:(yC c 0 0).1=true
 ·have hcond:¬(8<yX c∨64<nY c):=by have:=hf.1.1 hfit;omega
  let T:St:=s++[.cells [.i .i64 0],.cells [.i .i64 (yC c 0 0).2],.dfr,sH s.length c .ready]
  have hv:=TT c s.length (s.length+3) (.i .i64 0) c hw T ⟨s.length,T.length⟩ (by simp [T]) (by simp [T]) (by simp) (by simp)
  have hw1:aj P0 (.fn (.func jr) [] [.ip (aJ c).cells]) [.yl (s.length+3)] T ⟨s.length,s.length⟩=
    if iH c=0 then .ret (.tu []) T else .ret (.tu []) ((T.set s.length (.cells [.i .i64 (iH c)])).set (s.length+3) (sH s.length c .ret)):=by
   refine EL (by split<;>simp) ?_
   by_cases h0:iH c=0<;>simp [h0] at hv<;>simp [af,sU,hv,h0]
  simp [T] at hw1;by_cases h0:iH c=0
  ·simp [h0,sH,SA] at hw1;simp [af,jV,e1,hfit,Fj,hw1,ve,hcond,h0,D9,show s.length+2+1=s.length+3 from rfl,aaN,aaj]
  ·simp [h0,sH,SA] at hw1;simp [af,jV,e1,hfit,Fj,hw1,ve,hcond,h0,D9,show s.length+2+1=s.length+3 from rfl,aaN,aaj]
 ·have hcond:(8<yX c∨64<nY c):=by
   rcases Nat.lt_or_ge 8 (yX c) with h|h
   ·exact .inl h
   ·rcases Nat.lt_or_ge 64 (nY c) with h' | h'
    ·exact .inr h'
    ·exact absurd (hf.1.2 ⟨by omega,by omega⟩) hfit
  simp [af,jV,e1,hfit,ve,hcond]
end Go.Ai.Z
namespace Go.Ai.Z
open Go.Lib (itoa decDigits)
def amM:Rl:=[32,97,110,100,32]
mutual
def textS:C→Rl
 | .mk k n lo hi _ ps=>
  if k=1 then wD4
  else if k=2 then [110,111,116,104,105,110,103]
  else if k=3 then n
  else if k=4 then 123::(n++[125])
  else if k=7 then n++[32,105,110,32]++itoa lo++[32,116,111,32]++itoa hi
  else if k=6 then [115,111,109,101,32]++n++[32]++(ah5 ps).headD []
  else joinL amM (ah5 ps)
def ah5:List C→List Rl
 | []=>[]
 | .mk k n lo hi z ps::r=>(if k=5 then 40::(textS (.mk k n lo hi z ps)++[41]) else textS (.mk k n lo hi z ps))::ah5 r
end
theorem J4 {c:C} (h:iH c=0):kS c=true∧uf c=true∧∀p∈c.parts,iH p=0:=by
 rw [CZ] at h;by_cases h1:kS c=true
 ·by_cases h2:uf c=true
  ·simp [h1,h2] at h;refine ⟨h1,h2, ?_⟩;generalize c.parts=l at h
   induction l with
   | nil=>intro p hp;cases hp
   | cons a r ih=>
    simp only [rM] at h;intro p hp;by_cases h0:iH a=0
    ·rw [if_pos h0] at h;rcases List.mem_cons.1 hp with rfl|hp
     ·exact h0
     ·exact ih h p hp
    ·rw [if_neg h0] at h;exact absurd h h0
  ·simp [h1,h2] at h
 ·simp [h1] at h
theorem I4 {c:C} (h:kS c=true):c.kind=1∨c.kind=2∨c.kind=3∨c.kind=4∨c.kind=7∧-1099511627776≤c.lo∧c.lo≤c.hi∧c.hi≤1099511627776∨c.kind=6∧c.parts.length=1∨c.kind=5∧2≤c.parts.length:=by
 unfold kS at h;by_cases k1:c.kind=1
 ·exact .inl k1
 by_cases k2:c.kind=2
 ·exact .inr (.inl k2)
 by_cases k3:c.kind=3
 ·exact .inr (.inr (.inl k3))
 by_cases k4:c.kind=4
 ·exact .inr (.inr (.inr (.inl k4)))
 by_cases k5:c.kind=5
 ·simp [k5] at h;exact .inr (.inr (.inr (.inr (.inr (.inr ⟨k5,by omega⟩)))))
 by_cases k6:c.kind=6
 ·simp [k6] at h;exact .inr (.inr (.inr (.inr (.inr (.inl ⟨k6,by omega⟩)))))
 by_cases k7:c.kind=7
 ·simp [k7] at h;exact .inr (.inr (.inr (.inr (.inl ⟨k7,by omega,by omega,by omega⟩))))
 ·simp [k1,k2,k3,k4,k5,k6,k7] at h
theorem Dz (l:List Rl) (sep:Rl):(joinL sep l).length≤(l.map fun x=>x.length+sep.length).sum:=by
 cases l with
 | nil=>simp [joinL]
 | cons x r=>
  simp only [joinL,List.length_append,List.length_flatMap,List.map_cons,List.sum_cons]
  have:(r.map fun y=>sep.length+y.length)=r.map fun x=>x.length+sep.length:=by
   apply List.map_congr_left;intro y _;omega
  rw [this];omega
end Go.Ai.Z
namespace Go.Ai.Z
open Go.Lib (itoa)
theorem kd {x j:Int} (k:x=j):decide (x=j)=true:=by simp [k]
theorem kn {x j:Int} (i:Int) (k:x=j) (h:decide (j=i)=false):decide (x=i)=false:=by rw [k];exact h
end Go.Ai.Z
namespace Go.Ai.Z
open Go.Lib (itoa)
attribute [local simp] find jF uH
theorem ako (l:List Rl):l.mapM (strOf ∘ AV.s)=some l:=by
 induction l with
 | nil=>rfl
 | cons a r ih=>simp [strOf,ih]
theorem Gy (l:List Rl) (sep:Rl) (h:(joinL sep l).length≤1048576) (h':l.length≤1048576) (s:St) (cx:Ctx):aj P0 (.fn (.func yw) [] []) [.sl (l.map .s),.s sep] s cx=.ret (.s (joinL sep l)) s:=
 sK (h:=Iu XZ) rfl (by simp [XZ,ako,h,h'])
theorem SH (n:Int) (h:-9223372036854775808≤n) (h':n≤9223372036854775807) (s:St) (cx:Ctx):aj P0 (.fn (.func Bv) [] []) [.i .i64 n] s cx=.ret (.s (itoa n)) s:=
 sK (h:=Iu X0) rfl (by simp [X0,h,h'])
end Go.Ai.Z
